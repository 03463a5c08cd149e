/- part 3 -/
import Derived.Test.YtmdbmigbihboaaaGreatDoorZWholeNothing2
set_option linter.all false
noncomputable section
open Go Go.RowKit
set_option maxRecDepth 100000
namespace Go.Proofs.YtmdbmigbihboaaaGreatDoor
variable{i s:Operand}{b:TypeId}{u:Value}
def WM{α:Type}(xs:List α)(l m:Int)(z:α):Option (List α):=if 0<=l/\0<=m/\l+m<=xs.length then some (KV xs l.toNat m.toNat z)else none
def Ip(T:TypeId->bj)(ev:Nat->EV)(hg:Nat->Option dR)(t:TypeId)(x:Operand){R:Type}(k:eF->List Nat->Option R):Option R:=
 match ep ev x with
 |.sw j l m sz=>match hg j with
  |some (.arr e r xs wr)=>match(T t).el with
   |some (_,Y5,_,z)=>cond (Nat.beq sz r.w && Nat.beq Y5 r.w && Nat.blt 0 sz && wr) (match qF r z with
    |some []=>aW (WM xs l m (zeroV r)) λys=>k [(j,some (.arr e r ys true))] [j]
    |_=>none) none
   |none=>none
  |_=>none
 |_=>none
def Iq(s:Sc){β:Type}:List (s.cQ×β)->s.cQ->Nat
 |[],_=>0
 |p::es,x=>cond (iB s p.1 x) 0 (Iq s es x+1)
def Zy(vc:Sc)(z:Value):Bool:=match vc with
 |.i k=>match z with
  |.int l n=>decide (k=l/\n=0)
  |_=>false
 |_=>false
def BM(T:TypeId->bj)(ev:Nat->EV)(hg:Nat->Option dR)(t:TypeId)(x y:Operand){R:Type}(k:EV->eF->List Nat->Option R):Option R:=
 match ep ev x with
 |.mp j=>match hg j with
  |some (.mp d kc vc es)=>match(T t).mp with
   |some (td,z)=>match Ij kc (ep ev y)with
    |some a=>cond (kC d kc && kC td kc && Zy vc z) (k (.tu [iL vc ((bC kc es a).getD (zeroV vc)),.sc (.i .i64) ((Iq kc es a:Nat):Int)]) [(j,some (.mp d kc vc (dI kc es a ((bC kc es a).getD (zeroV vc)))))] [j]) none
    |none=>none
   |none=>none
  |_=>none
 |_=>none
def PF{α β:Type}(es:List (α×β))(i:Int)(b:β):Option (List (α×β)):=if 0<=i then(es[i.toNat]?).map λp=>es.set i.toNat (p.1,b)else none
def zl(T:TypeId->bj)(ev:Nat->EV)(hg:Nat->Option dR)(t:TypeId)(x y v:Operand){R:Type}(k:eF->List Nat->Option R):Option R:=
 match ep ev x with
 |.mp j=>match hg j with
  |some (.mp d kc vc es)=>match(T t).mp with
   |some (td,_)=>match qG ev y with
    |some i=>match WJ vc (ep ev v)with
     |some b=>cond (kC d kc && kC td kc) (aW (PF es i b) λes'=>k [(j,some (.mp d kc vc es'))] [j]) none
     |none=>none
    |none=>none
   |none=>none
  |_=>none
 |_=>none
section
variable{P:Program}{T:TypeId->bj}{ev:Nat->EV}{hg:Nat->Option dR}{n d:Nat}{ty:TypeId}{pos:String}{af:Array Edge}{gd:Option (Nat×Bool)}
def afe{α β:Type}(f:α->β)(a:List α)(l m:Nat)(z:α):(KV a l m z).map f=KV (a.map f) l m (f z):=by
 simp[KV,asD,asY]
def oT.append{a b a' b':List (List AV)}(h:oT a b)(k:oT a' b'):oT (a++a') (b++b'):=by
 induction h with
 |nil=>exact k
 |cons c _ e=>exact .cons c e
def oT.same:∀a:List (List AV),oT a a
 |[]=>.nil
 |r::a=>.cons (nk.refl r) (oT.same a)
def PH(F:f_ P T){R:Type}{k:eF->List Nat->Option R}{r:R}(h:Ip T ev hg b i k=some r):
 ∃w x,FS P ⟨none,.call ⟨.builtin .clear, #[i], #[b]⟩,ty,pos,af,gd⟩ n ev hg .un w x .no/\k w x=some r:=by
 unfold Ip at h;split at h
 ·rename_i j l m M v
  split at h
  ·rename_i e a y wr G
   split at h
   ·rename_i E V N z J
    obtain⟨u,q⟩:=aX h;simp only[aqe]at u;obtain⟨⟨⟨o,p⟩,c⟩,A⟩:=u;have o:=aqj o;have p:=aqj p;have c:0<M:=aqk c;subst A;split at q
    ·rename_i L
     obtain⟨W,f,H⟩:=bf q;unfold WM at f;split at f
     ·rename_i Q
      cases f;refine⟨_,_,λg U I D S=>?_,H⟩;obtain⟨X,t,B,O,C⟩:=mH a L;rw[aqV]at t;subst t;subst p;rw[o]at v c;have:=SS.clear (P:=P) (K:=λs=>s=⟨g.n,g.t,(j,some (.arr e a.w (KV (List.map (bx a) y) l.toNat m.toNat (z.map lj)) true))::g.h⟩) (ty:=ty) (pos:=pos) (af:=af) (gd:=gd) (F.el _ _ J) (I.is v (by intro e;cases e)) (D.at (by simp) G) (by rw[aqn];omega) c C rfl;refine this.lB ?_;refine bX.vZ (h:=g.h) (rows':=List.map (bx a) (KV y l.toNat m.toNat (zeroV a))) ?_ (eD a _);rw[afe];exact(oT.same _).append ((oT.rep B m.toNat).append (oT.same _))
     ·cases f
    ·cases q
   ·cases h
  ·cases h
 ·cases h
def KZ{a g:Sc}(c:a.key=true):∀(b:List (a.cQ×g.cQ)) (x:a.cQ),FL (my a g b) (oU a x)=Iq a b x
 |[],_=>rfl
 |p::b,x=>by
  rw[my,aqz,FL,Iq];by_cases h:p.1=x
  ·rw[aqd (by rw[h]),(e_ a _ _ c).2 h];rfl
  ·rw[aqc (λe=>h (C0 a _ _ c e))]
   have:iB a p.1 x=false:=by
    cases i:iB a p.1 x with
    |false=>rfl
    |true=>exact absurd ((e_ a _ _ c).1 i) h
   rw[this];have f:=KZ c b x;rw[my]at f;rw[f];rfl
def Zz{a:Sc}(h:Zy a u=true):Kc u=enc (iL a (zeroV a)):=by
 unfold Zy at h;split at h
 ·split at h
  ·obtain⟨rfl,rfl⟩:=aq7 h
   rfl
  ·cases h
 ·cases h
def C9(B:f_ P T){R:Type}{k:EV->eF->List Nat->Option R}{r:R}(J:d<n)(h:BM T ev hg b i s k=some r):
 ∃c j m f l g a,hg j=some (.mp m f l g)/\FS P ⟨some d,.mapEntry b i s,ty,pos,af,gd⟩ n ev hg c [(j,some (.mp m f l (dI f g a ((bC f g a).getD (zeroV l)))))] [j] .no/\k c [(j,some (.mp m f l (dI f g a ((bC f g a).getD (zeroV l)))))] [j]=some r:=by
 unfold BM at h;split at h
 ·rename_i j E
  split at h
  ·rename_i m f l g u
   split at h
   ·rename_i M z D
    split at h
    ·rename_i a p
     obtain⟨t,y⟩:=aX h;simp only[aqe]at t;obtain⟨⟨o,w⟩,x⟩:=t;have C:=nZ o w;subst C;obtain⟨H,q⟩:=qU o a;have G:=Zz x;refine⟨_,_,_,_,_,_,a,u,λI L v A K=>?_,y⟩;have F:I.ev s=enc (ep ev s):=v.is rfl (λe=>by rw[e]at p;cases f<;>simp[Ij,F9]at p);have look:(eW (my f l g) (oU f a)).getD (Kc z)=enc (iL l ((bC f g a).getD (zeroV l))):=by
      rw[nT q,G];cases bC f g a<;>rfl
     refine SS.mapEntry (B.mp _ _ D) (v.is E (by intro e;cases e)) (A.at (by simp) u) (by rw[F];exact vY o p) H (by omega) ?_;rw[look,C1 q,KZ q];rfl
    ·cases h
   ·cases h
  ·cases h
 ·cases h
def Ir(E:f_ P T){x y v:Operand}{R:Type}{k:eF->List Nat->Option R}{r:R}(h:zl T ev hg b x y v k=some r):
 ∃u A,FS P ⟨none,.entryStore b x y v,ty,pos,af,gd⟩ n ev hg .un u A .no/\k u A=some r:=by
 unfold zl at h;split at h
 ·rename_i j N
  split at h
  ·rename_i O g f m I
   split at h
   ·rename_i X z L
    split at h
    ·rename_i i G
     split at h
     ·rename_i a s
      obtain⟨o,C⟩:=aX h;simp only[aqe]at o;have F:=nZ o.1 o.2;subst F;obtain⟨Q,l,J⟩:=bf C;unfold PF at l;split at l
      ·rename_i S
       obtain⟨p,K,rfl⟩:=aqL.1 l;refine⟨_,_,λw V t D U=>?_,J⟩;have B:enc (ep ev v)=enc (iL f a):=by rcases RP s with h|h<;>exact h.1
       have M:w.ev v=enc (ep ev v):=t.is rfl (λe=>by rw[e]at s;cases f<;>simp[WJ]at s);obtain⟨W,q⟩:=jr G t;have H:((i.toNat:Nat):Int)=i:=by omega
       refine SS.entryStore (i:=i.toNat) (kv:=oU g p.1) (c0:=enc (iL f p.2)) (E.mp _ _ L) (t.is N (by intro e;cases e)) (by rw[H];exact q) (h1:=w.h) (c:=enc (iL f a)) (by rw[M,B];exact C7 f a) (D.at (by simp) I) ?_ ?_
       ·show(my g f m)[i.toNat]? =_
        rw[my,aqA,K];rfl
       ·simp only[bs,Option.map,bS]
        have:(my g f m).set i.toNat (oU g p.1,enc (iL f a))=my g f (m.set i.toNat (p.1,a)):=by
         rw[my,my,asb]
        rw[this];rfl
      ·cases l
     ·cases h
    ·cases h
   ·cases h
  ·cases h
 ·cases h
end
variable{Q:AV}{I:Bs}{v:Env}{F:Hp}{E e:Nat}{a:Nat->Nat->Value->Prop}{M:Option Env}{y:TypeId}{m:World}
section
variable{P:Program}
def SR.PI(f:SR I a v F m){b:Nat}{o o':Ob}(B:aY F b=some o)(C:OR (bF I a v F m) v m b o'):
 SR I a v ((b,some o')::F) m/\∀e g u,bF I a v F m e g u->bF I a v ((b,some o')::F) m e g u:=by
 have k:∀j ob,aY ((b,some o')::F) j=some ob->∃i,aY F j=some i:=λj ob c=>by
  by_cases h:j=b
  ·subst h;exact⟨o,B⟩
  ·rw[a_ h]at c;exact⟨ob,c⟩
 have r:∀e g u,bF I a v F m e g u->bF I a v ((b,some o')::F) m e g u:=λe g u q=>⟨q.1,q.2.1,λj ob c p=>by
  obtain⟨i,l⟩:=k j ob c;exact q.2.2 j i l p⟩
 refine⟨⟨f.ext,f.jG,λj ob c=>?_,λj ob e c p=>?_,λj s ob D e z A t w=>?_,f.tV⟩,r⟩
 ·refine OR.mono r ?_
  by_cases h:j=b
  ·subst h
   rw[bc]at c;cases c;exact C
  ·rw[a_ h]at c
   exact f.ob j ob c
 ·obtain⟨i,l⟩:=k j ob c
  exact f.base j i e l p
 ·obtain⟨E,x⟩:=k j ob z
  obtain⟨G,y⟩:=k s D A;exact f.inj j s E G e x y t w
def FM(c:AV):Prop:=∃q i s,c=.pe q i s 0/\4294967296<=q
def FM.cell(h:FM Q){Rd:Nat->Nat->Value->Prop}(a:VR Rd M Q u):u.oneCell'=true:=by
 obtain⟨q,i,s,rfl,_⟩:=h;cases a;rfl
def FM.vr{w p:World}{a Rd f:Nat->Nat->Value->Prop}{e b:Env}{h g:Hp}(m:FM Q)(j:SR I a e h w)(k:SR I a b g p)(o:VR Rd (some e) Q u):VR f (some b) Q u:=by
 obtain⟨q,i,s,rfl,c⟩:=m;cases o with
 |pe l=>exact .pe (by rw[(k.tV q c).1,<-(j.tV q c).1];exact l)
def PJ(a:List Value):(a.map λu=>([.v u]:List AV)).flatten=a.map AV.v:=by
 induction a with
 |nil=>rfl
 |cons u a b=>simp[b]
def LR.RT{Rd:Nat->Nat->Value->Prop}{E:Option Env}(b:List Value):LR (VR Rd E) (b.map AV.v) b:=⟨by simp,λj c u a e=>by
 rw[aqA]at a;rw[e]at a;cases a;exact .v⟩
variable{st:St}
def Ga.toV{e:Act}(h:Ga I a v st e m){k:Nat}{E:TypeId}{cs:List AV}(w:aY st.h k=some (.nr E cs))(G:∀c∈cs,FM c):
 ∃f,LR (VR (bF I a v st.h m) (some v)) cs f/\Ga I a v ⟨st.n,st.t,(k,some (.arr E 1 (f.map λu=>[.v u]) true))::st.h⟩ e m:=by
 obtain⟨p,J⟩:=h.sr.ob _ _ w;obtain⟨f,D,F⟩:∃f,LR (VR (bF I a v st.h m) (some v)) cs f/\OR (bF I a v st.h m) v m k (.arr E 1 (f.map λu=>[.v u]) true):=by
  rcases J with⟨rfl,i,l⟩|⟨b,B,o,x,i,l,y,z,A,g⟩
  ·exact⟨[],LR.nil,by simp,by simp,λ_=>p,.inl ⟨rfl,i,l⟩⟩
  ·refine⟨o.toList.take cs.length,g,λr H=>?_,λc q=>?_,λ_=>p,.inr ⟨b,B,o,x,?_,?_,y,z,by rw[A,arH],?_,by rw[p];exact aqI _⟩⟩
   ·obtain⟨u,_,rfl⟩:=aqq.1 H;rfl
   ·rw[PJ]at q
    obtain⟨u,M,rfl⟩:=aqq.1 q;obtain⟨j,s,rfl⟩:=aqY M;have t:j<cs.length:=by rw[<-g.1];exact s
    exact(G _ (asH t)).cell (g.2 j _ _ (aqm t) (aqm s))
   ·rw[aqn,g.1];exact i
   ·rw[aqn,g.1];exact l
   ·rw[PJ,aqn]
    have:=LR.RT (Rd:=bF I a v st.h m) (E:=none) (o.toList.take cs.length);rw[g.1];exact this
 obtain⟨L,C⟩:=h.sr.PI w F;exact⟨f,D,h.n,h.d,L,h.tr.mono C⟩
def Ga.ofV{e:Act}{n:Nat}{t:List (Nat×AV)}{d:Nat}{h:List Value}{cs:List AV}
 (f:Ga I a v ⟨n,t,(d,some (.arr b 1 (h.map λu=>[.v u]) true))::F⟩ e m) (q:h.length=cs.length) (y:∀(j:Nat) c u,cs[j]? =some c->h[j]? =some u->∀Rd,VR Rd (some v) c u):
 Ga I a v ⟨n,t,(d,some (.nr b cs))::F⟩ e m:=by
 have k:=(f.sr.ob d _ bc).aia;rw[PJ]at k;have r:=k.an6 (cs':=cs) (by simp[q]) λj c l i p u w=>by
  rw[aqA]at i;obtain⟨z,x,rfl⟩:=aqL.1 i;rw[w.bE];exact y j l z p x _
 obtain⟨s,o⟩:=f.sr.PI bc r;exact(⟨f.n,f.d,s,f.tr.mono o⟩:Ga I a v ⟨n,t,(d,some (.nr b cs))::(d,some (.arr b 1 (h.map λu=>[.v u]) true))::F⟩ e m).ky λj=>by
  by_cases g:j=d
  ·subst g;rw[bc,bc]
  ·rw[a_ g,a_ g,a_ g]
variable{d:Nat}{ty:TypeId}{pos:String}{af:Array Edge}{gd:Option (Nat×Bool)}{K:St->Prop}
def SS.aof{t E:TypeId}{x:Operand}{q i s J:Nat}{z:List Value}(ht:Ft P t=some (E,1,J,z))(h:st.ev x=.pe q i s 0)(Z:4294967296<=q)(O:d<st.n)
 (M:K ⟨st.n,(d,.ow d)::cP d st.t,(d,some (.nr E [.pe q i s 0]))::bh d st.h⟩):SS P ⟨some d,.buildSlice t 1 #[(0,x)],ty,pos,af,gd⟩ st K:=by
 intro y p e a w next Q l Y
 have r:FM (.pe q i s 0):=⟨q,i,s,rfl,Z⟩;have o:=l.ev x;rw[h]at o;have R:d≠q:=by have:=l.n.2;omega
 cases x with
 |tmp j=>
  obtain⟨u,G⟩:∃u,u=a.eval (.tmp j):=⟨_,rfl⟩;rw[<-G]at o;have A:=r.cell o;have V:a.tmps.getD j undef=u:=G.symm;have U:Ga y p e ⟨st.n,(j,.v u)::st.t,st.h⟩ a w:=⟨l.n,l.d,l.sr,λk=>by
   by_cases b:k=j
   ·subst b;simp only[bz,aqP];rw[V];exact .v
   ·simp only[bz,aqc b];exact l.tr k⟩
  have S:(⟨st.n,(j,.v u)::st.t,st.h⟩:St).ev (.tmp j)=.v u:=by show bz ((j,.v u)::st.t) j=_;simp[bz]
  have N:cellsOf (.v u)=some [.v u]:=by simp[cellsOf,AV.one,A]
  have step:=SS.vX (P:=P) (st:=⟨st.n,(j,.v u)::st.t,st.h⟩) (t:=t) (len:=1) (parts:= #[(0,.tmp j)]) (h':=st.h) (aS:=[.v u]) (cs:=[.v u]) (qs:=[(0,[.v u])]) (d:=d) (ty:=ty) (pos:=pos) (af:=af) (gd:=gd)
   (K:=λs'=>s'=⟨st.n,(d,.ow d)::cP d ((j,.v u)::st.t),(d,some (.arr E 1 ([u].map λu=>[.v u]) true))::bh d st.h⟩) ht
   (by simp only[aqz,aro,S];rfl) (by simp[kV,N]) rfl (by simp[AV.one,A]) (by omega) (by omega) O rfl
  refine step y p e a w next Q U λa2 a0 L I w' C=>?_
  subst a0;have H:VR (bF y p e st.h w) (some e) (.pe q i s 0) u:=o;have m:=C.ofV (cs:=[.pe q i s 0]) rfl λj c u' B a1 Rd=>by
   cases j with
   |zero=>cases B;cases a1;exact r.vr l.sr C.sr H
   |succ j=>simp at B
  refine Y _ M L I w' ⟨m.n,m.d,m.sr,λk=>?_⟩;have b:=m.tr k;by_cases D:k=d
  ·subst D;simpa[bz]using b
  ·simp only[bz,aqc D,cP]at b⊢
   by_cases F:k=j
   ·subst F
    rw[aqd rfl]at b;have X:AV.kill d (.v u)=.v u:=by simp[AV.kill,AV.fQ]
    rw[X]at b;rw[b.bE,sJ];have:bz st.t k=.pe q i s 0:=h;rw[this];have W:AV.kill d (.pe q i s 0)=.pe q i s 0:=by simp[AV.kill,AV.fQ,R.symm]
    rw[W];exact r.vr l.sr m.sr H
   ·rwa[aqc F]at b
 |const v=>simp only[St.ev,lj]at h;split at h<;>cases h
 |global g=>simp only[St.ev,gA]at h;split at h<;>cases h
 |func f=>cases h
def Ga.y6{c:Act}{n:Nat}{t:List (Nat×AV)}{h h2:Hp}(hg:Ga I a v ⟨n,t,h⟩ c m)(r:∀k,aY h2 k=aY h k\/aY h2 k=none):Ga I a v ⟨n,t,h2⟩ c m:=by
 have g:∀k ob,aY h2 k=some ob->aY h k=some ob:=λk ob e=>by
  rcases r k with f|f
  ·rw[<-f];exact e
  ·rw[f]at e;cases e
 have i:∀b o u,bF I a v h m b o u->bF I a v h2 m b o u:=λb o u ⟨f,h2,p⟩=>⟨f,h2,λk ob e q=>p k ob (g k ob e) q⟩;exact⟨hg.n,hg.d,⟨hg.sr.ext,hg.sr.jG,λk ob e=>(hg.sr.ob k ob (g k ob e)).mono i,λk ob b e=>hg.sr.base k ob b (g k ob e),λk j ob l b f h2=>hg.sr.inj k j ob l b (g k ob f) (g j l h2),hg.sr.tV⟩,hg.tr.mono i⟩
def SS.aog{t E:TypeId}{x y:Operand}{k l B:Nat}{z:List Value}{cs ds:List AV}(ht:Ft P t=some (E,1,B,z))(hx:st.ev x=.ow k)(hy:st.ev y=.ow l)(Y:aY st.h k=some (.nr E cs))(Z:aY st.h l=some (.nr E ds))
 (v:k≠l) (V:d≠k) (D:∀c∈cs,FM c) (F:∀c∈ds,FM c) (hm:cs.length+ds.length<=maxLen) (S:(cs.length+ds.length)*B<=140737488355328) (U:d<st.n)
 (R:K ⟨st.n,(d,.ow d)::cP d st.t,(d,some (.nr E (cs++ds)))::(k,none)::(l,none)::bh d st.h⟩):SS P ⟨some d,.call ⟨.builtin .append, #[x,y], #[t,t]⟩,ty,pos,af,gd⟩ st K:=by
 intro w0 M e a w next Q s hn
 obtain⟨p,J,G⟩:=s.toV Y D;obtain⟨vs,L,H⟩:=G.toV (k:=l) (E:=E) (cs:=ds) (by show aY ((k,some _)::st.h) l=_;rw[a_ (Ne.symm v)];exact Z) F;have a1:d<4294967296:=by have:=s.n.2;omega
 obtain⟨b,f⟩:∃b:St,b=⟨st.n,st.t,(l,some (.arr E 1 (vs.map λu=>[.v u]) true))::(k,some (.arr E 1 (p.map λu=>[.v u]) true))::st.h⟩:=⟨_,rfl⟩;rw[<-f]at H;have C:∀z:Operand,b.ev z=st.ev z:=λz=>by rw[f];cases z<;>rfl
 have o:p.length=cs.length:=J.1;have A:vs.length=ds.length:=L.1;have step:=SS.Ky (P:=P) (st:=b) (x:=x) (y:=y) (h1:=(l,some (.arr E 1 (vs.map λu=>[.v u]) false))::b.h) (rows:=p.map λu=>[.v u]) (ys:=vs.map λu=>[.v u]) (wr:=true) (tt:=false) (d:=d) (ty:=ty) (pos:=pos) (af:=af) (gd:=gd)
  (K:=λs'=>s'=⟨b.n,(d,.ow d)::cP d b.t,(d,some (.arr E 1 ((p++vs).map λu=>[.v u]) true))::(k,none)::bh d ((l,some (.arr E 1 (vs.map λu=>[.v u]) false))::b.h)⟩) ht (by rw[C];exact hx)
  (by rw[C,hy,f];simp only[gV,bc]) (by rw[a_ v,f];show aY ((l,some _)::(k,some _)::st.h) k=_;rw[a_ v,bc]) V (by omega)
  (by rw[aqn,aqn,o,A];exact hm) (by rw[aqn,aqn,o,A];exact S) (by rw[f];exact U) (by rw[aq4])
 refine step w0 M e a w next Q H λa2 a0 O N w' r=>?_
 subst a0;have W:=r.ofV (cs:=cs++ds) (by simp[o,A]) λj c u g h Rd=>by
  by_cases X:j<cs.length
  ·rw[aq2 X]at g
   rw[aq2 (by omega)]at h;exact(D c (aqw g)).vr s.sr r.sr (J.2 j c u g h)
  ·rw[arx (by omega)]at g h
   rw[o]at h;exact(F c (aqw g)).vr G.sr r.sr (L.2 _ c u g h)
 have I:=W.y6 (h2:=(d,some (.nr E (cs++ds)))::(k,none)::(l,none)::bh d st.h) λj=>by
  by_cases q:j=d
  ·subst q;exact .inl (by rw[bc,bc])
  ·rw[a_ q,a_ q]
   by_cases i:j=k
   ·subst i;exact .inr (by rw[bc])
   ·rw[a_ i,a_ i]
    by_cases m:j=l
    ·subst m;exact .inr (by rw[bc])
    ·rw[a_ m,f]
     refine .inl ?_;rw[da,da,a_ m,a_ m,a_ i]
 rw[f]at I;exact hn _ R O N w' I
def SS.aff{t E:TypeId}{x y:Operand}{l sz0 m:Nat}{z:List Value}{ds:List AV}(R:Ft P t=some (E,1,m,z))(U:st.ev x=.sl true sz0 [])(V:st.ev y=.ow l)(L:aY st.h l=some (.nr E ds))
 (Z:d≠l) (q:∀c∈ds,FM c) (M:ds.length<=maxLen) (H:ds.length*m<=140737488355328) (I:d<st.n)
 (G:K ⟨st.n,(d,.ow d)::cP d st.t,(d,some (.nr E ds))::(l,none)::bh d st.h⟩):SS P ⟨some d,.call ⟨.builtin .append, #[x,y], #[t,t]⟩,ty,pos,af,gd⟩ st K:=by
 intro Y C e a w next Q A N
 obtain⟨g,B,s⟩:=A.toV L q;obtain⟨b,f⟩:∃b:St,b=⟨st.n,st.t,(l,some (.arr E 1 (g.map λu=>[.v u]) true))::st.h⟩:=⟨_,rfl⟩;rw[<-f]at s;have o:∀z:Operand,b.ev z=st.ev z:=λz=>by rw[f];cases z<;>rfl
 have k:g.length=ds.length:=B.1;have step:=SS.F5 (P:=P) (st:=b) (x:=x) (y:=y) (h1:=(l,some (.arr E 1 (g.map λu=>[.v u]) false))::b.h) (sz0:=sz0) (ys:=g.map λu=>[.v u]) (tt:=false) (d:=d) (ty:=ty) (pos:=pos) (af:=af) (gd:=gd)
  (K:=λW=>W=⟨b.n,(d,.ow d)::cP d b.t,(d,some (.arr E 1 (g.map λu=>[.v u]) true))::bh d ((l,some (.arr E 1 (g.map λu=>[.v u]) false))::b.h)⟩) R (by rw[o];exact U)
  (by rw[o,V,f];simp only[gV,bc]) (by omega) (by rw[aqn,k];exact M) (by rw[aqn,k];exact H) (by rw[f];exact I) rfl
 refine step Y C e a w next Q s λa0 O F D X r=>?_
 subst O;have J:=r.ofV (cs:=ds) k λj c u p S Rd=>(q c (aqw p)).vr A.sr r.sr (B.2 _ c u p S);have v:=J.y6 (h2:=(d,some (.nr E ds))::(l,none)::bh d st.h) λj=>by
  by_cases i:j=d
  ·subst i;exact .inl (by rw[bc,bc])
  ·rw[a_ i,a_ i]
   by_cases h:j=l
   ·subst h;exact .inr (by rw[bc])
   ·rw[a_ h,f]
    refine .inl ?_;rw[da,da,a_ h,a_ h]
 rw[f]at v;exact N _ G F D X v
end
def ZA(ev:Nat->EV)(len:Nat)(ps:List (Nat×Operand)):Option (Nat×Int×Nat):=match ps with
 |[(0,x)]=>match ep ev x with
  |.pe q i s 0=>cond (Nat.beq len 1 && Nat.ble 4294967296 q) (some (q,i,s)) none
  |_=>none
 |_=>none
def PL(T:TypeId->bj)(d:Nat)(t:TypeId)(p:Nat×Int×Nat){R:Type}(k:EV->eF->List Nat->Fr->Option R):Option R:=match(T t).el with
 |some (e,sz,_,_)=>cond (Nat.beq sz 1) (k (.ow d) [(d,some (.qr e (some p.1) p.2.2 [p.2.1]))] [] (.one d)) none
 |none=>none
def ZB(ev:Nat->EV)(hg:Nat->Option dR)(args:Array Operand):Option (TypeId×Nat×Nat×List Int×Nat):=match args with
 |⟨[_,y]⟩=>match ep ev y with
  |.ow l=>match hg l with
   |some (.qr t (some q) s xs)=>cond (Nat.ble 4294967296 q) (some (t,q,s,xs,l)) none
   |_=>none
  |_=>none
 |_=>none
def PM(T:TypeId->bj)(ev:Nat->EV)(hg:Nat->Option dR)(d:Nat)(t t':TypeId)(x:Operand)(p:TypeId×Nat×Nat×List Int×Nat){R:Type}(k:EV->eF->List Nat->Fr->Option R):Option R:=match(T t).el with
 |some (e,sz,b,_)=>cond (Nat.beq t t' && Nat.beq sz 1 && Nat.beq e p.1 && !(Nat.beq d p.2.2.2.2)) (match ep ev x with
  |.nil=>aW (eC b ([]:List Int) p.2.2.2.1) λzs=>k (.ow d) [(d,some (.qr e (some p.2.1) p.2.2.1 zs)),(p.2.2.2.2,none)] [p.2.2.2.2] (.one d)
  |.ow j=>match hg j with
   |some (.qr t1 (some q1) s1 xs)=>cond (Nat.beq t1 e && Nat.beq q1 p.2.1 && Nat.beq s1 p.2.2.1 && !(Nat.beq j p.2.2.2.2) && !(Nat.beq d j)) (aW (eC b xs p.2.2.2.1) λzs=>k (.ow d) [(d,some (.qr e (some p.2.1) p.2.2.1 zs)),(j,none),(p.2.2.2.2,none)] [j,p.2.2.2.2] (.one d)) none
   |_=>none
  |_=>none) none
 |none=>none
section
variable{P:Program}{T:TypeId->bj}{ev:Nat->EV}{hg:Nat->Option dR}{n d:Nat}{ty:TypeId}{pos:String}{af:Array Edge}{gd:Option (Nat×Bool)}
def Is(b:4294967296<=e)(f:List Int):∀c∈f.map (Zd E (some e)),FM c:=λc a=>by
 obtain⟨i,_,rfl⟩:=aqq.1 a;exact⟨e,i.toNat,E,rfl,b⟩
def WN(C:f_ P T){m:Array (Nat×Operand)}{p:Nat×Int×Nat}{R:Type}{k:EV->eF->List Nat->Fr->Option R}{r:R}(J:d<n)(g:ZA ev e m.toList=some p)(h:PL T d b p k=some r):
 ∃c v w o,FS P ⟨some d,.buildSlice b e m,ty,pos,af,gd⟩ n ev hg c v w o/\k c v w o=some r:=by
 obtain⟨l⟩:=m;unfold ZA at g;split at g
 ·rename_i x u
  simp only at u;subst u;split at g
  ·rename_i q i s G
   obtain⟨j,y⟩:=aX g;cases y;simp only[aqe]at j;obtain rfl:=aqj j.1;have E:=aqk j.2;unfold PL at h;split at h
   ·rename_i a M f z D
    obtain⟨A,B⟩:=aX h;obtain rfl:=aqj A;refine⟨_,_,_,_,λst L F I t=>?_,B⟩;have:=SS.aof (P:=P) (t:=b) (x:=x) (ty:=ty) (pos:=pos) (af:=af) (gd:=gd) (d:=d) (i:=i.toNat) (K:=λH=>H=⟨st.n,jq (some d) (.ow d) (cP d st.t),[(d,some (.nr a [.pe q i.toNat s 0]))]++bh d st.h⟩) (C.el _ _ D) (F.is G (by intro a;cases a)) E (by omega) rfl;exact SS.fresh t.t t.h this
   ·cases h
  ·cases g
 ·cases g
def WO(O:f_ P T){C:Array Operand}{p:TypeId×Nat×Nat×List Int×Nat}{R:Type}{k:EV->eF->List Nat->Fr->Option R}{r:R}(hd:d<n)(m:ZB ev hg C=some p)(Q:C.toList.head?=some i)(h:PM T ev hg d b y i p k=some r):
 ∃c W X L,FS P ⟨some d,.call ⟨.builtin .append,C, #[b,y]⟩,ty,pos,af,gd⟩ n ev hg c W X L/\k c W X L=some r:=by
 unfold ZB at m;split at m
 ·rename_i Y a
  simp only[List.head?_cons,aqg]at Q;subst Q;split at m
  ·rename_i l V
   split at m
   ·rename_i t0 q s ys U
    obtain⟨h1,h2⟩:=aX m;cases h2;have E:=aqk h1;unfold PM at h;split at h
    ·rename_i e sz f z S
     obtain⟨M,o⟩:=aX h;simp only[aqe,arq]at M;obtain⟨⟨⟨Z,a2⟩,a3⟩,w⟩:=M;obtain rfl:=aqj Z;obtain rfl:=aqj a2;obtain rfl:=aqj a3;have w:d≠l:=λe=>by rw[e,aqM]at w;cases w
     split at o
     ·rename_i F
      obtain⟨zs,g,D⟩:=bf o;unfold eC at g;split at g
      ·rename_i t
       cases g;simp only[aq5,aqN]at t;refine⟨_,_,_,_,λst hn v B u=>?_,D⟩;have:=SS.aff (P:=P) (t:=b) (x:=Y) (y:=a) (ty:=ty) (pos:=pos) (af:=af) (gd:=gd) (d:=d) (sz0:=0) (ds:=ys.map (Zd s (some q))) (K:=λH=>H=⟨st.n,jq (some d) (.ow d) (cP d st.t),[(d,some (.nr e (ys.map (Zd s (some q))))),(l,none)]++bh d st.h⟩) (O.el _ _ S) (v.is F (by intro e;cases e)) (v.is V (by intro e;cases e)) (B.at (by simp) U) w (Is E ys) (by rw[aqn];exact t.2) (by rw[aqn];exact t.1) (by omega) rfl;exact SS.fresh u.t u.h this
      ·cases g
     ·rename_i j F
      split at o
      ·rename_i t1 G I J hj
       obtain⟨N,h6⟩:=aX o;simp only[aqe,arq]at N;obtain⟨⟨⟨⟨b1,b2⟩,b3⟩,x⟩,A⟩:=N;obtain rfl:=aqj b1;obtain rfl:=aqj b2;obtain rfl:=aqj b3;have x:j≠l:=λe=>by rw[e,aqM]at x;cases x
       have A:d≠j:=λe=>by rw[e,aqM]at A;cases A
       obtain⟨zs,g,D⟩:=bf h6;unfold eC at g;split at g
       ·rename_i t
        cases g;refine⟨_,_,_,_,λst hn v B u=>?_,D⟩;have:=SS.aog (P:=P) (t:=b) (x:=Y) (y:=a) (ty:=ty) (pos:=pos) (af:=af) (gd:=gd) (d:=d) (cs:=J.map (Zd I (some G))) (ds:=ys.map (Zd I (some G))) (K:=λH=>H=⟨st.n,jq (some d) (.ow d) (cP d st.t),[(d,some (.nr t1 ((J++ys).map (Zd I (some G))))),(j,none),(l,none)]++bh d st.h⟩) (O.el _ _ S) (v.is F (by intro e;cases e)) (v.is V (by intro e;cases e)) (B.at (by simp) hj) (B.at (by simp) U) x A (Is E J) (Is E ys) (by rw[aqn,aqn];exact t.2) (by rw[aqn,aqn];exact t.1) (by omega) (by rw[aq4];rfl);exact SS.fresh u.t u.h this
       ·cases g
      ·cases o
     ·cases o
    ·cases h
   ·cases m
  ·cases m
 ·cases m
end
def PN(T:TypeId->bj)(ev:Nat->EV)(hg:Nat->Option dR)(t:TypeId)(x y:Operand){R:Type}(k:EV->List Nat->Option R):Option R:=match(T t).el with
 |some (e,sz,_,_)=>match ep ev x with
  |.ow j=>match hg j with
   |some (.arr e' r xs wr)=>match qG ev y with
    |some l=>cond (Nat.beq e e' && Nat.beq sz r.w && wr && !(lX xs)) (aW (jf xs l (xs.length:Int)) λ_=>k (.sw j l ((xs.length:Int) - l) sz) [j]) none
    |none=>none
   |_=>none
  |_=>none
 |none=>none
section
variable{P:Program}{T:TypeId->bj}{ev:Nat->EV}{hg:Nat->Option dR}{st:St}{dd:Option Nat}{ty:TypeId}{pos:String}{af:Array Edge}{gd:Option (Nat×Bool)}
def RS.akN{k o v l:Nat}{m:IntKind}{z:List Value}{rows:List (List AV)}{wr:Bool}(F:Ft P b=some (y,o,v,z))(G:st.ev i=.ow k)(A:aY st.h k=some (.arr y o rows wr))(I:st.ev s=.v (.int m (l:Int)))
 (B:l<=rows.length) (C:rows≠[]):RS P ⟨dd,.slice b i (some s) none none,ty,pos,af,gd⟩ st (.sw k l (rows.length - l) o):=λY M e a w h=>by
 obtain⟨f,Z,p2,p3,p4,X,rfl,_,_⟩:=cK F;have j:=h.ev i;have H:a.eval i=e.sv k:=by
  rw[G]at j;generalize a.eval i=u at j;cases j with
  |ow=>rfl
 have t:=h.ev s;rw[I]at t;have J:=t.bE;obtain⟨_,_,_,D⟩:=h.sr.ob _ _ A;rcases D with⟨x,_⟩|⟨c,g,N,p,E,q,U,Q,O,S,R⟩
 ·exact absurd x C
 refine⟨.slice (if g=l then some ⟨c,0,none⟩else(some (⟨c,0,none⟩:Addr)).map (·.add (l*f.size))) (rows.length - l) (g - l),?_,λL W=>?_⟩
 ·by_cases r:g=l
  ·rw[aqd r]
   exact VR.sw p (λV=>by omega) (by omega) (by omega)
  ·rw[aqc r]
   simp only[art,aqW,aqN];exact VR.sw p (λ_=>rfl) (by omega) (by omega)
 ·have:=eU (P:=P) p2 p3 (some ⟨c,0,none⟩) rows.length g l rows.length none g (some (.int m (l:Int))) none none L (.inr ⟨m,rfl⟩) (.inl ⟨rfl,rfl⟩) (.inl ⟨rfl,rfl⟩) B (aqf _) q (aqf _) q
  simp[execOp,Instr.slice,H,E,J,this]
def WQ(A:f_ P T){R:Type}{k:EV->List Nat->Option R}{r:R}(h:PN T ev hg b i s k=some r):
 ∃c q,O5 P (.slice b i (some s) none none) ev hg c q/\k c q=some r:=by
 unfold PN at h;split at h
 ·rename_i e O a z B
  split at h
  ·rename_i j H
   split at h
   ·rename_i L J f wr E
    split at h
    ·rename_i l D
     obtain⟨o,y⟩:=aX h;simp only[aqe,arq]at o;obtain⟨⟨⟨t,g⟩,u⟩,v⟩:=o;obtain rfl:=aqj t;have g:=aqj g;subst g;subst u;obtain⟨Q,m,F⟩:=bf y;unfold jf at m;split at m
     ·rename_i M
      refine⟨_,_,λst w ty pos af gd p C=>?_,F⟩;obtain⟨N,I⟩:=jr D p;have G:((l.toNat:Nat):Int)=l:=by omega
      have:=RS.akN (P:=P) (dd:=w) (ty:=ty) (pos:=pos) (af:=af) (gd:=gd) (l:=l.toNat) (rows:=List.map (bx J) f) (A.el _ _ B) (p.is H (by intro e;cases e)) (C.at (by simp) E) (by rw[G];exact I) (by rw[aqn];omega) (λe=>by
       cases f with
       |nil=>cases v
       |cons _ _=>cases e)
      rw[aqn]at this;have x:((f.length:Int) - l).toNat=f.length - l.toNat:=by omega
      simp only[enc,x];exact this
     ·cases m
    ·cases h
   ·cases h
  ·cases h
 ·cases h
end
variable{j:List (List AV)}{n:List Value}
section
variable{P:Program}{st:St}{d:Nat}{ty:TypeId}{pos:String}{af:Array Edge}{gd:Option (Nat×Bool)}{K:St->Prop}
def SR.shrink(s:SR I a v F m){l f:Nat}(x:aY F e=some (.arr b l j true))(hn:nJ e F=true)(Y:e<4294967296)(A:f<=j.length):
 ∃n k,v.sv e=.slice n j.length k/\j.length<=k/\(∀h,n=some h->h.off=0/\h.spot=none\/k=0)/\
 SR I a (v.cz e (v.bJ e) (.slice n f k) 0) ((e,some (.arr b l (j.take f) true))::F) m/\
 ∀g o u,bF I a v F m g o u->bF I a (v.cz e (v.bJ e) (.slice n f k) 0) ((e,some (.arr b l (j.take f) true))::F) m g o u:=by
 obtain⟨a6,N,Z,a4⟩:=s.ob _ _ x;have hl:=Z rfl;have H:∀r∈j.take f,r.length=l:=λr q=>a6 r (asy q);have E:(j.take f).flatten=j.flatten.take (f*l):=by
  have J:j.flatten=(j.take f).flatten++(j.drop f).flatten:=by rw[<-arQ,ar7]
  have L:(j.take f).flatten.length=f*l:=by rw[dX H,aq0,arB A]
  rw[J,<-L,as6]
 have O:∀c∈(j.take f).flatten,c.one=true:=λc p=>N c (by rw[E]at p;exact asy p);have D:∀n k,(∀Rd,(∀g o u,bF I a v F m g o u->Rd g o u)->OR Rd (v.cz e (v.bJ e) (.slice n f k) 0) m e (.arr b l (j.take f) true))->
  SR I a (v.cz e (v.bJ e) (.slice n f k) 0) ((e,some (.arr b l (j.take f) true))::F) m/\
  ∀g o u,bF I a v F m g o u->bF I a (v.cz e (v.bJ e) (.slice n f k) 0) ((e,some (.arr b l (j.take f) true))::F) m g o u:=λn k a2=>
  s.tM e (v.bJ e) (.slice n f k) 0 _ s.ext (.inl ⟨hn,Y⟩) (aqf _) (λ_ _ _=>rfl) (λg w _=>⟨(s.base _ _ _ x w).1,(s.base _ _ _ x w).2,.inl ⟨_,x,w⟩⟩)
   (λg o u ob ho w a8 a7=>by omega) (λRd t _ a9 a3=>by obtain rfl:=aql a3;exact a2 Rd t)
 rcases a4 with⟨q,S,h,z⟩|⟨C,k,y,R,a5,U,a1,W,V,G,_⟩
 ·subst q
  have a0:f=0:=by simpa using A
  subst a0;refine⟨h,0,by rw[z];rfl,aqf _,λ_ _=>.inr rfl,D h 0 λRd t=>⟨(λr q=>by cases q),(λc p=>by cases p),λ_=>Env.bN,.inl ⟨rfl,by rw[Env.bL];exact S,h,by rw[Env.dz]⟩⟩⟩
 ·refine⟨some ⟨C,0,none⟩,k,a5,U,λh z=>by cases z;exact .inl ⟨rfl,rfl⟩,D _ k λRd t=>⟨H,O,λ_=>Env.bN,.inr ⟨C,k,y,by rw[Env.bL];exact R,by rw[Env.dz,aq0,arB A],by rw[aq0];omega,a1,W,V,?_,by rw[Env.bN];exact aqI _⟩⟩⟩
  rw[E,aq0];have M:y.toList.take (min (f*l) j.flatten.length)=(y.toList.take j.flatten.length).take (f*l):=by rw[asw]
  rw[M];refine⟨by have Q:=G.1;simp only[aq0]at Q⊢;omega,λi c u p B=>?_⟩;rw[aqT]at p B;split at p
  ·rename_i X
   rw[aqd X]at B;exact(G.2 i c u p B).mono t
  ·cases p
def SS.ZC{t E:TypeId}{x y:Operand}{k q C m:Nat}{p:IntKind}{rows:List (List AV)}(ht:Ft P t=some (E,q,C,n))(hx:st.ev x=.ow k)(U:aY st.h k=some (.arr E q rows true))(hy:st.ev y=.v (.int p (m:Int)))
 (O:d≠k) (z:m<=rows.length) (N:d<st.n)
 (G:K ⟨st.n,(d,.ow d)::cP d st.t,(d,some (.arr E q (rows.take m) true))::(k,none)::bh d st.h⟩):SS P ⟨some d,.slice t x none (some y) none,ty,pos,af,gd⟩ st K:=by
 intro r l e a w next Q f W
 obtain⟨i,zv,p2,p3,p4,p5,rfl,rfl,_⟩:=cK ht;have o:=f.ev x;have a3:a.eval x=e.sv k:=by
  rw[hx]at o;generalize a.eval x=u at o;cases o with
  |ow=>rfl
 have B:=f.ev y;rw[hy]at B;have a4:=B.bE;obtain⟨Z,H⟩:=f.sr.kill d;have V:aY (bh d st.h) k=some (.arr E i.size rows true):=by rw[da,U];rfl
 obtain⟨a0,I⟩:=Z.H5 V O (dQ d st.h) (by have:=f.n.2;omega);have X:nJ d ((d,some (.arr E i.size rows true))::(k,none)::bh d st.h)=true:=by
  have:=WC (dQ d st.h) k;simp only[nJ,arn,aqe]at this⊢;exact⟨by simp[Ob.fQ],this⟩
 obtain⟨b,c,A,M,L,a1,J⟩:=a0.shrink bc X (by have:=f.n.2;omega) z;rw[Env.dz]at A;have Y:(Instr.sliceAt t (a.eval x) none (some (a.eval y)) none).run P w=.ok (.slice b m c) w:=by
  rw[a3,A,a4];have:=eU (P:=P) p2 p3 b rows.length c 0 m none c none (some (.int p (m:Int))) none w (.inl ⟨rfl,rfl⟩) (.inr ⟨p,rfl⟩) (.inl ⟨rfl,rfl⟩) (aqI _) z (by omega) (aqf _) M;rw[this];congr 2;cases b with
  |none=>simp
  |some b=>
   rcases L b rfl with⟨s,v⟩|D
   ·obtain⟨bb,oo,ss⟩:=b
    simp only at s v;subst s;subst v;split
    ·rfl
    ·simp[aqW]
   ·rw[aqd D]
 have S:∀j,aY ((d,some (.arr E i.size (rows.take m) true))::(k,none)::bh d st.h) j=aY ((d,some (.arr E i.size (rows.take m) true))::(d,some (.arr E i.size rows true))::(k,none)::bh d st.h) j:=λj=>by
  by_cases h:j=d
  ·subst h;rw[bc,bc]
  ·rw[a_ h,a_ h,a_ h]
 have a2:TR (bF r l ((e.cz d (e.bJ k) (e.sv k) (e.cA k)).cz d ((e.cz d (e.bJ k) (e.sv k) (e.cA k)).bJ d) (.slice b m c) 0) ((d,some (.arr E i.size (rows.take m) true))::(d,some (.arr E i.size rows true))::(k,none)::bh d st.h) w) ((e.cz d (e.bJ k) (e.sv k) (e.cA k)).cz d ((e.cz d (e.bJ k) (e.sv k) (e.cA k)).bJ d) (.slice b m c) 0) ((d,.ow d)::cP d st.t) (a.tmps.setIfInBounds d (.slice b m c)):=by
  refine TR.put ?_ (by rw[f.n.1];exact N) ?_
  ·have F:=(((((f.tr.kill d).mono H).mono I).env d (dE d st.t) (e':=e.cz d (e.bJ k) (e.sv k) (e.cA k)) (λ_ g=>Env.br g) (λ_ g=>Env.cW g)).mono J)
   exact F.env d (dE d st.t) (λ_ g=>Env.br g) (λ_ g=>Env.cW g)
  ·have:=VR.ow (Rd:=bF r l ((e.cz d (e.bJ k) (e.sv k) (e.cA k)).cz d ((e.cz d (e.bJ k) (e.sv k) (e.cA k)).bJ d) (.slice b m c) 0) ((d,some (.arr E i.size (rows.take m) true))::(d,some (.arr E i.size rows true))::(k,none)::bh d st.h) w) (e:=(e.cz d (e.bJ k) (e.sv k) (e.cA k)).cz d ((e.cz d (e.bJ k) (e.sv k) (e.cA k)).bJ d) (.slice b m c) 0) (k:=d)
   rw[Env.dz]at this;exact this
 have R:Ga r l _ ⟨st.n,(d,.ow d)::cP d st.t,_⟩ (a.put (some d) (.slice b m c)) w:=⟨by simpa[Act.put]using f.n,f.d,a1,a2⟩;refine dY (w':=w) ?_ (W _ G _ _ _ (R.ky S));simp[execOp,Instr.slice,Y]
end
variable{S:eF}{R:dR}{A:FuncId}{g:List EV}{J:Oper}
@[reducible] def kf:List Sc->Type
 |[]=>Unit
 |[s]=>s.cQ
 |s::t::r=>s.cQ×kf (t::r)
def gZ:(cs:List Sc)->kf cs->List EV
 |[],_=>[]
 |[s],x=>[.sc s x]
 |s::t::r,x=>.sc s x.1::gZ (t::r) x.2
def tY:(cs:List Sc)->List EV->Option (kf cs)
 |[],[]=>some ()
 |[],_::_=>none
 |[s],c::cs=>match c,cs with
  |.sc s' x,[]=>ec s' s x
  |_,_=>none
 |s::t::r,c::cs=>match c with
  |.sc s' x=>match ec s' s x with
   |some a=>match tY (t::r) cs with
    |some b=>some (a,b)
    |none=>none
   |none=>none
  |_=>none
 |_::_,[]=>none
def wc:∀{cs:List Sc} {l:List EV} {x:kf cs},tY cs l=some x->l=gZ cs x
 |[],[],x,h=>rfl
 |[],_::_,x,h=>by simp[tY]at h
 |[s],[],x,h=>by simp[tY]at h
 |[s],c::cs,x,h=>by
  simp only[tY]at h;split at h
  ·obtain⟨rfl,rfl⟩:=c8 h
   rfl
  ·cases h
 |s::t::r,[],x,h=>by simp[tY]at h
 |s::t::r,c::cs,x,h=>by
  simp only[tY]at h;split at h
  ·split at h
   ·rename_i a f
    split at h
    ·rename_i b g
     obtain⟨rfl,rfl⟩:=c8 f;have:=wc g;cases h;rw[this];rfl
    ·cases h
   ·cases h
  ·cases h
inductive PV where
 |h (s:Sc)
 |t (r:Sc)
 |k (c:EV)
 |ag (l:List PV)
 |tu (l:List PV)
 |fp (l:List PV)
 |cl (fn:Fn) (fs cs:List PV)
 |pe (k sz o:Nat)
def peE(k sz o:Nat):EV->EV
 |.sc s x=>match ec s (.i .i64) x with
  |some i=>.pe k i sz o
  |none=>.un
 |_=>.un
def It:EV->EV
 |.sc (.sl r) xs=>.ts r xs
 |_=>.un
mutual
def fw:PV->List EV->EV×List EV
 |.h _,cs=>(cs.headD .un,cs.tail)
 |.t _,cs=>(It (cs.headD .un),cs.tail)
 |.k c,cs=>(c,cs)
 |.ag l,cs=>(.ag (cT l cs).1,(cT l cs).2)
 |.tu l,cs=>(.tu (cT l cs).1,(cT l cs).2)
 |.fp l,cs=>(.fp (cT l cs).1,(cT l cs).2)
 |.cl fn fs xs,cs=>(.cl fn (cT fs cs).1 (cT xs (cT fs cs).2).1,(cT xs (cT fs cs).2).2)
 |.pe k sz o,cs=>(peE k sz o (cs.headD .un),cs.tail)
def cT:List PV->List EV->List EV×List EV
 |[],cs=>([],cs)
 |p::ps,cs=>((fw p cs).1::(cT ps (fw p cs).2).1,(cT ps (fw p cs).2).2)
end
inductive PO where
 |box (t:TypeId) (l:List PV)
 |arr (t:TypeId) (r:Sc) (wr:Bool)
 |mp (d:TypeDesc) (kc vc:Sc)
 |nr (t:TypeId) (r:Sc) (ho:Option (Nat×Nat))
 |qr (t:TypeId) (k sz:Nat)
def qrE(t:TypeId)(k sz:Nat):EV->Option dR
 |.sc s x=>match ec s (.sl (.i .i64)) x with
  |some xs=>some (.qr t (some k) sz xs)
  |none=>none
 |_=>none
def afg(t:TypeId)(r:Sc)(wr:Bool):EV->Option dR
 |.sc s x=>match ec s (.sl r) x with
  |some xs=>some (.arr t r xs wr)
  |none=>none
 |_=>none
def mpE(d:TypeDesc)(kc vc:Sc):EV->Option dR
 |.sc s x=>match ec s (.sl (.pr kc vc)) x with
  |some xs=>some (.mp d kc vc xs)
  |none=>none
 |_=>none
def nrE(t:TypeId)(r:Sc):EV->Option dR
 |.sc s x=>match ec s (.sl (.sl r)) x with
  |some xs=>some (.nr t r xs none)
  |none=>none
 |_=>none
def aik(t:TypeId)(r:Sc)(p:Nat):EV->EV->Option dR
 |.sc s x,.sc s2 y=>match ec s (.sl (.sl r)) x with
  |some xs=>match ec s2 (.i .i64) y with
   |some i=>some (.nr t r xs (some (i,some p)))
   |none=>none
  |none=>none
 |_,_=>none
def ij:PO->List EV->Option dR×List EV
 |.box t l,cs=>(some (.box t (cT l cs).1),(cT l cs).2)
 |.arr t r wr,cs=>(afg t r wr (cs.headD .un),cs.tail)
 |.mp d kc vc,cs=>(mpE d kc vc (cs.headD .un),cs.tail)
 |.nr t r none,cs=>(nrE t r (cs.headD .un),cs.tail)
 |.nr t r (some (_,p)),cs=>(aik t r p (cs.headD .un) (cs.tail.headD .un),cs.tail.tail)
 |.qr t k sz,cs=>(qrE t k sz (cs.headD .un),cs.tail)
def qY:List (Nat×PO)->List EV->eF
 |[],_=>[]
 |(k,o)::h,cs=>(k,(ij o cs).1)::qY h (ij o cs).2
structure iS where
 f:FuncId
 ps:List PV
 hs:List (Nat×PO)
 cs:List Sc
 α:Type
 M:kf cs->Option α
 el:α->(R:Type)->(EV->eF->Option R)->Option R
 own:Bool
 pu:Bool
def iS.as(c:iS)(x:kf c.cs):List EV:=(cT c.ps (gZ c.cs x)).1
def iS.H0(c:iS)(x:kf c.cs):eF:=qY c.hs (cT c.ps (gZ c.cs x)).2
def Sc.ns:Sc->Bool
 |.sl _=>false
 |.pr x y=>x.ns && y.ns
 |.i _=>true
 |.b=>true
 |.u=>true
mutual
def EV.pu:EV->Bool
 |.un=>true
 |.sc s x=>match s with
  |.sl _=>false
  |_=>true
 |.nil=>true
 |.ts r xs=>false
 |.v x=>true
 |.ow k=>true
 |.pt k o=>true
 |.pe k i sz o=>true
 |.sw k l n sz=>true
 |.mp k=>true
 |.fp cs=>false
 |.ag cs=>EV.Fw cs
 |.tu cs=>EV.Fw cs
 |.cl fn fs cs=>EV.Fw fs && EV.Fw cs
def EV.Fw:List EV->Bool
 |[]=>true
 |c::cs=>EV.pu c && EV.Fw cs
end
def dR.pu:dR->Bool
 |.box t cs=>EV.Fw cs
 |.arr t r xs wr=>r.ns
 |.mp d kc vc es=>vc.ns
 |.nr _ _ _ _=>false
 |.qr .. =>false
def puH(h:eF):Bool:=h.all λp=>match p.2 with
 |some o=>o.pu
 |none=>true
def iS.ok(P:Program)(c:iS):Prop:=
 (c.own=false->c.hs=[])/\∀x y,c.M x=some y->∃e H,(∀(R:Type) (k:EV->eF->Option R),c.el y R k=k e H)/\(c.own=false->H=[])/\(c.pu=true->e.pu=true/\puH H=true)/\
  Bn P c.f (bs (c.H0 x)) (bO (c.as x)) (bs H) (enc e)
mutual
def tP(π:Nat->Nat):EV->EV
 |.un=>.un
 |.sc s x=>.sc s x
 |.nil=>.nil
 |.ts r xs=>.ts r xs
 |.v x=>.v x
 |.ow k=>.ow (π k)
 |.pt k o=>.pt (π k) o
 |.pe k i sz o=>.pe (π k) i sz o
 |.sw k l n sz=>.sw (π k) l n sz
 |.mp k=>.mp (π k)
 |.fp cs=>.fp cs
 |.ag cs=>.ag (qZ π cs)
 |.tu cs=>.tu (qZ π cs)
 |.cl fn fs cs=>.cl fn (qZ π fs) (qZ π cs)
def qZ(π:Nat->Nat):List EV->List EV
 |[]=>[]
 |c::cs=>tP π c::qZ π cs
end
mutual
def BN(π:Nat->Nat):∀c:EV,enc (tP π c)=(enc c).hV π
 |.un=>rfl
 |.sc s x=>by cases s<;>rfl
 |.nil=>rfl
 |.ts r g=>rfl
 |.v x=>rfl
 |.ow k=>rfl
 |.pt k o=>rfl
 |.pe k i b o=>rfl
 |.sw k l n b=>rfl
 |.mp k=>rfl
 |.fp cs=>rfl
 |.ag cs=>by simp only[tP,enc,AV.hV,lY π cs]
 |.tu cs=>by simp only[tP,enc,AV.hV,lY π cs]
 |.cl f a cs=>by simp only[tP,enc,AV.hV,lY π cs,lY π a]
def lY(π:Nat->Nat):∀cs:List EV,bO (qZ π cs)=AV.qO π (bO cs)
 |[]=>rfl
 |c::cs=>by simp only[qZ,bO,AV.qO,BN π c,lY π cs]
end
def RU(π:Nat->Nat):Option (Int×Option Nat)->Option (Int×Option Nat)
 |some (i,some j)=>some (i,some (π j))
 |o=>o
def Iu(π:Nat->Nat):dR->dR
 |.box t cs=>.box t (qZ π cs)
 |.arr t r xs wr=>.arr t r xs wr
 |.mp d kc vc es=>.mp d kc vc es
 |.nr t r xs ho=>.nr t r xs (RU π ho)
 |.qr t ho sz xs=>.qr t (ho.map π) sz xs
def afh(π:Nat->Nat)(r:Sc)(x:List r.cQ):(WE r x).hV π=WE r x:=by cases x<;>rfl
def afi(π:Nat->Nat)(r:Sc)(a:List (List r.cQ))(f:Option (Int×Option Nat)):u9 r a (RU π f)=AV.qO π (u9 r a f):=by
 have b:(a.map (WE r)).map (AV.hV π)=a.map (WE r):=by
  rw[aru];exact aq6 λx _=>afh π r x
 rw[kz]
 match f with
 |none=>exact b.symm
 |some (i,none)=>simp only[RU,u9,asb,b];rfl
 |some (i,some j)=>simp only[RU,u9,asb,b];rfl
def C_(π:Nat->Nat)(o:dR):bS (Iu π o)=(bS o).hV π:=by
 cases o with
 |box t cs=>simp only[Iu,bS,Ob.hV,lY]
 |arr=>rfl
 |mp=>rfl
 |nr t r b a=>simp only[Iu,bS,Ob.hV,afi]
 |qr t a f b=>
  simp only[Iu,bS,Ob.hV,kz,aru];congr 1;exact aq6 λi _=>by cases a<;>rfl
def Ah(π:Nat->Nat):eF->eF
 |[]=>[]
 |(k,o)::h=>(π k,match o with
  |some o=>some (Iu π o)
  |none=>none)::Ah π h
def q8(π:Nat->Nat):∀h:eF,bs (Ah π h)=jU π (bs h)
 |[]=>rfl
 |(k,o)::h=>by
  have:∀o:dR,bS (Iu π o)=(bS o).hV π:=C_ π;cases o with
  |none=>simp only[Ah,bs,jU,Option.map,q8 π h]
  |some o=>simp only[Ah,bs,jU,Option.map,q8 π h,this]
mutual
def FN(π:Nat->Nat):PV->PV
 |.h s=>.h s
 |.t r=>.t r
 |.k c=>.k (tP π c)
 |.ag l=>.ag (mI π l)
 |.tu l=>.tu (mI π l)
 |.fp l=>.fp l
 |.cl fn fs cs=>.cl fn (mI π fs) (mI π cs)
 |.pe k sz o=>.pe (π k) sz o
def mI(π:Nat->Nat):List PV->List PV
 |[]=>[]
 |p::ps=>FN π p::mI π ps
end
def q9(π:Nat->Nat):PO->PO
 |.box t l=>.box t (mI π l)
 |.arr t r wr=>.arr t r wr
 |.mp d kc vc=>.mp d kc vc
 |.nr t r none=>.nr t r none
 |.nr t r (some (s,p))=>.nr t r (some (s,π p))
 |.qr t k sz=>.qr t (π k) sz
def RW(p k:Nat)(D:List (Nat×Nat)):List (Nat×Nat):=cond (Nat.ble 4294967296 p) (match tW D p with
 |some _=>D
 |none=>D++[(p,k)]) D
mutual
def akO:PV->EV->List (Nat×Nat)->List (Nat×Nat)
 |.h _,_,D=>D
 |.t _,_,D=>D
 |.k c0,c,D=>match c0,c with
  |.ow p,.ow k=>RW p k D
  |.pt p _,.pt k _=>RW p k D
  |.mp p,.mp k=>RW p k D
  |_,_=>D
 |.ag l,c,D=>match c with
  |.ag cs=>o0 l cs D
  |_=>D
 |.tu _,_,D=>D
 |.fp _,_,D=>D
 |.cl _ fs xs,c,D=>match c with
  |.cl _ fs' xs'=>o0 xs xs' (o0 fs fs' D)
  |_=>D
 |.pe p _ _,c,D=>match c with
  |.pe k _ _ _=>RW p k D
  |_=>D
def o0:List PV->List EV->List (Nat×Nat)->List (Nat×Nat)
 |[],_,D=>D
 |p::ps,cs,D=>match cs with
  |[]=>D
  |c::cs=>o0 ps cs (akO p c D)
end
def K0(hg:Nat->Option dR):List (Nat×PO)->List (Nat×Nat)->List (Nat×Nat)
 |[],D=>D
 |(p,po)::hs,D=>K0 hg hs (match po with
  |.box _ l=>match tW D p with
   |some k=>match hg k with
    |some (.box _ cs)=>o0 l cs D
    |_=>D
   |none=>D
  |_=>D)
def ZD(hg:Nat->Option dR)(s:Sc):EV->Option (s.cQ×List Nat)
 |.ow k=>match hg k with
  |some (.arr _ r xs _)=>match ec (.sl r) s xs with
   |some y=>some (y,[k])
   |none=>none
  |_=>none
 |c=>match F9 s c with
  |some y=>some (y,[])
  |none=>none
def RX:EV->EV->Bool
 |.un,_=>true
 |.nil,.nil=>true
 |.ow a,.ow b=>Nat.beq a b
 |.pt a o,.pt b q=>Nat.beq a b && Nat.beq o q
 |.mp a,.mp b=>Nat.beq a b
 |.v (.func (.func f) ⟨[]⟩ ⟨[]⟩),.v (.func (.func g) ⟨[]⟩ ⟨[]⟩)=>Nat.beq f g
 |_,_=>false
def K1{a b:EV}(h:RX a b=true):Wk (enc b) (enc a):=by
 unfold RX at h;split at h
 ·exact Wk.un
 ·exact Wk.refl _
 ·rw[aqj h];exact Wk.refl _
 ·simp only[aqe]at h
  rw[aqj h.1,aqj h.2];exact Wk.refl _
 ·rw[aqj h];exact Wk.refl _
 ·rw[aqj h];exact Wk.refl _
 ·cases h
def RY:EV->Bool
 |.un=>true
 |.nil=>true
 |.v _=>true
 |_=>false
def sS:PV->Bool
 |.h _=>true
 |.t _=>true
 |.k c=>RY c
 |_=>false
def fnB:Fn->Fn->Bool
 |.func f,.func g=>Nat.beq f g
 |_,_=>false
def ZE{a b:Fn}(h:fnB a b=true):a=b:=by
 unfold fnB at h;split at h
 ·rw[aqj h]
 ·cases h
def Wk.fp{cs a:List AV}(h:nk cs a):Wk (.fp cs) (.fp a):=by
 intro Rd E u k;cases k with
 |fp b i g f=>
  have j:LR (VR Rd none) cs b:=⟨i,g⟩;have:=h.lr j;exact .fp b this.1 this.2 f
def Wk.cl{fn:Fn}{fs g cs f:List AV}(h:nk fs g)(k:nk cs f):Wk (.cl fn fs cs) (.cl fn g f):=by
 intro Rd E u q;cases q with
 |cl i j o p l m=>
  have a:LR (VR Rd E) fs i:=⟨o,l⟩;have b:LR (VR Rd E) cs j:=⟨p,m⟩;have a:=h.lr a;have b:=k.lr b;exact .cl i j a.1 b.1 a.2 b.2
mutual
def Da:PV->EV->Option (List EV)
 |.h s,c=>match F9 s c with
  |some x=>some [.sc s x]
  |none=>none
 |.t r,c=>match c with
  |.ts r' xs=>match ec (.sl r') (.sl r) xs with
   |some ys=>some [.sc (.sl r) ys]
   |none=>none
  |.nil=>some [.sc (.sl r) (show List r.cQ from [])]
  |_=>none
 |.k c0,c=>cond (RX c0 c) (some []) none
 |.ag l,c=>match c with
  |.ag cs=>tZ l cs
  |_=>none
 |.tu l,c=>match c with
  |.tu cs=>tZ l cs
  |_=>none
 |.fp l,c=>match c with
  |.fp cs=>tZ l cs
  |_=>none
 |.cl fn fs xs,c=>match c with
  |.cl fn' fs' xs'=>cond (fnB fn fn') (match tZ fs fs' with
   |some a=>match tZ xs xs' with
    |some b=>some (a++b)
    |none=>none
   |none=>none) none
  |_=>none
 |.pe k sz o,c=>match c with
  |.pe k' i Y5 o'=>cond (Nat.beq k k' && Nat.beq sz Y5 && Nat.beq o o') (some [.sc (.i .i64) i]) none
  |_=>none
def tZ:List PV->List EV->Option (List EV)
 |[],cs=>match cs with
  |[]=>some []
  |_::_=>none
 |p::ps,cs=>match cs with
  |[]=>none
  |c::cs=>match Da p c with
   |some a=>match tZ ps cs with
    |some b=>some (a++b)
    |none=>none
   |none=>none
end
def g_(s:Sc)(x:s.cQ):ec s s x=some x:=by
 have j:∀s:Sc,Sc.eqP s s=some ⟨rfl⟩:=by
  intro s
  induction s with
  |i k=>simp[Sc.eqP]
  |b=>rfl
  |sl r f=>simp[Sc.eqP,f]
  |pr a l g h=>simp[Sc.eqP,g,h]
  |u=>rfl
 unfold ec;rw[j]
mutual
def RZ:∀(p:PV) {c:EV} {f:List EV} (rest:List EV),Da p c=some f->(fw p (f++rest)).2=rest/\Wk (enc c) (enc (fw p (f++rest)).1)
 |.h s,c,f,rest,h=>by
  simp only[Da]at h;split at h
  ·rename_i x y
   cases h;exact⟨rfl,Po y⟩
  ·cases h
 |.t r,c,f,rest,h=>by
  simp only[Da]at h;split at h
  ·split at h
   ·rename_i F z
    cases h;obtain⟨e,rfl⟩:=c8 z;cases e;exact⟨rfl,Wk.refl _⟩
   ·cases h
  ·cases h
   exact⟨rfl,Wk.Pn⟩
  ·cases h
 |.k B,c,f,rest,h=>by
  simp only[Da]at h;obtain⟨i,g⟩:=aX h;cases g;exact⟨rfl,K1 i⟩
 |.ag l,c,f,rest,h=>by
  simp only[Da]at h;split at h
  ·obtain⟨a,b⟩:=lZ l rest h
   exact⟨a,Wk.ag b⟩
  ·cases h
 |.tu l,c,f,rest,h=>by
  simp only[Da]at h;split at h
  ·obtain⟨a,b⟩:=lZ l rest h
   exact⟨a,Wk.tu b⟩
  ·cases h
 |.fp l,c,f,rest,h=>by
  simp only[Da]at h;split at h
  ·obtain⟨a,b⟩:=lZ l rest h
   exact⟨a,Wk.fp b⟩
  ·cases h
 |.cl C u A,c,f,rest,h=>by
  simp only[Da]at h;split at h
  ·obtain⟨i,g⟩:=aX h
   obtain rfl:=ZE i;split at g
   ·rename_i a v
    split at g
    ·rename_i b w
     cases g;obtain⟨j,m⟩:=lZ u (b++rest) v;obtain⟨q,t⟩:=lZ A rest w;simp only[fw,aqJ,j];exact⟨q,Wk.cl m t⟩
    ·cases g
   ·cases g
  ·cases h
 |.pe k E o,c,f,rest,h=>by
  simp only[Da]at h;split at h
  ·obtain⟨i,g⟩:=aX h
   cases g;simp only[aqe]at i;rw[aqj i.1.1,aqj i.1.2,aqj i.2];refine⟨rfl,?_⟩;simp only[fw,arM,arN,peE,g_];exact Wk.refl _
  ·cases h
def lZ:∀(g:List PV) {cs:List EV} {f:List EV} (rest:List EV),tZ g cs=some f->(cT g (f++rest)).2=rest/\nk (bO cs) (bO (cT g (f++rest)).1)
 |[],cs,f,rest,h=>by
  simp only[tZ]at h;split at h
  ·cases h
   exact⟨rfl,.nil⟩
  ·cases h
 |p::g,cs,f,rest,h=>by
  simp only[tZ]at h;split at h
  ·cases h
  ·rename_i c cs
   split at h
   ·rename_i a k
    split at h
    ·rename_i b l
     cases h;have i:=RZ p (b++rest) k;have j:=lZ g rest l;simp only[cT,aqJ,i.1];exact⟨j.1,.cons i.2 j.2⟩
    ·cases h
   ·cases h
end
def afj:PO->dR->Option (List EV)
 |.box t l,.box t' cs=>cond (Nat.beq t t') (tZ l cs) none
 |.arr t r wr,.arr t' r' xs wr'=>cond (Nat.beq t t' && (!wr||wr')) (match ec (.sl r') (.sl r) xs with
  |some ys=>some [.sc (.sl r) ys]
  |none=>none) none
 |.mp d kc vc,.mp d' kc' vc' es=>cond (kC d kc && kC d' kc) (match ec (.sl (.pr kc' vc')) (.sl (.pr kc vc)) es with
  |some ys=>some [.sc (.sl (.pr kc vc)) ys]
  |none=>none) none
 |.nr t r none,.nr t' r' xs none=>cond (Nat.beq t t') (match ec (.sl (.sl r')) (.sl (.sl r)) xs with
  |some ys=>some [.sc (.sl (.sl r)) ys]
  |none=>none) none
 |.nr t r (some (_,p)),.nr t' r' xs (some (i,some q))=>cond (Nat.beq t t' && Nat.beq p q) (match ec (.sl (.sl r')) (.sl (.sl r)) xs with
  |some ys=>some [.sc (.sl (.sl r)) ys,.sc (.i .i64) i]
  |none=>none) none
 |.arr t r wr,.nr t' r' xs none=>cond (Nat.beq t t') (match ec (.sl (.sl r')) (.sl r) xs with
  |some ys=>some [.sc (.sl r) ys]
  |none=>none) none
 |.qr t k sz,.qr t' (some k') Y5 xs=>cond (Nat.beq t t' && Nat.beq k k' && Nat.beq sz Y5) (some [.sc (.sl (.i .i64)) (show List Int from xs)]) none
 |_,_=>none
def PQ(r:Sc):∀a:List (List r.cQ),oT ((a.map (WE r)).map λc=>[c]) (List.map (bx (.sl r)) a)
 |[]=>.nil
 |x::a=>by
  refine .cons (.cons ?_ .nil) (PQ r a);cases x with
  |nil=>exact Wk.empty rfl
  |cons y b=>exact Wk.refl _
def OR.akP{Rd:Nat->Nat->Value->Prop}{e:Env}{cs g:List AV}(l:nk cs g)(h:OR Rd e m E (.box b cs)):OR Rd e m E (.box b g):=by
 obtain⟨a,f,o,i,j,k⟩:=h;exact⟨a,f,o,i,j,l.lr k⟩
def R0(p:PO)(rest:List EV)(h:afj p R=some g):(ij p (g++rest)).2=rest/\∃C,(ij p (g++rest)).1=some C/\∀Rd e w k,OR Rd e w k (bS R)->OR Rd e w k (bS C):=by
 unfold afj at h;split at h
 ·rename_i t l A cs
  obtain⟨f,j⟩:=aX h;have f:=aqj f;subst f;obtain⟨a,b⟩:=lZ l rest j;exact⟨a,_,rfl,λRd e w k m=>OR.akP b m⟩
 ·rename_i t r wr A y o V
  obtain⟨f,j⟩:=aX h;simp only[aqe]at f;have u:=aqj f.1;subst u;split at j
  ·rename_i B v
   cases j;obtain⟨e1,rfl⟩:=c8 v;cases e1;refine⟨rfl,.arr t r o wr,?_,λRd e w k m=>?_⟩
   ·simp only[ij,arM,arN,afg,g_]
   ·obtain⟨E,F,G,H⟩:=m
    refine⟨E,F,λM=>G ?_,H⟩;have:=f.2;rw[M]at this;simpa using this
  ·cases j
 ·rename_i d N O Q S U I
  obtain⟨f,j⟩:=aX h;simp only[aqe]at f;have u:=nZ f.1 f.2;subst u;split at j
  ·rename_i B v
   cases j;obtain⟨e1,rfl⟩:=c8 v;cases e1;refine⟨rfl,.mp d N O I,?_,λRd e w k m=>m⟩;simp only[ij,arM,arN,mpE,g_]
  ·cases j
 ·rename_i t r A y o
  obtain⟨f,j⟩:=aX h;have u:=aqj f;subst u;split at j
  ·rename_i B v
   cases j;obtain⟨e1,rfl⟩:=c8 v;cases e1;refine⟨rfl,.nr t r o none,?_,λRd e w k m=>m⟩;simp only[ij,arM,arN,nrE,g_]
  ·cases j
 ·rename_i t r s p A y o i q
  obtain⟨f,j⟩:=aX h;simp only[aqe]at f;have u:=aqj f.1;have J:=aqj f.2;subst u;subst J;split at j
  ·rename_i B v
   cases j;obtain⟨e1,rfl⟩:=c8 v;cases e1;refine⟨rfl,.nr t r o (some (i,some p)),?_,λRd e w k m=>m⟩;simp only[ij,arw,aqZ,arN,List.tail_cons,aik,g_]
  ·cases j
 ·rename_i t r wr A y o
  obtain⟨f,j⟩:=aX h;have u:=aqj f;subst u;split at j
  ·rename_i B v
   cases j;obtain⟨e1,rfl⟩:=c8 v;cases e1;refine⟨rfl,.arr t (.sl y) o wr,?_,λRd e w k m=>?_⟩
   ·simp only[ij,arM,arN,afg,g_]
   ·have L:OR Rd e w k (.nr t (o.map (WE y))):=m
    refine(L.akK (λc z=>?_) (λc z=>?_) wr).vZ (PQ y o) (λc z=>?_)
    ·obtain⟨x,_,rfl⟩:=aqq.1 z
     cases x<;>rfl
    ·obtain⟨x,_,rfl⟩:=aqq.1 z
     cases x<;>rfl
    ·exact eD (.sl y) o c z
  ·cases j
 ·obtain⟨f,j⟩:=aX h
  cases j;simp only[aqe]at f;rw[aqj f.1.1,aqj f.1.2,aqj f.2];refine⟨rfl,_,?_,λRd e w k m=>m⟩;simp only[ij,arM,arN,qrE];rw[g_ (.sl (.i .i64))]
 ·cases h
mutual
def o2(hg:Nat->Option dR)(bo:Bool):PV->EV->Option (List EV×List Nat)
 |.h s,c=>match ZD hg s c with
  |some (x,gs)=>some ([.sc s x],gs)
  |none=>none
 |.t r,c=>match c with
  |.ts r' xs=>match ec (.sl r') (.sl r) xs with
   |some ys=>some ([.sc (.sl r) ys],[])
   |none=>none
  |.nil=>some ([.sc (.sl r) (show List r.cQ from [])],[])
  |_=>none
 |.k c0,c=>cond (RX c0 c) (some ([],[])) none
 |.ag l,c=>match c with
  |.ag cs=>lk hg bo l cs
  |_=>none
 |.tu _,_=>none
 |.fp l,c=>match c with
  |.fp cs=>cond (l.all sS) (match lk hg bo l cs with
   |some (vs,[])=>some (vs,[])
   |_=>none) none
  |.pt k o=>cond (bo && Nat.beq o 0 && l.all sS) (match hg k with
   |some (.box t cs)=>cond (!(Nat.beq t CC)) (match lk hg bo l cs with
    |some (vs,gs)=>some (vs,k::gs)
    |none=>none) none
   |_=>none) none
  |_=>none
 |.cl fn fs xs,c=>match c with
  |.cl fn' fs' xs'=>cond (fnB fn fn') (match lk hg bo fs fs' with
   |some (a,g1)=>match lk hg bo xs xs' with
    |some (b,g2)=>some (a++b,g1++g2)
    |none=>none
   |none=>none) none
  |_=>none
 |.pe k sz o,c=>match c with
  |.pe k' i Y5 o'=>cond (Nat.beq k k' && Nat.beq sz Y5 && Nat.beq o o') (some ([.sc (.i .i64) i],[])) none
  |_=>none
def lk(hg:Nat->Option dR)(bo:Bool):List PV->List EV->Option (List EV×List Nat)
 |[],cs=>match cs with
  |[]=>some ([],[])
  |_::_=>none
 |p::ps,cs=>match cs with
  |[]=>none
  |c::cs=>match o2 hg bo p c with
   |some (a,g1)=>match lk hg bo ps cs with
    |some (b,g2)=>some (a++b,g1++g2)
    |none=>none
   |none=>none
end
def jg(cs:List EV):Prop:=∀c∈cs,∃s x,c=EV.sc s x
def q_:∀(cs:List Sc) (x:kf cs),jg (gZ cs x)
 |[],_=>λc h=>by cases h
 |[s],x=>λc h=>by simp only[gZ,aqB]at h;exact⟨_,_,h⟩
 |s::t::r,x=>λc h=>by
  simp only[gZ]at h;rcases aqG.1 h with h|h
  ·exact⟨_,_,h⟩
  ·exact q_ (t::r) x.2 c h
def jg.tail{cs:List EV}(h:jg cs):jg cs.tail:=λc a=>h c (List.mem_of_mem_tail a)
def ZF(π:Nat->Nat){cs:List EV}(h:jg cs):tP π (cs.headD .un)=cs.headD .un:=by
 cases cs with
 |nil=>rfl
 |cons c cs=>obtain⟨s,x,rfl⟩:=h c (by simp);rfl
def WS(π:Nat->Nat){cs:List EV}(h:jg cs):tP π (It (cs.headD .un))=It (cs.headD .un):=by
 cases cs with
 |nil=>rfl
 |cons c cs=>
  obtain⟨s,x,rfl⟩:=h c (by simp);cases s<;>rfl
mutual
def Gg(π:Nat->Nat):∀(p:PV) {cs:List EV},jg cs->(fw (FN π p) cs).1=tP π (fw p cs).1/\(fw (FN π p) cs).2=(fw p cs).2/\jg (fw p cs).2
 |.h s,cs,h=>⟨(ZF π h).symm,rfl,h.tail⟩
 |.t r,cs,h=>⟨(WS π h).symm,rfl,h.tail⟩
 |.k c,cs,h=>⟨rfl,rfl,h⟩
 |.ag l,cs,h=>by
  obtain⟨a,b,c⟩:=gj π l h;exact⟨by simp only[FN,fw,tP,a],by simp only[FN,fw,b],c⟩
 |.tu l,cs,h=>by
  obtain⟨a,b,c⟩:=gj π l h;exact⟨by simp only[FN,fw,tP,a],by simp only[FN,fw,b],c⟩
 |.fp l,cs,h=>⟨rfl,rfl,(gj π l h).2.2⟩
 |.cl q j m,cs,h=>by
  obtain⟨a,b,c⟩:=gj π j h;obtain⟨f,g,i⟩:=gj π m c;exact⟨by simp only[FN,fw,tP,a,b,f],by simp only[FN,fw,b,g],i⟩
 |.pe k t o,cs,h=>by
  refine⟨?_,rfl,h.tail⟩;simp only[FN,fw];cases cs with
  |nil=>rfl
  |cons c cs=>
   obtain⟨s,x,rfl⟩:=h c (by simp);simp only[arN,peE];cases ec s (.i .i64) x<;>rfl
def gj(π:Nat->Nat):∀(f:List PV) {cs:List EV},jg cs->(cT (mI π f) cs).1=qZ π (cT f cs).1/\(cT (mI π f) cs).2=(cT f cs).2/\jg (cT f cs).2
 |[],cs,h=>⟨rfl,rfl,h⟩
 |p::f,cs,h=>by
  obtain⟨a,b,c⟩:=Gg π p h;obtain⟨g,i,j⟩:=gj π f c;exact⟨by simp only[mI,cT,qZ,a,b,g],by simp only[mI,cT,b,i],j⟩
end
def VR.close{Rd:Nat->Nat->Value->Prop}{c:AV}(h:VR Rd M c u)(b:c.fX (λ_=>true)=true):VR Rd none c u:=by
 induction h with
 |un=>exact .un
 |v=>exact .v
 |sl i r o g l a f p m k=>exact .sl i r o g l a f p m
 |ow=>simp[AV.fX]at b
 |pt=>simp[AV.fX]at b
 |pe=>simp[AV.fX]at b
 |sw=>simp[AV.fX]at b
 |fp i g l m k=>exact .fp i g l m
 |ag i g l k=>exact .ag i g λj c u a f=>k j c u a f (eT (by simpa[AV.fX]using b) j c a)
 |tu i g l k=>exact .tu i g λj c u a f=>k j c u a f (eT (by simpa[AV.fX]using b) j c a)
 |mp=>simp[AV.fX]at b
 |cl i t g q l w k s=>
  simp only[AV.fX,aqe]at b;exact .cl i t g q (λj c u a f=>k j c u a f (eT b.1 j c a)) (λj c u a f=>s j c u a f (eT b.2 j c a))
def ZG(s:Sc)(x:s.cQ)(p:Nat->Bool):(encS s x).fX p=true:=by cases s<;>rfl
def PR(c:EV)(a:c=.un\/∃s x,c=EV.sc s x)(p:Nat->Bool):(enc (It c)).fX p=true:=by
 rcases a with rfl|⟨s,x,rfl⟩
 ·rfl
 ·cases s<;>rfl
def iT{cs:List EV}(h:jg cs):cs.headD .un=.un\/∃s x,cs.headD .un=EV.sc s x:=by
 cases cs with
 |nil=>exact .inl rfl
 |cons c cs=>exact .inr (h c (by simp))
def K2{p:PV}(a:sS p=true){cs:List EV}(h:jg cs):(enc (fw p cs).1).fX (λ_=>true)=true:=by
 cases p with
 |h s=>
  rcases iT h with e|⟨b,x,e⟩
  ·simp only[fw,e];rfl
  ·simp only[fw,e];exact ZG _ _ _
 |t r=>exact PR _ (iT h) _
 |k c=>cases c<;>first|rfl|(simp[sS,RY]at a)
 |_=>simp[sS]at a
def o3:∀{f:List PV} (_:f.all sS=true) {cs:List EV},jg cs->∀c∈bO (cT f cs).1,c.fX (λ_=>true)=true
 |[],_,cs,h,c,a=>by cases a
 |p::f,b,cs,h,c,a=>by
  simp only[arn,aqe]at b;simp only[cT,bO]at a;rcases aqG.1 a with rfl|a
  ·exact K2 b.1 h
  ·exact o3 b.2 (Gg id p h).2.2 c a
section
variable{hg:Nat->Option dR}{bo:Bool}{R1 R2:Nat->Nat->Value->Prop}{e e1:Env}{gF:List Nat}
structure GF(hg:Nat->Option dR)(R1 R2:Nat->Nat->Value->Prop)(e e1:Env)(gF:List Nat):Prop where
 mono:∀b o u,R1 b o u->R2 b o u
 bJ:∀j,e1.bJ j=e.bJ j
 sv:∀j,e1.sv j=e.sv j
 row:∀k,gF.contains k=true->∀t r xs wr,hg k=some (.arr t r xs wr)->VR R2 none (.sl false r.w (List.map (bx r) xs)) (e.sv k)
 box:∀k,gF.contains k=true->∀t cs,t≠CC->hg k=some (.box t cs)->∃b us,e.bJ k=some b/\LR (VR R1 (some e)) (bO cs) us/\∀(j:Nat) u,us[j]? =some u->R2 b j u
def GF.carry(g:GF hg R1 R2 e e1 gF){c:AV}(h:VR R1 (some e) c u):VR R2 (some e1) c u:=(h.mono g.mono).ic rfl g.bJ g.sv
def ZH(g:GF hg R1 R2 e e1 gF){s:Sc}{c:EV}{x:s.cQ}{gs:List Nat}(h:ZD hg s c=some (x,gs))(f:∀k,gs.contains k=true->gF.contains k=true)(b:VR R1 (some e) (enc c) u):VR R2 (some e1) (encS s x) u:=by
 unfold ZD at h;split at h
 ·rename_i k
  split at h
  ·rename_i t r j wr i
   split at h
   ·rename_i y a
    cases h;obtain⟨rfl,rfl⟩:=c8 a;cases b;exact(g.row k (f k (by simp)) t r _ wr i).cJ
   ·cases h
  ·cases h
 ·split at h
  ·rename_i y a
   cases h;exact Po a _ _ _ (g.carry b)
  ·cases h
mutual
def WT:∀(p:PV) {c:EV} {f:List EV} {gs:List Nat},o2 hg bo p c=some (f,gs)->jg f
 |.h s,c,f,gs,h=>by
  simp only[o2]at h;split at h
  ·cases h
   intro c b;simp only[aqB]at b;exact⟨_,_,b⟩
  ·cases h
 |.t r,c,f,gs,h=>by
  simp only[o2]at h;split at h
  ·split at h
   ·cases h
    intro c b;simp only[aqB]at b;exact⟨_,_,b⟩
   ·cases h
  ·cases h
   intro c b;simp only[aqB]at b;exact⟨_,_,b⟩
  ·cases h
 |.k t,c,f,gs,h=>by
  simp only[o2]at h;obtain⟨_,a⟩:=aX h;cases a;intro c b;cases b
 |.ag l,c,f,gs,h=>by
  simp only[o2]at h;split at h
  ·exact fH l h
  ·cases h
 |.tu l,c,f,gs,h=>by simp[o2]at h
 |.fp l,c,f,gs,h=>by
  simp only[o2]at h;split at h
  ·obtain⟨_,a⟩:=aX h
   split at a
   ·rename_i g
    cases a;exact fH l g
   ·cases a
  ·obtain⟨_,a⟩:=aX h
   split at a
   ·obtain⟨_,a⟩:=aX a
    split at a
    ·rename_i g
     cases a;exact fH l g
    ·cases a
   ·cases a
  ·cases h
 |.cl u i q,c,f,gs,h=>by
  simp only[o2]at h;split at h
  ·obtain⟨_,a⟩:=aX h
   split at a
   ·rename_i j
    split at a
    ·rename_i m
     cases a;intro c b;rcases aqp.1 b with b|b
     ·exact fH i j c b
     ·exact fH q m c b
    ·cases a
   ·cases a
  ·cases h
 |.pe k v o,c,f,gs,h=>by
  simp only[o2]at h;split at h
  ·obtain⟨_,a⟩:=aX h
   cases a;intro c b;simp only[aqB]at b;exact⟨_,_,b⟩
  ·cases h
def fH:∀(f:List PV) {cs:List EV} {b:List EV} {gs:List Nat},lk hg bo f cs=some (b,gs)->jg b
 |[],cs,b,gs,h=>by
  simp only[lk]at h;split at h
  ·cases h;intro c a;cases a
  ·cases h
 |p::f,cs,b,gs,h=>by
  simp only[lk]at h;split at h
  ·cases h
  ·split at h
   ·rename_i g
    split at h
    ·rename_i i
     cases h;intro c a;rcases aqp.1 a with a|a
     ·exact WT p g c a
     ·exact fH f i c a
    ·cases h
   ·cases h
end
mutual
def afk(g:GF hg R1 R2 e e1 gF):∀(p:PV) {c:EV} {w:List EV} {gs:List Nat} (rest:List EV),jg rest->o2 hg bo p c=some (w,gs)->(∀k,gs.contains k=true->gF.contains k=true)->(fw p (w++rest)).2=rest/\∀u,VR R1 (some e) (enc c) u->VR R2 (some e1) (enc (fw p (w++rest)).1) u
 |.h s,c,w,gs,rest,q,h,v=>by
  simp only[o2]at h;split at h
  ·rename_i x X hx
   cases h;exact⟨rfl,λu i=>ZH g hx v i⟩
  ·cases h
 |.t r,c,w,gs,rest,q,h,v=>by
  simp only[o2]at h;split at h
  ·split at h
   ·rename_i ys hy
    cases h;obtain⟨e,rfl⟩:=c8 hy;cases e;exact⟨rfl,λu i=>g.carry i⟩
   ·cases h
  ·cases h
   exact⟨rfl,λu i=>Wk.Pn _ _ _ (g.carry i)⟩
  ·cases h
 |.k c0,c,w,gs,rest,q,h,v=>by
  simp only[o2]at h;obtain⟨m,f⟩:=aX h;cases f;exact⟨rfl,λu i=>K1 m _ _ _ (g.carry i)⟩
 |.ag l,c,w,gs,rest,q,h,v=>by
  simp only[o2]at h;split at h
  ·obtain⟨a,b⟩:=kD g l rest q h v
   refine⟨a,λu i=>?_⟩;obtain⟨z,rfl,H⟩:=VR.eS i;have:=b z H;exact .ag z this.1 this.2
  ·cases h
 |.tu l,c,w,gs,rest,q,h,v=>by simp[o2]at h
 |.fp l,c,w,gs,rest,q,h,v=>by
  simp only[o2]at h;split at h
  ·rename_i cs
   obtain⟨B,f⟩:=aX h;split at f
   ·rename_i vs C
    cases f;obtain⟨a,b⟩:=kD g l rest q C (λk A=>by simp at A);have J:jg (w++rest):=λc y=>(aqp.1 y).elim (fH l C c) (q c);refine⟨a,λu i=>?_⟩;cases i with
    |fp z G y F=>
     have:=b z ⟨G,λj c u m f=>(y j c u m f).cJ⟩;exact .fp z this.1 (λj c u m f=>(this.2 j c u m f).close (o3 B J c (aqw m))) λj u I=>g.mono _ _ _ (F j u I)
   ·cases f
  ·rename_i k o
   obtain⟨B,f⟩:=aX h;simp only[aqe]at B;have ho:=aqj B.1.2;subst ho;split at f
   ·rename_i t cs A
    obtain⟨a3,f⟩:=aX f;split at f
    ·rename_i vs X C
     cases f;obtain⟨a,b⟩:=kD g l rest q C (λk' M=>v k' (by simp at M⊢;exact .inr M));have J:jg (w++rest):=λc y=>(aqp.1 y).elim (fH l C c) (q c);refine⟨a,λu i=>?_⟩;obtain⟨bb,z,E,H,y⟩:=g.box k (v k (by simp)) t cs (zc a3) A;cases i with
     |pt L=>
      rw[E]at L;cases L;have:=b z H;exact .fp z this.1 (λj c u m f=>(this.2 j c u m f).close (o3 B.2 J c (aqw m))) λj u I=>by rw[aqN];exact y j u I
    ·cases f
   ·cases f
  ·cases h
 |.cl fn W Q,c,w,gs,rest,q,h,v=>by
  simp only[o2]at h;split at h
  ·obtain⟨m,f⟩:=aX h
   obtain rfl:=ZE m;split at f
   ·rename_i a g1 F
    split at f
    ·rename_i b g2 E
     cases f;have a0:jg (b++rest):=λc y=>(aqp.1 y).elim (fH Q E c) (q c);obtain⟨R,S⟩:=kD g W (b++rest) a0 F (λk A=>v k (by simp at A⊢;exact .inl A));obtain⟨U,V⟩:=kD g Q rest q E (λk A=>v k (by simp at A⊢;exact .inr A));simp only[fw,aqJ,R];refine⟨U,λu i=>?_⟩;cases i with
     |cl z vs G Z y Y=>
      have N:=S z ⟨G,y⟩;have O:=V vs ⟨Z,Y⟩;exact .cl z vs N.1 O.1 N.2 O.2
    ·cases f
   ·cases f
  ·cases h
 |.pe k sz o,c,w,gs,rest,q,h,v=>by
  simp only[o2]at h;split at h
  ·obtain⟨m,f⟩:=aX h
   cases f;simp only[aqe]at m;rw[aqj m.1.1,aqj m.1.2,aqj m.2];refine⟨rfl,λu i=>?_⟩;simp only[fw,arM,arN,peE,g_];exact g.carry i
  ·cases h
def kD(g:GF hg R1 R2 e e1 gF):∀(l:List PV) {cs:List EV} {o:List EV} {gs:List Nat} (rest:List EV),jg rest->lk hg bo l cs=some (o,gs)->(∀k,gs.contains k=true->gF.contains k=true)->(cT l (o++rest)).2=rest/\∀f,LR (VR R1 (some e)) (bO cs) f->LR (VR R2 (some e1)) (bO (cT l (o++rest)).1) f
 |[],cs,o,gs,rest,r,h,q=>by
  simp only[lk]at h;split at h
  ·cases h
   exact⟨rfl,λf i=>by
    have:f=[]:=arh (by simpa[bO]using i.1);subst this;exact LR.nil⟩
  ·cases h
 |p::l,cs,o,gs,rest,r,h,q=>by
  simp only[lk]at h;split at h
  ·cases h
  ·rename_i c cs
   split at h
   ·rename_i a G C
    split at h
    ·rename_i b H s
     cases h;have F:jg (b++rest):=λc E=>(aqp.1 E).elim (fH l s c) (r c);obtain⟨t,w⟩:=afk g p (b++rest) F C (λk m=>q k (by simp at m⊢;exact .inl m));obtain⟨y,z⟩:=kD g l rest r s (λk m=>q k (by simp at m⊢;exact .inr m));simp only[cT,aqJ,t];refine⟨y,λf i=>?_⟩;cases f with
     |nil=>have:=i.1;simp[bO]at this
     |cons u f=>
      exact LR.cons (w u (i.2 0 _ u rfl rfl)) (z f ⟨by simpa[bO]using i.1,λj c v A B=>i.2 (j+1) c v (by simpa[bO]using A) (by simpa using B)⟩)
    ·cases h
   ·cases h
end
end
def K3:dR->Bool
 |.arr _ _ _ wr=>wr
 |_=>true
def Db(hg:Nat->Option dR)(D:List (Nat×Nat))(B:Nat):List (Nat×PO)->Option (List EV)
 |[]=>some []
 |(p,po)::hs=>match tW D p with
  |some k=>match hg k with
   |some o=>cond (K3 o) (match afj (q9 (fG D B) po) o with
    |some a=>match Db hg D B hs with
     |some b=>some (a++b)
     |none=>none
    |none=>none) none
   |none=>none
  |none=>none
def gk(hg:Nat->Option dR):List Nat->eF
 |[]=>[]
 |k::gs=>match hg k with
  |some (.arr t r xs _)=>(k,some (.arr t r xs false))::gk hg gs
  |_=>gk hg gs
def K4(hg:Nat->Option dR)(k:Nat):Bool:=match hg k with
 |some (.arr _ _ _ _)=>true
 |_=>false
def ZI(D:List (Nat×Nat)):eF:=D.map λq=>(q.2,none)
def deW(hg:Nat->Option dR):EV->EV×List Nat×Bool
 |.sw k l n sz=>match hg k with
  |some (.arr _ r xs _)=>cond (Nat.beq r.w sz) (.sc (.sl r) (show List r.cQ from(xs.drop l.toNat).take n.toNat),[k],Nat.ble (l.toNat+n.toNat) xs.length) (.sw k l n sz,[],true)
  |_=>(.sw k l n sz,[],true)
 |c=>(c,[],true)
def zm(hg:Nat->Option dR):List EV->List EV×List Nat×Bool
 |[]=>([],[],true)
 |c::cs=>((deW hg c).1::(zm hg cs).1,(deW hg c).2.1++(zm hg cs).2.1,(deW hg c).2.2 && (zm hg cs).2.2)
def ZJ(e:Env)(R2:Nat->Nat->Value->Prop)(k:Nat)(r:Sc)(xs:List r.cQ):Prop:=
 ∀b,e.bJ k=some b->∃us,LR (VR R2 none) (List.map (bx r) xs).flatten us/\∀(j:Nat) u,us[j]? =some u->R2 b j u
def aio{hg:Nat->Option dR}{R1 R2:Nat->Nat->Value->Prop}{e:Env}(B:∀b o u,R1 b o u->R2 b o u)(c:EV)
 (v:∀k,(deW hg c).2.1.contains k=true->∀t r f wr,hg k=some (.arr t r f wr)->ZJ e R2 k r f) (i:(deW hg c).2.2=true) (y:VR R1 (some e) (enc c) u):VR R2 (some e) (enc (deW hg c).1) u:=by
 unfold deW at v i⊢;split
 ·rename_i k l n Y
  simp only at v i;split
  ·rename_i t r f wr L
   rw[L]at v i;simp only at v i;cases w:Nat.beq r.w Y with
   |false=>exact y.mono B
   |true=>
    rw[w]at v i;simp only[aqE]at v i⊢;have w:=aqj w;subst w;have i:=aqk i;cases y with
    | @sw e0 k0 l0 n0 a2 b o N h V O Q=>
     obtain⟨G,H,R⟩:=v k (by simp) t r f wr L b h;have C:∀q∈List.map (bx r) f,q.length=r.w:=by
      intro q s;obtain⟨z,_,rfl⟩:=aqq.1 s;exact eH r z
     have M:((List.map (bx r) f).drop l.toNat|>.take n.toNat).length=n.toNat:=by
      rw[aq0,ar4,aqn];omega
     have W:∀q∈((List.map (bx r) f).drop l.toNat|>.take n.toNat),q.length=r.w:=λq s=>C q (atc (asy s));have I:((List.map (bx r) f).drop l.toNat|>.take n.toNat).flatten=((List.map (bx r) f).flatten.drop (l.toNat*r.w)).take (n.toNat*r.w):=by
      rw[kX _ _ (λq s=>C q (atc s)),kY _ _ C]
     have a1:(G.drop (l.toNat*r.w)).take (n.toNat*r.w)=(G.drop (l.toNat*r.w)).take (n.toNat*r.w):=rfl;have:=VR.sl (Rd:=R2) (E:=some e) (tight:=false) (sz:=r.w) (rows:=((List.map (bx r) f).drop l.toNat|>.take n.toNat)) (a:=some ⟨b,o,none⟩) (cap:=N)
      ((G.drop (l.toNat*r.w)).take (n.toNat*r.w)) W (eD r _|> λA=>by
       intro c g;obtain⟨q,s,S⟩:=ase.1 g;exact A c (ase.2 ⟨q,atc (asy s),S⟩))
      (by rw[I,aq0,aq0,ar4,ar4,H.1])
      (λj c u g F=>by
       rw[I]at g;rw[aqT]at g F;split at g
       ·rename_i p
        rw[aqd p,arD]at F;rw[arD]at g;exact H.2 _ c u g F
       ·cases g) (by rw[M];exact O) Q (λA=>by cases A)
      (λZ=>⟨b,o,rfl,λj u p=>by
       rw[aqT]at p;split at p
       ·rename_i J
        rw[arD]at p;have U:0<n.toNat:=by
         cases X:n.toNat with
         |zero=>rw[X]at J;simp at J
         |succ m=>omega
        rw[V U];exact R _ u p
       ·cases p⟩)
     rw[M,<-asY,<-asD]at this;exact this
  ·rename_i a0
   exact y.mono B
 ·exact y.mono B
def R3{hg:Nat->Option dR}{R1 R2:Nat->Nat->Value->Prop}{e:Env}(l:∀b o u,R1 b o u->R2 b o u):∀(cs:List EV) {f:List Value}
 (i:∀k,(zm hg cs).2.1.contains k=true->∀t r m wr,hg k=some (.arr t r m wr)->ZJ e R2 k r m) (g:(zm hg cs).2.2=true) (a:LR (VR R1 (some e)) (bO cs) f),LR (VR R2 (some e)) (bO (zm hg cs).1) f
 |[],f,i,g,a=>by
  have:f=[]:=arh (by simpa[bO]using a.1);subst this;exact LR.nil
 |c::cs,f,i,g,a=>by
  simp only[zm,aqe]at g;cases f with
  |nil=>have:=a.1;simp[bO]at this
  |cons u f=>
   simp only[zm,bO];exact LR.cons (aio l c (λk h=>i k (by simp only[zm];simp at h⊢;exact .inl h)) g.1 (a.2 0 _ u rfl rfl))
    (R3 l cs (λk h=>i k (by simp only[zm];simp at h⊢;exact .inr h)) g.2 ⟨by simpa[bO]using a.1,λj c v p q=>a.2 (j+1) c v (by simpa[bO]using p) (by simpa using q)⟩)
def ZL(hg:Nat->Option dR)(d:Nat)(c:iS)(aS:List EV)(D:List (Nat×Nat)){R:Type}(k:EV->eF->List Nat->Fr->Option R):Option (Option R):=
 match cond c.pu (zm hg aS) (aS,[],true)with
 |(as',gw,ck)=>match lk hg c.pu (mI (fG D (1000*(d+1))) c.ps) as' with
 |some (vs,gs)=>match Db hg D (1000*(d+1)) c.hs with
  |some ws=>match tY c.cs (vs++ws)with
   |some x=>cond (Ka (1000*(d+1)) D && (gw++gs).all (λk=>(O4 D k).isNone) && D.all (λq=>c.hs.any λr=>Nat.beq r.1 q.1) && (c.pu||(gw++gs).all (K4 hg)))
    (some (cond ck (aW (c.M x) λy=>c.el y R λe H=>cond c.own
     (cond (lU D (bs H) && (enc e).fX (λk=> !Fv D k))
      (k (tP (fG D (1000*(d+1))) e) (Ah (fG D (1000*(d+1))) H++(ZI D++cond c.pu [] (gk hg (gw++gs)))) ((gw++gs)++D.map (·.2)) (.bJ (1000*(d+1)))) none)
     (cond ((enc e).fX (λ_=>true) && D.isEmpty) (k e (cond c.pu [] (gk hg (gw++gs))) (gw++gs) .no) none)) none))
    none
   |none=>none
  |none=>none
 |none=>none
def ZM:EV->Bool
 |.un=>false
 |_=>true
def ZN(hg:Nat->Option dR)(d:Nat)(c:iS)(aS:List EV){R:Type}(k:EV->eF->List Nat->Fr->Option R):Option (Option R):=
 cond (aS.all ZM) (ZL hg d c aS (K0 hg c.hs (o0 c.ps aS [])) k) none
def Dc(hg:Nat->Option dR)(d:Nat)(f:FuncId)(aS:List EV){R:Type}(k:EV->eF->List Nat->Fr->Option R):List iS->Option R
 |[]=>none
 |c::cs=>cond (Nat.beq c.f f) (match ZN hg d c aS k with
  |some r=>r
  |none=>Dc hg d f aS k cs) (Dc hg d f aS k cs)
def fnE(ev:Nat->EV):Operand->Option (FuncId×List EV×List EV)
 |.func f=>some (f,[],[])
 |.tmp i=>match ev i with
  |.v (.func (.func g) ⟨[]⟩ ⟨[]⟩)=>some (g,[],[])
  |.cl (.func g) fs cs=>some (g,fs,cs)
  |_=>none
 |_=>none
def afl:List (Nat×Nat)->Nat->Nat->Bool
 |[],_,_=>false
 |(m,e)::l,n,d=>cond (Nat.beq m n && Nat.beq e d) true (afl l n d)
def De(T:TypeId->bj)(ev:Nat->EV)(hg:Nat->Option dR)(d:Nat)(t:TypeId)(x:Operand)(lo hi mx:Option Operand){R:Type}(k:EV->eF->List Nat->Fr->Option R):Option R:=
 match lo,hi,mx with
 |none,some y,none=>match(T t).el with
  |some (e,sz,_,_)=>match ep ev x with
   |.ow j=>match hg j with
    |some (.arr e' r xs wr)=>match qG ev y with
     |some h=>cond (Nat.beq e e' && Nat.beq sz r.w && wr && !(Nat.beq d j)) (aW (jf xs 0 h) λzs=>k (.ow d) [(d,some (.arr e r zs true)),(j,none)] [j] (.one d)) none
     |none=>none
    |_=>none
   |_=>none
  |none=>none
 |some y,none,none=>PN T ev hg t x y λc us=>k c [] us .no
 |_,_,_=>none
def exO(T:TypeId->bj)(CT:List iS)(n:Nat)(ev:Nat->EV)(hg:Nat->Option dR)(o:Oper){R:Type}(k:EV->eF->List Nat->Fr->Option R):Option R:=
 match o.dst with
 |some d=>cond (Nat.blt d n) (match o.op with
  |.call ⟨.value f,args,_⟩=>match fnE ev f with
   |some (f,fs,cs)=>Dc hg d f (fs++(args.toList.map (ep ev)++cs)) k CT
   |none=>none
  |.box t x=>exM T ev hg d (.box t x) k
  |.alloc t=>exM T ev hg d (.alloc t) k
  |.makeSlice t x y=>cond (afl gNr n d) (C8 T ev d t x y k) (exM T ev hg d (.makeSlice t x y) k)
  |.makeMap t x=>exM T ev hg d (.makeMap t x) k
  |.slice t x lo hi mx=>cond (afl gNr n d) (De T ev hg d t x lo hi mx k) (exM T ev hg d (.slice t x lo hi mx) k)
  |.buildSlice t len ps=>match ZA ev len ps.toList with
   |some p=>PL T d t p k
   |none=>cond (afl gNr n d) (PC T ev hg d t len ps.toList k) (exM T ev hg d (.buildSlice t len ps) k)
  |.call ⟨.builtin .append,args,ts⟩=>match ZB ev hg args,args.toList.head?,ts with
   |some p,some x,⟨[t,t']⟩=>PM T ev hg d t t' x p k
   |_,_,_=>exM T ev hg d (.call ⟨.builtin .append,args,ts⟩) k
  |.mapEntry t x y=>BM T ev hg t x y λc os us=>k c os us .no
  |op=>exR T ev hg op λc us=>k c [] us .no) none
 |none=>match o.op with
  |.store t x y=>Io T ev hg t x y λos us=>k .un os us .no
  |.mapUpdate t x y v=>v_ T ev hg t x y v λos us=>k .un os us .no
  |.insert t x y v=>v_ T ev hg t x y v λos us=>k .un os us .no
  |.entryStore t x y v=>zl T ev hg t x y v λos us=>k .un os us .no
  |.call ⟨.builtin .clear,⟨[x]⟩,⟨[t]⟩⟩=>Ip T ev hg t x λos us=>k .un os us .no
  |_=>none
section
variable{P:Program}{T:TypeId->bj}{ev:Nat->EV}{hg:Nat->Option dR}{n d:Nat}{ty:TypeId}{pos:String}{af:Array Edge}{gd:Option (Nat×Bool)}
variable{st:St}{K:St->Prop}
def aip{args:Array Operand}(b:Sk ev st)(a:∀c∈args.toList.map (ep ev),c≠.un):args.toList.map st.ev=bO (args.toList.map (ep ev)):=by
 rw[dH,aru];refine aq6 λx f=>?_;exact b.is rfl (a _ (aqq.2 ⟨x,f,rfl⟩))
def K5{p:Nat->Bool}:∀{os:eF} {h:Hp},Br hg os->(∀k o,(k,o)∈os->p k=false)->gW p (bs os++h)=bs os++gW p h
 |[],h,_,_=>rfl
 |(k,o)::os,h,b,f=>by
  obtain⟨t,r,g,wr,j,rfl⟩:=b k o (by simp);have i:=K5 (os:=os) (h:=h) (λk o a=>b k o (by simp[a])) (λk o a=>f k o (by simp[a]));simp only[bs,arw,gW,i,f k _ (by simp:(k,some (dR.arr t r g false))∈(k,some (dR.arr t r g false))::os)];rfl
def WU(π:Nat->Nat)(f:PO){cs:List EV}(h:jg cs):(ij (q9 π f) cs).1=(ij f cs).1.map (Iu π)/\(ij (q9 π f) cs).2=(ij f cs).2/\jg (ij f cs).2:=by
 cases f with
 |box t l=>
  obtain⟨a,b,c⟩:=gj π l h;exact⟨by simp only[q9,ij,a,Option.map,Iu],by simp only[q9,ij,b],c⟩
 |arr t r wr=>
  refine⟨?_,rfl,h.tail⟩;simp only[q9,ij];rcases iT h with e|⟨s,x,e⟩
  ·rw[e];rfl
  ·rw[e]
   simp only[afg];cases ec s (.sl r) x<;>rfl
 |mp d j o=>
  refine⟨?_,rfl,h.tail⟩;simp only[q9,ij];rcases iT h with e|⟨s,x,e⟩
  ·rw[e];rfl
  ·rw[e]
   simp only[mpE];cases ec s (.sl (.pr j o)) x<;>rfl
 |nr t r i=>
  cases i with
  |none=>
   refine⟨?_,rfl,h.tail⟩;simp only[q9,ij];rcases iT h with e|⟨s,x,e⟩
   ·rw[e];rfl
   ·rw[e]
    simp only[nrE];cases ec s (.sl (.sl r)) x<;>rfl
  |some q=>
   obtain⟨v,p⟩:=q;refine⟨?_,rfl,h.tail.tail⟩;simp only[q9,ij];rcases iT h with e|⟨s,x,e⟩
   ·rw[e];rfl
   ·rw[e]
    rcases iT h.tail with g|⟨m,u,g⟩
    ·rw[g];rfl
    ·rw[g]
     simp only[aik];cases ec s (.sl (.sl r)) x with
     |none=>rfl
     |some y=>cases ec m (.i .i64) u<;>rfl
 |qr t k w=>
  refine⟨?_,rfl,h.tail⟩;simp only[q9,ij];rcases iT h with e|⟨s,x,e⟩
  ·rw[e];rfl
  ·rw[e]
   simp only[qrE];cases ec s (.sl (.i .i64)) x<;>rfl
def Dg{D:List (Nat×Nat)}{B:Nat}:∀(i:List (Nat×PO)) {ws:List EV} (rest:List EV),Db hg D B i=some ws->jg (ws++rest)->
 (∀p j,bw (qY i (ws++rest)) p=some j->∃k o,tW D p=some k/\hg k=some o/\K3 o=true/\∀Rd e w,OR Rd e w k (bS o)->OR Rd e w k (bS (Iu (fG D B) j)))/\
 (∀p,i.any (λr=>Nat.beq r.1 p)=true->∃k o,tW D p=some k/\hg k=some o/\K3 o=true)
 |[],ws,rest,h,u=>⟨λp j l=>(by cases l),λp F=>(by cases F)⟩
 |(p,y)::i,ws,rest,h,u=>by
  simp only[Db]at h;split at h
  ·rename_i k t
   split at h
   ·rename_i o l
    obtain⟨s,g⟩:=aX h;split at g
    ·rename_i a A
     split at g
     ·rename_i b C
      cases g;have v:jg (a++(b++rest)):=by rw[<-aqJ];exact u
      obtain⟨z,N,m,M⟩:=R0 (q9 (fG D B) y) (b++rest) A;obtain⟨J,L,O⟩:=WU (fG D B) y v;have G:jg (b++rest):=λc E=>v c (aqp.2 (.inr E));obtain⟨H,I⟩:=Dg i rest C G;refine⟨λq j f=>?_,λq f=>?_⟩
      ·simp only[qY,aqJ,bw]at f
       rw[L]at z;rw[z]at f;by_cases e:q=p
       ·subst e
        rw[aqM]at f;simp only[aqE]at f;rw[J,f]at m;simp only[Option.map,aqg]at m;subst m;exact⟨k,o,t,l,s,λRd e w=>M Rd e w k⟩
       ·rw[iC e]at f
        exact H q j f
      ·simp only[ar5,ara]at f
       rcases f with f|f
       ·have:=aqj f
        subst this;exact⟨k,o,t,l,s⟩
       ·exact I q f
     ·cases g
    ·cases g
   ·cases h
  ·cases h
def sT(hg:Nat->Option dR):∀gs:List Nat,Br hg (gk hg gs)/\∀p∈gk hg gs,gs.contains p.1=true
 |[]=>⟨λk o h=>(by cases h),λp h=>(by cases h)⟩
 |k::gs=>by
  obtain⟨a,b⟩:=sT hg gs;simp only[gk];split
  ·rename_i t r g wr f
   refine⟨λj o h=>?_,λp h=>?_⟩
   ·rcases aqG.1 h with h|h
    ·cases h;exact⟨t,r,g,wr,f,rfl⟩
    ·exact a j o h
   ·rcases aqG.1 h with rfl|h
    ·simp
    ·have:=b p h;simp at this⊢;exact .inr this
  ·exact⟨a,λp h=>by have:=b p h;simp at this⊢;exact .inr this⟩
def ZO{q:Bs}{l:Nat->Nat->Value->Prop}{e:Env}{h:Hp}{w:World}{p:List Nat}(z:SR q l e h w)(y:HC hg p h):∀gs:List Nat,(∀k,gs.contains k=true->p.contains k=true)->
 ∃e1,m_ q l e h w e1 (bs (gk hg gs)++h)/\∀k,gs.contains k=true->∀t r i wr,hg k=some (.arr t r i wr)->VR (bF q l e1 (bs (gk hg gs)++h) w) none (.sl false r.w (List.map (bx r) i)) (e.sv k)
 |[],_=>⟨e,m_.refl z,λk f=>by simp at f⟩
 |k::gs,A=>by
  obtain⟨e1,g,B⟩:=ZO z y gs (λj a=>A j (by simp at a⊢;exact .inr a));simp only[gk];split
  ·rename_i t r i wr f
   have I:HC hg p (bs (gk hg gs)++h):=y.put (sT hg gs).1 λ_ h=>h;obtain⟨M,L⟩:=I k (A k (by simp)) t r i wr f;obtain⟨C,E,v,F,G,H⟩:=g.sr.O9 L;refine⟨C,g.trans ⟨E,v,F,G⟩,λj a o m u s b=>?_⟩;by_cases e:j=k
   ·subst e
    rw[f]at b;cases b;rw[<-g.sv j];exact H
   ·have a:gs.contains j=true:=by simp at a⊢;exact a.resolve_left e
    exact(B j a o m u s b).mono v
  ·rename_i J
   refine⟨e1,g,λj a o m u s b=>?_⟩;by_cases e:j=k
   ·subst e
    exact absurd b (J _ _ _ _)
   ·exact B j (by simp at a⊢;exact a.resolve_left e) o m u s b
def PT{e:Env}(h:SR I a e F m)(g:aY F E=some (bS R))(b:K3 R=true):e.cA E=0:=by
 have:=h.ob E _ g;cases R with
 |box t cs=>exact this.1
 |arr t r f wr=>exact this.2.2.1 b
 |mp d j l i=>exact this.1
 |nr t r f b=>exact this.1
 |qr t b k f=>exact this.1
def afn{h:Hp}(a:∀p∈S,p.1≠E):aY (bs S++h) E=aY h E:=by
 rw[dZ,BK];rw[aqc];simp only[arW,as_,not_exists,not_and];exactλp b=>a p b
def K6{D:List (Nat×Nat)}{cs:List EV}:bO (qZ (fG D E) cs)=(bO cs).map (AV.hV (fG D E)):=by rw[lY,kz]
section
variable{c:iS}{aS:List EV}{D:List (Nat×Nat)}{vs ws:List EV}{gs:List Nat}{x:kf c.cs}
def Gh{e:Env}(t:SR I a e F m)(j:∀p,c.hs.any (λr=>Nat.beq r.1 p)=true->∃k o,tW D p=some k/\hg k=some o/\K3 o=true)(l:D.all (λq=>c.hs.any λr=>Nat.beq r.1 q.1)=true)
 (s:∀k o,(∃p,tW D p=some k)->hg k=some o->aY F k=some (bS o)):Handed D e F:=by
 intro p k g;have i:=aqD.1 l _ (fP g);obtain⟨u,o,f,b,h⟩:=j p i;rw[g]at f;cases f;have:=s k o ⟨p,g⟩ b;exact⟨⟨_,this⟩,PT t this h⟩
def ra(M:lk hg c.pu (mI (fG D (1000*(d+1))) c.ps) aS=some (vs,gs))(Z:Db hg D (1000*(d+1)) c.hs=some ws)(A:vs++ws=gZ c.cs x)
 (H:gs.all (λk=>(O4 D k).isNone)=true) (I:D.all (λq=>c.hs.any λr=>Nat.beq r.1 q.1)=true) (m:(c.pu||gs.all (K4 hg))=true) (U:c.pu=false) (Q:Bm (D.map (·.2))=true) {st:St} (s:Hk hg (gs++D.map (·.2)) st):
 Rx st D (1000*(d+1)) (bs (gk hg gs)++st.h) (bs (c.H0 x)) (bO (c.as x)) (bO aS):=by
 intro E i e w us Y R;have y:jg (vs++ws):=by rw[A];exact q_ _ _
 have z:jg ws:=λc O=>y c (aqp.2 (.inr O));obtain⟨e1,b,v1⟩:=ZO Y s.hc gs (λk a=>by simp at a⊢;exact .inl a);have X:∀k,gs.contains k=true->K4 hg k=true:=λk a=>by
  rw[U]at m;exact aqD.1 (by simpa using m) k (by simpa using a)
 have g:GF hg (bF E i e st.h w) (bF E i e1 (bs (gk hg gs)++st.h) w) e e1 gs:=
  ⟨b.rd,b.bJ,b.sv,v1,λk a t cs _ N=>by have:=X k a;unfold K4 at this;rw[N]at this;cases this⟩
 obtain⟨j,l⟩:=kD g _ ws z M (λk h=>h);obtain⟨B,C,r3⟩:=gj (fG D (1000*(d+1))) c.ps y;rw[A]at B C j l;have L:c.H0 x=qY c.hs ws:=by unfold iS.H0;rw[<-C,j]
 obtain⟨F,x2⟩:=Dg c.hs [] Z (by simpa using z);rw[aqV]at F;have u:∀k o,(∃p,tW D p=some k)->hg k=some o->aY (bs (gk hg gs)++st.h) k=some (bS o):=by
  rintro k o ⟨p,a⟩ f;have W:O4 D k=some p:=lV Q (fP a);rw[afn λq V=>?_]
  ·exact s.at (by simp only[atP,aqp,ard];exact .inr (aqq.2 ⟨_,fP a,rfl⟩)) f
  ·rintro rfl
   have J:=(sT hg gs).2 q V;have:=aqD.1 H q.1 (by simpa using J);rw[W]at this;cases this
 refine⟨e1,b,Gh b.sr x2 I u,λp ob v=>?_,?_⟩
 ·rw[L,cV]at v
  obtain⟨o',S,rfl⟩:=aqL.1 v;obtain⟨k,o,G,y2,y3,y4⟩:=F p o' S;refine⟨k,_,G,u k o ⟨p,G⟩ y2,λRd f=>?_⟩;rw[<-C_];exact y4 Rd e1 w f
 ·have:=l us R
  rw[B,K6]at this;exact this
def we{C:List Nat}(U:zm hg aS=(g,C,true))(ha:lk hg c.pu (mI (fG D (1000*(d+1))) c.ps) g=some (vs,gs))(hw:Db hg D (1000*(d+1)) c.hs=some ws)(hx:vs++ws=gZ c.cs x)
 (h2:(C++gs).all (λk=>(O4 D k).isNone)=true) (h3:D.all (λq=>c.hs.any λr=>Nat.beq r.1 q.1)=true) (ag:Bm (D.map (·.2))=true) {st:St} (hH:Hk hg ((C++gs)++D.map (·.2)) st):
 Pd st D (1000*(d+1)) (bs (c.H0 x)) (bO (c.as x)) (bO aS):=by
 intro w0 ac e w us E J;have a9:jg (vs++ws):=by rw[hx];exact q_ _ _
 have aa:jg ws:=λc m=>a9 c (aqp.2 (.inr m));obtain⟨x1,x2⟩:=Dg c.hs [] hw (by simpa using aa);rw[aqV]at x1;have I:∀k o,(C++gs).contains k=true->hg k=some o->aY st.h k=some (bS o):=λk o i l=>hH.at (by simp at i⊢;rcases i with i|i<;>simp[i]) l;have Y:∀k o,(∃p,tW D p=some k)->hg k=some o->aY st.h k=some (bS o):=by
  rintro k o ⟨p,i⟩ l;exact hH.at (by simp only[atP,aqp,ard];exact .inr (aqq.2 ⟨_,fP i,rfl⟩)) l
 have Z:Handed D e st.h:=Gh E x2 h3 Y;have X:∀k o b,(C++gs).contains k=true->hg k=some o->e.bJ k=some b->¬(cB D (1000*(d+1)) e w).gU b:=by
  rintro k o b i l hb (W|⟨p,O,m,S⟩)
  ·have:=(E.base k _ b (I k o i l) hb).2
   simp only[cB]at W;omega
  ·obtain⟨⟨ob,ai⟩,_⟩:=Z p O m
   have:=E.inj _ _ _ _ _ (I k o i l) ai hb S;subst this;have h5:=aqD.1 h2 k (by simpa using i);rw[lV ag (fP m)]at h5;cases h5
 have L:∀b o u,bF w0 ac e st.h w b o u->RB D (1000*(d+1)) e w b o u:=by
  rintro b o u ⟨z,N,F⟩;refine⟨z,?_⟩;rintro(W|⟨p,O,m,S⟩)
  ·have:=asg w _ z
   simp only[cB]at W;simp only at this;omega
  ·obtain⟨⟨ob,l⟩,J⟩:=Z p O m
   have:=F O ob l S;omega
 have ak:∀k,(C++gs).contains k=true->∀t r A wr,hg k=some (.arr t r A wr)->ZJ e (RB D (1000*(d+1)) e w) k r A:=λk i t r A wr l b' Q=>by
  obtain⟨z,N,F,q4⟩:=E.ob k _ (I k _ i l);rcases q4 with⟨s,y,a,G⟩|⟨b,ad,H,s,y,G,a4,R,a6,B,a8⟩
  ·rw[y]at Q;cases Q
  ·rw[s]at Q
   cases Q;refine⟨H.toList.take (List.map (bx r) A).flatten.length,⟨B.1,λj c u m M=>(B.2 j c u m M).mono L⟩,λj u v=>?_⟩;have V:j<(List.map (bx r) A).flatten.length:=by
    have:=(aqh.1 v).1;rw[B.1]at this;exact this
   rw[aqT,aqd V]at v;exact⟨by rw[arj w b' j H t (0,0) R];simpa using v,X k _ b' i l s⟩
 have f:GF hg (RB D (1000*(d+1)) e w) (RB D (1000*(d+1)) e w) e e (C++gs):=by
  refine⟨λ_ _ _ h=>h,λ_=>rfl,λ_=>rfl,λk i t r A wr l=>?_,λk i t cs aj l=>?_⟩
  ·obtain⟨z,N,F,q4⟩:=E.ob k _ (I k _ i l)
   rcases q4 with⟨s,y,a,G⟩|⟨b,ad,H,s,y,G,a4,R,a6,B,a8⟩
   ·rw[s,G]
    exact VR.sl (rows:=[]) [] (by simp) (by simp) rfl (by simp) (aqf _) (aqI _) (by simp) (by simp)
   ·rw[y]
    refine VR.sl (H.toList.take (List.map (bx r) A).flatten.length) z N B.1 (λj c u m M=>(B.2 j c u m M).mono L) G a4 (by simp) (λ_=>⟨b,0,rfl,λj u v=>?_⟩);have V:j<(List.map (bx r) A).flatten.length:=by
     have:=(aqh.1 v).1;rw[B.1]at this;exact this
    rw[aqT,aqd V]at v;exact⟨by rw[aqN,arj w b j H t (0,0) R];simpa using v,X k _ b i l s⟩
  ·obtain⟨q0,b,ab,z,N,F⟩:=E.ob k _ (I k _ i l)
   refine⟨b,ab,z,⟨F.1,λj c u m M=>(F.2 j c u m M).mono L⟩,λj u v=>⟨?_,X k _ b i l z⟩⟩;rw[arj w b j ab.toArray t (0,0) (N.cells aj)];simpa using v
 have J:=R3 (hg:=hg) L aS (by rw[U];exactλk i=>ak k (by simp at i⊢;exact .inl i)) (by rw[U]) J;rw[U]at J;obtain⟨s,y⟩:=kD f _ ws aa ha (λk h=>by simp at h⊢;exact .inr h);obtain⟨r1,r2,r3⟩:=gj (fG D (1000*(d+1))) c.ps a9;rw[hx]at r1 r2 s y;have ae:c.H0 x=qY c.hs ws:=by unfold iS.H0;rw[<-r2,s]
 refine⟨Z,λp ob a0=>?_,?_⟩
 ·rw[ae,cV]at a0
  obtain⟨o',ah,rfl⟩:=aqL.1 a0;obtain⟨k,o,y1,y2,y3,y4⟩:=x1 p o' ah;refine⟨k,_,y1,Y k o ⟨p,y1⟩ y2,?_⟩;rw[<-C_];exact y4 _ e w ((E.ob k _ (Y k o ⟨p,y1⟩ y2)).mono L)
 ·have:=y us J
  rw[r1,K6]at this;exact this
end
def K7(D:List (Nat×Nat)):bs (ZI D)=na D:=by
 induction D with
 |nil=>rfl
 |cons q D a=>simp only[ZI,aqz,bs,na,Option.map]at a⊢;rw[a]
mutual
def PU:∀c:EV,c.pu=true->(enc c).pu=true
 |.un,_=>rfl
 |.sc s x,h=>by cases s<;>first|rfl|(simp[EV.pu]at h)
 |.nil,_=>rfl
 |.ts r g,h=>by simp[EV.pu]at h
 |.v x,_=>rfl
 |.ow k,_=>rfl
 |.pt k o,_=>rfl
 |.pe k i b o,_=>rfl
 |.sw k l n b,_=>rfl
 |.mp k,_=>rfl
 |.fp cs,h=>by simp[EV.pu]at h
 |.ag cs,h=>by simp only[EV.pu]at h;simp only[enc,AV.pu];exact sU cs h
 |.tu cs,h=>by simp only[EV.pu]at h;simp only[enc,AV.pu];exact sU cs h
 |.cl f a cs,h=>by simp only[EV.pu,aqe]at h;simp only[enc,AV.pu,sU a h.1,sU cs h.2];rfl
def sU:∀cs:List EV,EV.Fw cs=true->AV.Fw (bO cs)=true
 |[],_=>rfl
 |c::cs,h=>by simp only[EV.Fw,aqe]at h;simp only[bO,AV.Fw,PU c h.1,sU cs h.2];rfl
end
def BO:∀(s:Sc) (x:s.cQ),s.ns=true->∀c∈bx s x,c.pu=true
 |.i _,_,_,c,h=>by simp only[bx,aqB]at h;subst h;rfl
 |.b,_,_,c,h=>by simp only[bx,aqB]at h;subst h;rfl
 |.sl _,_,b,c,h=>by simp[Sc.ns]at b
 |.pr a f,x,b,c,h=>by
  simp only[Sc.ns,aqe]at b;simp only[bx,aqp]at h;exact h.elim (BO a x.1 b.1 c) (BO f x.2 b.2 c)
 |.u,_,_,c,h=>by simp[bx]at h
def R4:∀{cs:List AV},(∀c∈cs,c.pu=true)->AV.Fw cs=true
 |[],_=>rfl
 |x::cs,a=>by simp[AV.Fw,a x (by simp),R4 (cs:=cs) λc b=>a c (by simp[b])]
def afo(s:Sc)(x:s.cQ)(f:s.ns=true):(enc (iL s x)).pu=true:=by
 cases s with
 |i k=>rfl
 |b=>rfl
 |sl r=>simp[Sc.ns]at f
 |pr a g=>simp only[iL,enc,gi,AV.pu];exact R4 (BO _ _ f)
 |u=>rfl
def aiq(b:puH S=true):ah5 (bs S):=by
 intro k ob f;rw[cV]at f;obtain⟨o,a,rfl⟩:=aqL.1 f;clear f;have:o.pu=true:=by
  induction S with
  |nil=>cases a
  |cons p S m=>
   obtain⟨j,w⟩:=p;simp only[puH,arn,aqe]at b;simp only[bw]at a;by_cases e:k=j
   ·subst e
    rw[aqM]at a;simp only[aqE]at a;subst a;exact b.1
   ·rw[iC e]at a
    exact m (by simpa[puH]using b.2) a
 cases o with
 |box t cs=>exact sU cs this
 |arr t r g wr=>
  intro c h;obtain⟨q,l,i⟩:=ase.1 h;obtain⟨z,_,rfl⟩:=aqq.1 l;exact BO r z this c i
 |mp d v s u=>
  intro p b;obtain⟨q,_,rfl⟩:=aqq.1 b;exact afo s q.2 this
 |nr t r g a=>cases this
 |qr t a y g=>cases this
def ENE(P:Program)(op:Op)(ev:Nat->EV)(f:FuncId)(aS:List EV):Prop:=
 ∀(st:St) (d:Nat) (ty:TypeId) (pos:String) (af:Array Edge) (gd:Option (Nat×Bool)),Sk ev st->Kb P ⟨some d,op,ty,pos,af,gd⟩ st f (bO aS)
def ZP{c:iS}(z:c.ok P){J:Op}{aS:List EV}(l:(∀c∈aS,c≠.un)->ENE P J ev c.f aS){R:Type}{k:EV->eF->List Nat->Fr->Option R}{r:R}(hd:d<n)(h:ZN hg d c aS k=some (some r)):
 ∃e os us U,FS P ⟨some d,J,ty,pos,af,gd⟩ n ev hg e os us U/\k e os us U=some r:=by
 unfold ZN at h;obtain⟨a4,h⟩:=aX h;have a3:∀c∈aS,c≠.un:=λc z e=>by
  have:=aqD.1 a4 c z;rw[e]at this;cases this
 have l:=l a3;generalize K0 hg c.hs (o0 c.ps aS [])=D at h;unfold ZL at h;generalize a:cond c.pu (zm hg aS) (aS,[],true)=aw at h;obtain⟨a5,L,ck⟩:=aw;simp only at h;split at h
 ·rename_i vs gs w
  split at h
  ·rename_i ws E
   split at h
   ·rename_i x m
    have m:=wc m;obtain⟨j,h⟩:=aX h;simp only[aqe]at j;obtain⟨⟨⟨F,G⟩,I⟩,Z⟩:=j;have A:Bm (D.map (·.2))=true:=by simp only[Ka,aqe]at F;exact F.1.2
    have h:=aql h;obtain⟨rfl,h⟩:=aX h;obtain⟨y,hy,j⟩:=bf h;obtain⟨e,H,a0,O,Y,u⟩:=z.2 x y hy;rw[a0]at j;have B:=sT hg (L++gs);rcases bD j with⟨Q,j⟩|⟨Q,a2⟩
    ·obtain⟨g,M⟩:=aX j
     simp only[aqe]at g;refine⟨_,_,_,_,λst hn v q i=>?_,M⟩;have X:∀k o,(k,o)∈gk hg (L++gs)->(Fr.bJ (1000*(d+1))).p k=false:=λk o W=>by
      cases hp:(Fr.bJ (1000*(d+1))).p k with
      |false=>rfl
      |true=>
       obtain⟨t,r',xs,wr,e1,_⟩:=B.1 k o W;have S:=q.at (by have:=B.2 (k,o) W;simp at this⊢;rcases this with this|this<;>simp[this]) e1;rw[i.k k hp]at S;cases S
     cases f:c.pu with
     |false=>
      rw[f]at a;simp only[aqi,aqx]at a;obtain⟨rfl,rfl,_⟩:=a;simp only[aqZ]at B X;have b:=ra w E m G I Z f A q;have:=SS.akC (P:=P) (op:=J) (ty:=ty) (pos:=pos) (af:=af) (gd:=gd) (d:=d)
       (K:=λs=>s=⟨st.n,jq (some d) (enc (tP (fG D (1000*(d+1))) e)) (qb (mv (1000*(d+1))) st.t),bs (Ah (fG D (1000*(d+1))) H++(ZI D++gk hg gs))++gW (mv (1000*(d+1))) st.h⟩) u (l st d ty pos af gd v) b F g.1 g.2 (by omega) (by
       rw[K5 (p:=mv (1000*(d+1))) (h:=st.h) B.1 X,fu,fu,q8,BN,K7,aqJ,aqJ];rfl)
      exact SS.Y_ i.t i.h i.k this
     |true=>
      rw[f]at a;simp only[aqE]at a;have b:=we a w E m G I A q;have C:=Y f;have:=SS.Ry (P:=P) (op:=J) (ty:=ty) (pos:=pos) (af:=af) (gd:=gd) (d:=d)
       (K:=λs=>s=⟨st.n,jq (some d) (enc (tP (fG D (1000*(d+1))) e)) (qb (mv (1000*(d+1))) st.t),bs (Ah (fG D (1000*(d+1))) H++(ZI D++[]))++gW (mv (1000*(d+1))) st.h⟩) u (PU _ C.1) (aiq C.2) (l st d ty pos af gd v) b F g.1 g.2 (by omega) (by
       rw[fu,fu,q8,BN,K7,aqJ,aqJ];rfl)
      exact SS.Y_ i.t i.h i.k this
    ·have a1:=z.1 Q
     have O:=O Q;subst O;obtain⟨g,M⟩:=aX a2;simp only[aqe]at g;have hD:D=[]:=by simpa using g.2
     subst hD;have N:c.H0 x=[]:=by unfold iS.H0;rw[a1];rfl
     rw[N]at u;refine⟨_,_,_,_,λst hn v q i=>?_,M⟩;have V:Hk hg ((L++gs)++([]:List (Nat×Nat)).map (·.2)) st:=by simpa using q
     cases f:c.pu with
     |false=>
      rw[f]at a;simp only[aqi,aqx]at a;obtain⟨rfl,rfl,_⟩:=a;have b:=ra w E m G I Z f A V;rw[N]at b;exact SS.akF u (l st d ty pos af gd v) b g.1 (by omega) rfl
     |true=>
      rw[f]at a;simp only[aqE]at a;have b:=we a w E m G I A V;rw[N]at b;have C:=Y f;exact SS.ah8 u (PU _ C.1) (l st d ty pos af gd v) b g.1 (by omega) rfl
   ·cases h
  ·cases h
 ·cases h
def WW{b:List iS}(g:∀c∈b,c.ok P){m:Op}{aS:List EV}(s:(∀c∈aS,c≠.un)->ENE P m ev A aS){R:Type}{k:EV->eF->List Nat->Fr->Option R}{r:R}(q:d<n)(h:Dc hg d A aS k b=some r):
 ∃e o p j,FS P ⟨some d,m,ty,pos,af,gd⟩ n ev hg e o p j/\k e o p j=some r:=by
 induction b with
 |nil=>cases h
 |cons c cs l=>
  simp only[Dc]at h;rcases bD h with⟨f,a⟩|⟨_,a⟩
  ·have f:=aqj f
   split at a
   ·rename_i u t
    subst f;subst a;exact ZP (g c (by simp)) s q t
   ·exact l (λc i=>g c (by simp[i])) a
  ·exact l (λc i=>g c (by simp[i])) a
def air{x:Operand}{h cs:List EV}{b:Array Operand}{f:Array TypeId}(a:fnE ev x=some (A,h,cs))(o:∀c∈h++(b.toList.map (ep ev)++cs),c≠.un):ENE P (.call ⟨.value x,b,f⟩) ev A (h++(b.toList.map (ep ev)++cs)):=by
 intro st d ty pos af gd k;have m:=aip (args:=b) k λc l=>o c (by simp only[aqp];exact .inr (.inl l));rw[kB,kB,<-m];unfold fnE at a;split at a
 ·cases a
  have:=Kb.func (P:=P) (d:=d) (ty:=ty) (pos:=pos) (af:=af) (gd:=gd) (st:=st) (f:=A) (args:=b) (ts:=f);simpa only[bO,aqZ,aqV]using this
 ·rename_i i
  split at a
  ·rename_i g j
   cases a;have:=Kb.val (P:=P) (d:=d) (ty:=ty) (pos:=pos) (af:=af) (gd:=gd) (st:=st) (f:=A) (args:=b) (ts:=f) (k.is (x:=.tmp i) j (by intro e;cases e));simpa only[bO,aqZ,aqV]using this
  ·rename_i g q p j
   cases a;have:=Kb.cl (P:=P) (d:=d) (ty:=ty) (pos:=pos) (af:=af) (gd:=gd) (st:=st) (f:=A) (args:=b) (ts:=f) (k.is (x:=.tmp i) j (by intro e;cases e));rw[<-aqJ];exact this
  ·cases a
 ·cases a
def K8(w:f_ P T){x:Operand}{E g F:Option Operand}{R:Type}{k:EV->eF->List Nat->Fr->Option R}{r:R}(L:d<n)(h:De T ev hg d b x E g F k=some r):
 ∃c G o u,FS P ⟨some d,.slice b x E g F,ty,pos,af,gd⟩ n ev hg c G o u/\k c G o u=some r:=by
 unfold De at h;split at h
 ·rename_i y
  split at h
  ·rename_i e sz f z M
   split at h
   ·rename_i j Q
    split at h
    ·rename_i W t H wr N
     split at h
     ·rename_i B g
      obtain⟨q,I⟩:=aX h;simp only[aqe,arq]at q;obtain⟨⟨⟨p,s⟩,U⟩,l⟩:=q;have p:=aqj p;subst p;have s:=aqj s;subst s;subst U;have l:d≠j:=λe=>by rw[e,aqM]at l;cases l
      obtain⟨zs,i,O⟩:=bf I;unfold jf at i;split at i
      ·rename_i X
       obtain rfl:=aql i;refine⟨_,_,_,_,?_,O⟩;intro st Y C J A;obtain⟨Z,S⟩:=jr g C;obtain⟨m,rfl⟩:∃m:Nat,B=(m:Int):=⟨B.toNat,by omega⟩;have:=SS.ZC (P:=P) (t:=b) (x:=x) (y:=y) (ty:=ty) (pos:=pos) (af:=af) (gd:=gd) (d:=d) (k:=j) (m:=m) (rows:=List.map (bx t) H) (K:=λV=>V=⟨st.n,jq (some d) (.ow d) (cP d st.t),((d,some (.arr e t.w ((List.map (bx t) H).take m) true))::(j,none)::[])++bh d st.h⟩)
        (w.el _ _ M) (C.is Q (by intro e;cases e)) (J.at (by simp) N) S l (by rw[aqn];omega) (by omega) rfl
       have v:=SS.fresh A.t A.h this;rw[<-asD]at v;exact v
      ·cases i
     ·cases h
    ·cases h
   ·cases h
  ·cases h
 ·obtain⟨c,o,a,f⟩:=WQ w h
  exact⟨c,_,o,_,FS.read a L,f⟩
 ·cases h
def FS.insert{x y v:Operand}{c:EV}{g:List Nat}{f:Fr}(h:FS P ⟨none,.mapUpdate b x y v,ty,pos,af,gd⟩ n ev hg c S g f):FS P ⟨none,.insert b x y v,ty,pos,af,gd⟩ n ev hg c S g f:=by
 intro st j k l m q i e a w next Q o p
 have:=h st j k l m q i e a w next Q o p
 unfold Oper.wp at this⊢;simpa[execOp,Oper.upon]using this
def PW{y:List iS}(j:f_ P T)(B:∀c∈y,c.ok P){R:Type}{k:EV->eF->List Nat->Fr->Option R}{r:R}(h:exO T y n ev hg J k=some r):
 ∃c q l s,FS P J n ev hg c q l s/\k c q l s=some r/\∀d,J.dst=some d->d<n:=by
 obtain⟨I,z,ty,pos,af,gd⟩:=J;unfold exO at h;split at h
 ·rename_i d v
  simp only at v;subst v;obtain⟨A,i⟩:=aX h;have m:d<n:=aqk A;have C:∀u,some d=some u->u<n:=λu e=>by cases e;exact m
  have o:(∃c q l s,FS P ⟨some d,z,ty,pos,af,gd⟩ n ev hg c q l s/\k c q l s=some r)->∃c q l s,FS P ⟨some d,z,ty,pos,af,gd⟩ n ev hg c q l s/\k c q l s=some r/\∀u,some d=some u->u<n:=by
   rintro⟨c,q,l,s,a,b⟩;exact⟨c,q,l,s,a,b,C⟩
  split at i
  ·rename_i f H O g
   simp only at g;subst g;split at i
   ·rename_i L M cs E
    exact o (WW (ty:=ty) (pos:=pos) (af:=af) (gd:=gd) B (λF=>air E F) m i)
   ·cases i
  ·rename_i g;simp only at g;subst g;exact o (ve j m i)
  ·rename_i g;simp only at g;subst g;exact o (ve j m i)
  ·rename_i g
   simp only at g;subst g;rcases bD i with⟨_,i⟩|⟨_,i⟩
   ·exact o (KQ j m i)
   ·exact o (ve j m i)
  ·rename_i g;simp only at g;subst g;exact o (ve j m i)
  ·rename_i g
   simp only at g;subst g;rcases bD i with⟨_,i⟩|⟨_,i⟩
   ·exact o (K8 j m i)
   ·exact o (ve j m i)
  ·rename_i g
   simp only at g;subst g;split at i
   ·rename_i p w
    exact o (WN (ty:=ty) (pos:=pos) (af:=af) (gd:=gd) j m w i)
   ·rcases bD i with⟨_,i⟩|⟨_,i⟩
    ·exact o (WL j m i)
    ·exact o (ve j m i)
  ·rename_i g;simp only at g;subst g
   split at i
   ·rename_i p x t N w G
    exact o (WO (ty:=ty) (pos:=pos) (af:=af) (gd:=gd) j m w G i)
   ·exact o (ve j m i)
  ·rename_i g;simp only at g;subst g
   obtain⟨c,_,_,_,_,_,_,_,a,b⟩:=C9 (ty:=ty) (pos:=pos) (af:=af) (gd:=gd) j m i;exact o ⟨c,_,_,_,a,b⟩
  ·obtain⟨c,l,a,b⟩:=aih j i
   exact o ⟨c,_,l,_,FS.read a m,b⟩
 ·rename_i v
  simp only at v;subst v;split at h
  ·rename_i g;simp only at g;subst g
   obtain⟨q,l,a,b⟩:=PE (ty:=ty) (pos:=pos) (af:=af) (gd:=gd) j h;exact⟨_,_,_,_,a,b,λd e=>by cases e⟩
  ·rename_i g;simp only at g;subst g
   obtain⟨q,l,a,b⟩:=Af (ty:=ty) (pos:=pos) (af:=af) (gd:=gd) j h;exact⟨_,_,_,_,a,b,λd e=>by cases e⟩
  ·rename_i g;simp only at g;subst g
   obtain⟨q,l,a,b⟩:=Af (ty:=ty) (pos:=pos) (af:=af) (gd:=gd) j h;exact⟨_,_,_,_,FS.insert a,b,λd e=>by cases e⟩
  ·rename_i g;simp only at g;subst g
   obtain⟨q,l,a,b⟩:=Ir (ty:=ty) (pos:=pos) (af:=af) (gd:=gd) j h;exact⟨_,_,_,_,a,b,λd e=>by cases e⟩
  ·rename_i g;simp only at g;subst g
   obtain⟨q,l,a,b⟩:=PH (ty:=ty) (pos:=pos) (af:=af) (gd:=gd) j h;exact⟨_,_,_,_,a,b,λd e=>by cases e⟩
  ·cases h
end
def WX(P:Program)(gf:FuncId)(lb:Array Value)(es:List (Array Value))(Cl:World->Prop):Prop:=
 ∀(l:Nat) (J:Nat->World->Prop) (W:World),(∀j W,J j W->Cl W)->(∀j W,J j W->J j W.drew)->
  (∀j W1 x,es[j]? =some x->J j W1->YieldAt Fence.wide 0 P l x W1 λe W'=>e=.returned (.bool true)/\J (j+1) W')->
  J 0 W->CallsIn Fence.wide 0 P gf (#[.func (.yield l) #[] #[]]++lb) W λe W'=>(∃v,e=.returned v)/\J es.length W'
section
variable{P:Program}{st:St}{dm:Exit->St->Prop}
end
variable{h:Bool}{G:EV}{D:List Nat}{t:List Oper}{H:Nat->Option dR}{U:Option (Nat×Bool)}{C:St}{d:Type}
def akQ{b x y:Bool}(h:cond b x y=true):(b=true/\x=true)\/(b=false/\y=true):=by
 cases b with
 |true=>exact .inl ⟨rfl,h⟩
 |false=>exact .inr ⟨rfl,h⟩
structure cC where
 n:Nat
 t:List (Nat×EV)
 h:eF
def bg(E:cC):St:=⟨E.n,fY E.t,bs E.h⟩
def K9:Option Nat->EV->List (Nat×EV)->List (Nat×EV)
 |some d,c,t=>(d,c)::t
 |none,_,t=>t
def K_(d:Option Nat)(c:EV)(t:List (Nat×EV)):fY (K9 d c t)=jq d (enc c) (fY t):=by cases d<;>rfl
def akR(p:Nat->Bool):dR->Bool
 |.nr _ _ _ ho=>match ho with
  |some (_,some j)=> !p j
  |_=>true
 |.qr _ ho _ _=>match ho with
  |some j=> !p j
  |none=>true
 |o=>(bS o).fX p
def Dh(p:Nat->Bool)(h:eF):Bool:=h.all λq=> !p q.1 && (match q.2 with
 |some o=>akR p o
 |none=>true)
def afp{p:Nat->Bool}(h:akR p R=true):(bS R).fX p=true:=by
 cases R with
 |qr t d f e=>
  refine CI λc a=>?_;obtain⟨i,_,rfl⟩:=aqq.1 a;cases d with
  |none=>rfl
  |some j=>exact h
 |nr t r e d=>
  refine CI λc a=>?_;have b:∀c∈e.map (WE r),c.fX p=true:=λc a=>by
   obtain⟨x,_,rfl⟩:=aqq.1 a;cases x<;>rfl
  match d,h,a with
  |none,_,a=>exact b c a
  |some (i,none),_,a=>
   rcases as3 a with a|rfl
   ·exact b c a
   ·rfl
  |some (i,some j),h,a=>
   rcases as3 a with a|rfl
   ·exact b c a
   ·exact h
 |_=>exact h
def l3{p:Nat->Bool}:∀{h:eF},Dh p h=true->qA p (bs h)=true
 |[],_=>rfl
 |(k,o)::h,a=>by
  simp only[Dh,arn,aqe]at a;have b:=l3 (p:=p) (h:=h) (by simpa[Dh]using a.2);unfold qA at b⊢;simp only[bs,arn,b,atB,aqe];refine⟨a.1.1,?_⟩;cases o with
  |none=>rfl
  |some o=>exact afp a.1.2
def k5(fr:Fr)(E:cC):Bool:=match fr with
 |.no=>true
 |.one d=>Bo (Fr.one d).p (fY E.t) && Dh (Fr.one d).p E.h
 |.bJ B=>Bo (Fr.bJ B).p (fY E.t) && Dh (Fr.bJ B).p E.h
def qS.no:qS .no C:=⟨λx=>u4 _,λk ob _=>ob.u4,λk h=>by cases h⟩
def qS.of{a:Fr}(d:Bo a.p C.t=true)(c:qA a.p C.h=true):qS a C:=
 ⟨CR d,λk ob b=>CW c b,λk b=>nh (oQ c b)⟩
def WY{a:Fr}{E:cC}(h:k5 a E=true):qS a (bg E):=by
 cases a with
 |no=>exact qS.no
 |one d=>simp only[k5,aqe]at h;exact qS.of h.1 (l3 h.2)
 |bJ B=>simp only[k5,aqe]at h;exact qS.of h.1 (l3 h.2)
def Sk.enc(E:cC):Sk (cN E.t) (bg E):=λi=>.inr (cw E.t i)
def Hk.enc(E:cC)(a:List Nat):Hk (bw E.h) a (bg E):=λk _=>cV E.h k
noncomputable def akS:Nat:=Classical.choose (⟨1,rfl⟩:∃n:Nat,n=1)
def afq:akS=1:=Classical.choose_spec (⟨1,rfl⟩:∃n:Nat,n=1)
open Classical in
noncomputable def ais{R:Type}(f:Bool->Option R):Option R:=match f true,f false with
 |some a,some b=>if a=b then some a else none
 |_,_=>none
noncomputable def dem{R:Type}(f:Bool->Option R):Option R:=Nat.rec (motive:=λ_=>Option R) none (λ_ _=>ais f) akS
def ait(f:Bool->Option d):dem f=ais f:=by
 unfold dem;rw[afq];rfl
def sV{f:Bool->Option d}{r:d}:dem f=some r↔f true=some r/\f false=some r:=by
 rw[ait];unfold ais;cases c:f true with
 |none=>simp
 |some a=>
  cases g:f false with
  |none=>simp
  |some b=>
   simp only;split
   ·rename_i h;subst h;simp
   ·rename_i h
    simp only[aqg,reduceCtorEq,asZ,not_and];rintro rfl e;exact h e.symm
inductive ItT where
 |go (d:Nat) (t:TypeId) (x:Operand)
 |nx (d:Nat) (x:Operand)
 |en (d:Nat) (x:Operand)
structure ItB where
 k:Nat
 km:Nat
 n0:Int
 m:Int
 c:Int
 kc:Sc
 vc:Sc
 es:List (kc.cQ×vc.cQ)
 d:TypeDesc
structure aiu where
 d:Nat
 t:TypeId
 x:Operand
 c:EV
 r:Sc
 xs:List r.cQ
def aiv(d:Nat)(t:TypeId)(x:Operand):EV->Option aiu
 |.sc (.sl r) xs=>some ⟨d,t,x,.sc (.sl r) xs,r,xs⟩
 |.ts r xs=>some ⟨d,t,x,.ts r xs,r,xs⟩
 |.nil=>some ⟨d,t,x,.nil,.b,[]⟩
 |_=>none
def akT(o:Oper)(ev:Nat->EV):Option aiu:=match o.dst with
 |some d=>match o.op with
  |.binOp .eql t x (.const (.slice none 0 0)) _=>aiv d t x (ep ev x)
  |_=>none
 |none=>none
section
variable(T:TypeId->bj)(CT:List iS)
noncomputable def o4(o:Oper)(E:cC){R:Type}(k:cC->Option R):Option R:=
 match akT o (cN E.t)with
 |some q=>cond (Nat.blt q.d E.n && Nat.blt 0 q.r.w && (T q.t).el.isSome) (cond (oY q.xs) (dem λb=>k ⟨E.n,(q.d,.sc .b b)::E.t,E.h⟩) (k ⟨E.n,(q.d,.sc .b false)::E.t,E.h⟩)) none
 |none=>exO T CT E.n (cN E.t) (bw E.h) o λc os us fr=>cond (k5 fr E) (k ⟨E.n,K9 o.dst c E.t,os++E.h⟩) none
def Di(d:Option Nat)(E:cC):cC:=⟨E.n,K9 d (.v (.tuple ⟨[]⟩)) E.t,E.h⟩
def Ai(d:Option Nat)(n:Nat):Bool:=match d with
 |some d=>Nat.blt d n
 |none=>true
noncomputable def exG(ops:List Oper)(o:Oper)(E:cC){R:Type}(k:cC->Option R):Option R:=
 match o.guard with
 |none=>o4 T CT o E k
 |some (j,b)=>match(ops[j]?).bind (·.dst)with
  |some s=>match cN E.t s with
   |.sc .b c=>cond (Nat.blt s E.n && Ai o.dst E.n) (cond c
    (cond b (o4 T CT o ⟨E.n,(s,.sc .b true)::E.t,E.h⟩ k) (k (Di o.dst ⟨E.n,(s,.sc .b true)::E.t,E.h⟩)))
    (cond b (k (Di o.dst ⟨E.n,(s,.sc .b false)::E.t,E.h⟩)) (o4 T CT o ⟨E.n,(s,.sc .b false)::E.t,E.h⟩ k))) none
   |.v (.tuple ⟨[]⟩)=>cond (Nat.blt s E.n && Ai o.dst E.n) (k (Di o.dst E)) none
   |_=>none
  |none=>none
noncomputable def Bt(ops:List Oper):List Oper->(E:cC)->{R:Type}->(cC->Option R)->Option R
 |[],E,_,k=>k E
 |o::l,E,_,k=>exG T CT ops o E λE'=>Bt ops l E' k
structure yW where
 d:Option Nat
 c:EV
 os:eF
 us:List Nat
 fr:Fr
 sf:Option dR
def Aj(t:List (Nat×EV)):List yW->List (Nat×EV)
 |[]=>t
 |u::pl=>Aj (K9 u.d u.c t) pl
def ll(h:eF):List yW->eF
 |[]=>h
 |u::pl=>ll (u.os++h) pl
def alE(s:Option dR)(_:Nat)(ob:Ob):Prop:=∃d kc vc es a,s=some (.mp d kc vc es)/\ob=bS (.mp d kc vc (dI kc es a ((bC kc es a).getD (zeroV vc))))
def hA(u:yW):En:=⟨u.d,enc u.c,bs u.os,u.us,u.fr.p,alE u.sf⟩
def nwE(done:List yW)(k:Nat):Bool:=done.all λw=> !eK k (bs w.os)
def sfE(E:cC)(o:Oper)(us:List Nat)(done:List yW):Option dR:=match o.op with
 |.lookup _ _ _ false=>match us with
  |[k]=>cond (nwE done k) (bw E.h k) none
  |_=>none
 |_=>none
def aix(o:Oper)(os:eF)(done:List yW):Bool:=match o.op with
 |.mapEntry _ _ _=>os.all λp=>nwE done p.1
 |_=>false
def Dj(done:List yW)(i:Nat):List Edge->Option EV
 |[]=>none
 |e::es=>cond (Region.binds .any e) (match done[e.on]? with
  |some u=>match u.d with
   |some d=>cond (Nat.beq d i) (some u.c) (Dj done i es)
   |none=>Dj done i es
  |none=>Dj done i es) (Dj done i es)
def lN(l:List Oper)(i:Nat):Bool:=match l with
 |[]=>true
 |o::l=>match o.dst with
  |some d=>cond (Nat.beq d i) false (lN l i)
  |none=>lN l i
def PX(l:List Oper)(t:List (Nat×EV))(done:List yW)(es:List Edge)(i:Nat):EV:=
 match Dj done i es with
 |some c=>c
 |none=>cond (lN l i) (cN t i) (cond (Y9 l done.length i) (cN t i) .un)
def ZQ(v u:yW):Bool:=v.os.all (λp=> !eK p.1 (bs u.os) && !u.us.contains p.1) && u.os.all (λp=> !v.us.contains p.1)
def ZR(v u:yW):Bool:=match u.fr with
 |.no=>true
 |.one d=>(enc v.c).fX (Fr.one d).p && Dh (Fr.one d).p v.os
 |.bJ B=>(enc v.c).fX (Fr.bJ B).p && Dh (Fr.bJ B).p v.os
def Bu(en:Bool)(l:List Oper)(u:yW)(j:Nat):Nat->List yW->Bool
 |_,[]=>true
 |i,v::done=>(ZQ v u||dT l j i||(en && (v.os.isEmpty && v.sf.isSome))) && ZR v u && (ZR u v||dT l j i) && Bu en l u j (i+1) done
def Fx(l:List Oper)(E:cC):List Oper->List yW->{R:Type}->(cC->Option R)->Option R
 |[],done,_,k=>cond (CS l && Kw 0 l) (k ⟨E.n,Aj E.t done,ll E.h done⟩) none
 |o::rest,done,_,k=>match o.guard with
  |none=>exO T CT E.n (PX l E.t done o.after.toList) (bw (ll E.h done)) o λc os us fr=>
   cond (Bu (aix o os done) l ⟨o.dst,c,os,us,fr,sfE E o us done⟩ done.length 0 done && k5 fr E) (Fx l E rest (done++[⟨o.dst,c,os,us,fr,sfE E o us done⟩]) k) none
  |some (j,b)=>match done[j]? with
   |some v=>match v.d with
    |some s=>match v.c with
     |.sc .b c=>cond (o.after.toList.any (λe=>Nat.beq e.on j && Region.binds .any e) && Nat.blt s E.n && Ai o.dst E.n) (cond c
      (cond b (exO T CT E.n (PX l E.t (done.set j ⟨v.d,.sc .b true,v.os,v.us,v.fr,v.sf⟩) o.after.toList) (bw (ll E.h done)) o λc os us fr=>
       cond (Bu false l ⟨o.dst,c,os,us,fr,none⟩ done.length 0 done && k5 fr E) (Fx l E rest (done.set j ⟨v.d,.sc .b true,v.os,v.us,v.fr,v.sf⟩++[⟨o.dst,c,os,us,fr,none⟩]) k) none)
       (cond (Bu false l ⟨o.dst,.v (.tuple ⟨[]⟩),[],[],.no,none⟩ done.length 0 done) (Fx l E rest (done.set j ⟨v.d,.sc .b true,v.os,v.us,v.fr,v.sf⟩++[⟨o.dst,.v (.tuple ⟨[]⟩),[],[],.no,none⟩]) k) none))
      (cond b (cond (Bu false l ⟨o.dst,.v (.tuple ⟨[]⟩),[],[],.no,none⟩ done.length 0 done) (Fx l E rest (done.set j ⟨v.d,.sc .b false,v.os,v.us,v.fr,v.sf⟩++[⟨o.dst,.v (.tuple ⟨[]⟩),[],[],.no,none⟩]) k) none)
       (exO T CT E.n (PX l E.t (done.set j ⟨v.d,.sc .b false,v.os,v.us,v.fr,v.sf⟩) o.after.toList) (bw (ll E.h done)) o λc os us fr=>
        cond (Bu false l ⟨o.dst,c,os,us,fr,none⟩ done.length 0 done && k5 fr E) (Fx l E rest (done.set j ⟨v.d,.sc .b false,v.os,v.us,v.fr,v.sf⟩++[⟨o.dst,c,os,us,fr,none⟩]) k) none))) none
     |.v (.tuple ⟨[]⟩)=>cond (o.after.toList.any (λe=>Nat.beq e.on j && Region.binds .any e) && Nat.blt s E.n && Ai o.dst E.n)
      (cond (Bu false l ⟨o.dst,.v (.tuple ⟨[]⟩),[],[],.no,none⟩ done.length 0 done) (Fx l E rest (done++[⟨o.dst,.v (.tuple ⟨[]⟩),[],[],.no,none⟩]) k) none) none
     |_=>none
    |none=>none
   |none=>none
end
section
variable{P:Program}{T:TypeId->bj}{CT:List iS}
def bwI{α:Type}(xs:List α):List (Int×α):=((List.range xs.length).zip xs).reverse.map λp=>((p.1:Int),p.2)
@[reducible] def hdR:Sc:=.pr (.i .i64) (.i .i64)
def akV(q:Int×hdR.cQ):List EV:=[.sc (.i .i64) q.1,iL hdR q.2]
structure akW(P:Program)(gf:Nat):Prop where
 en:Enters P gf
 y:∀(Rd:Nat->Nat->Value->Prop) (us:List Value) (xs:List hdR.cQ),(∀b o u,GT b o u->Rd b o u)->LR (VR Rd none) [.fp [encS (.sl hdR) xs]] us->
  ∃es:List (Array Value),es.length=xs.length/\(∀(j:Nat) it x,(bwI xs)[j]? =some it->es[j]? =some x->LR (VR Rd none) (bO (akV it)) x.toList)/\WX P gf us.toArray es λW=>∀b o u,Rd b o u->W.cell? ⟨b,o,none⟩=some u
structure Place(P:Program)(T:TypeId->bj)(CT:List iS):Prop where
 t:f_ P T
 c:∀c∈CT,c.ok P
 m:P.follows .mixedOrders=true
 b:∀q∈aha,akW P q
variable(hp:Place P T CT)
include hp
omit hp in
def afs{q:aiu}(h:aiv e b i G=some q):q.d=e/\q.t=b/\q.x=i/\G≠.un/\∃f d c,enc G=.sl f d c/\(c=[]\/d=q.r.w)/\(c=[]↔q.xs=[]):=by
 unfold aiv at h;split at h
 ·cases h
  exact⟨rfl,rfl,rfl,(by intro a;cases a),_,_,_,rfl,.inr rfl,by simp⟩
 ·cases h
  exact⟨rfl,rfl,rfl,(by intro a;cases a),_,_,_,rfl,.inr rfl,by simp⟩
 ·cases h
  exact⟨rfl,rfl,rfl,(by intro a;cases a),_,_,_,rfl,.inl rfl,by simp⟩
 ·cases h
omit hp in
def PY(a:List d):oY a=true↔a=[]:=by cases a<;>simp[oY]
def Gi{E:cC}{k:cC->Option d}{r:d}(h:o4 T CT J E k=some r):SS P J (bg E) (λs=>∃o,s=bg o/\k o=some r)/\∀f,J.dst=some f->f<E.n:=by
 unfold o4 at h;split at h
 ·rename_i q g
  obtain⟨i,l⟩:=aX h;simp only[aqe]at i;obtain⟨X,op,ty,a0,V,gd⟩:=J;unfold akT at g;simp only at g;split at g
  ·rename_i f
   split at g
   ·rename_i t x t2
    obtain⟨p,u,v,G,S,R,Q,F,L,H⟩:=afs g;subst p u v;obtain⟨⟨w,y⟩,z⟩:=i;have j:q.d<E.n:=aqk w;have M:0<q.r.w:=aqk y;obtain⟨⟨et,Z,Y,ez⟩,D⟩:=arU.1 z;refine⟨?_,λW C=>by cases C;exact j⟩;have N:(bg E).ev q.x=.sl S R Q:=by rw[(Sk.enc E).is rfl G,F]
    refine SS.akI (hp.t.el _ _ D) N (L.imp id λe=>by rw[e];exact M) j λb A=>?_;rcases bD l with⟨n,m⟩|⟨n,m⟩
    ·have:=sV.1 m
     refine⟨⟨E.n,(q.d,.sc .b b)::E.t,E.h⟩,rfl,?_⟩;cases b
     ·exact this.2
     ·exact this.1
    ·have B:b=false:=by
      cases b with
      |false=>rfl
      |true=>
       have:=H.1 (A rfl);rw[(PY _).2 this]at n;cases n
     subst B;exact⟨_,rfl,m⟩
   ·cases g
  ·cases g
 ·obtain⟨c,O,U,fr,a,b,j⟩:=PW hp.t hp.c h
  obtain⟨i,l⟩:=aX b;refine⟨SS.mono (K:=λs=>s=bg ⟨E.n,K9 J.dst c E.t,O++E.h⟩) ?_ λs I=>⟨_,by rw[I];exact bX.refl,_,rfl,l⟩,j⟩;have:=a (bg E) rfl (Sk.enc E) (Hk.enc E U) (WY i);simp only[bg,K_,fu]at this⊢;exact this
omit hp in
def bX.ZS{E:cC}(b:cN E.t e=.sc .b h):bX P (bg E) (bg ⟨E.n,(e,.sc .b h)::E.t,E.h⟩):=by
 refine bX.same (λi=>?_) λk=>rfl;rw[cw,cw];simp only[cN];by_cases a:i=e
 ·rw[a,aqM,b];rfl
 ·rw[iC a];rfl
def ZT{E:cC}{k:cC->Option d}{r:d}(h:exG T CT t J E k=some r):GS P t.toArray J (bg E) (λs=>∃g,s=bg g/\k g=some r):=by
 obtain⟨i,D,G,F,v,M⟩:=J;unfold exG at h;split at h
 ·rename_i p
  simp only at p;subst p;exact GS.plain rfl (Gi hp h).1
 ·rename_i j b p
  simp only at p;subst p;split at h
  ·rename_i s I
   split at h
   ·rename_i c A
    obtain⟨l,y⟩:=aX h;simp only[aqe]at l;have q:(t.toArray[j]?).bind (·.dst)=some s:=by simpa using I
    have u:s<E.n:=aqk l.1;have B:∀a,i=some a->a<E.n:=λa e=>by
     have:=l.2;simp only[e,Ai]at this;exact aqk this
    have H:=bX.ZS (P:=P) A;have L:∀(f:Bool),c=f->b=f->o4 T CT ⟨i,D,G,F,v,some (j,b)⟩ ⟨E.n,(s,.sc .b f)::E.t,E.h⟩ k=some r->GS P t.toArray ⟨i,D,G,F,v,some (j,b)⟩ (bg E) (λs=>∃g,s=bg g/\k g=some r):=by
     intro f w x C;subst w x;exact GS.le H (GS.taken rfl q u (by simp[bg,fY,bz,enc,encS]) (Gi hp C).1)
    have K:∀(f:Bool),c=f->(f==b)=false->k (Di i ⟨E.n,(s,.sc .b f)::E.t,E.h⟩)=some r->GS P t.toArray ⟨i,D,G,F,v,some (j,b)⟩ (bg E) (λs=>∃g,s=bg g/\k g=some r):=by
     intro f w x C;subst w;refine GS.le H (GS.left (b:=b) (c:=c) rfl q u (by simp[bg,fY,bz,enc,encS]) x B ⟨_,?_,C⟩);cases i<;>rfl
    rcases bD y with⟨o,z⟩|⟨o,z⟩
    ·rcases bD z with⟨n,m⟩|⟨n,m⟩
     ·exact L true o n m
     ·exact K true o (by rw[n];rfl) m
    ·rcases bD z with⟨n,m⟩|⟨n,m⟩
     ·exact K false o (by rw[n];rfl) m
     ·exact L false o n m
   ·rename_i A
    obtain⟨l,y⟩:=aX h;simp only[aqe]at l;have q:(t.toArray[j]?).bind (·.dst)=some s:=by simpa using I
    have u:s<E.n:=aqk l.1;have B:∀a,i=some a->a<E.n:=λa e=>by
     have:=l.2;simp only[e,Ai]at this;exact aqk this
    refine GS.ahd (b:=b) rfl q u ?_ B ⟨_,?_,y⟩
    ·rw[show bz (bg E).t s=enc (cN E.t s)from cw E.t s,A];rfl
    ·cases i<;>rfl
   ·cases h
  ·cases h
def PZ{d:List Oper}:∀{l:List Oper} {E:cC} {R:Type} {k:cC->Option R} {r:R},Bt T CT d l E k=some r->AL P d.toArray l (bg E) (λs=>∃c,s=bg c/\k c=some r)
 |[],E,R,k,r,h=>AL.nil ⟨E,rfl,h⟩
 |o::l,E,R,k,r,h=>by
  simp only[Bt]at h;refine AL.cons λt j=>?_;have a:=ZT hp h;intro q g e i w next Q m n
  refine a q g e i w next Q m λf p=>n f (j f ?_)
  obtain⟨c,rfl,b⟩:=p;exact PZ b
omit hp in
def ZU(a:List yW)(t:List (Nat×EV)):fY (Aj t a)=Bp (fY t) (a.map hA):=by
 induction a generalizing t with
 |nil=>rfl
 |cons u a b=>simp only[Aj,aqz,Bp,b,K_];rfl
omit hp in
def Dl(a:List yW)(h:eF):bs (ll h a)=y7 (bs h) (a.map hA):=by
 induction a generalizing h with
 |nil=>rfl
 |cons u a b=>simp only[ll,aqz,y7,b,fu];rfl
omit hp in
def rb{done:List yW}{i:Nat}:∀{g:List Edge} {c:EV},Dj done i g=some c->∃e∈g,Region.binds .any e=true/\∃u,done[e.on]? =some u/\u.d=some i/\u.c=c
 |[],c,h=>by cases h
 |e::g,c,h=>by
  simp only[Dj]at h;rcases bD h with⟨j,h⟩|⟨j,h⟩
  ·split at h
   ·rename_i u m
    split at h
    ·rename_i d k
     rcases bD h with⟨l,h⟩|⟨_,h⟩
     ·cases h
      have:=aqj l;subst this;exact⟨e,by simp,j,u,m,k,rfl⟩
     ·obtain⟨a,b,f⟩:=rb h
      exact⟨a,by simp[b],f⟩
    ·obtain⟨a,b,f⟩:=rb h
     exact⟨a,by simp[b],f⟩
   ·obtain⟨a,b,f⟩:=rb h
    exact⟨a,by simp[b],f⟩
  ·obtain⟨a,b,f⟩:=rb h
   exact⟨a,by simp[b],f⟩
omit hp in
def o5:∀{l:List Oper} {i:Nat},lN l i=true->(l.all λo=>o.dst !=some i)=true
 |[],i,_=>rfl
 |o::l,i,h=>by
  simp only[lN]at h;simp only[arn,aqe];split at h
  ·rename_i d c
   rcases akQ h with⟨a,b⟩|⟨a,b⟩
   ·cases b
   ·refine⟨?_,o5 b⟩
    rw[c];have:d≠i:=λe=>by rw[e,aqM]at a;cases a
    simpa using this
  ·rename_i c
   exact⟨by rw[c];rfl,o5 h⟩
omit hp in
def Kn.sk{E:cC}{done:List yW}{u:En}(a:Kn t (bg E) (done.map hA) J u C):Sk (PX t E.t done J.after.toList) C:=by
 intro i;unfold PX;split
 ·rename_i c g
  obtain⟨e,j,f,v,k,h,rfl⟩:=rb g;exact .inr (a.ts e (by simpa using j) f (hA v) i (by rw[aqA,k];rfl) h)
 ·cases b:lN t i with
  |true=>exact .inr ((a.t0 i (o5 b)).trans (cw E.t i))
  |false=>
   cases d:Y9 t done.length i with
   |true=>exact .inr ((a.t1 i (by rw[aqn];exact d)).trans (cw E.t i))
   |false=>exact .inl rfl
omit hp in
def ZV{a:Nat->EV}{g:String}{f:Array Edge}{k:EV->eF->List Nat->Fr->Option d}:
 exO T CT e a H ⟨some E,.lookup b i s false,y,g,f,U⟩ k=cond (Nat.blt E e) (nY T H b (ep a i) (ep a s) false λc h=>k c [] h .no) none:=rfl
omit hp in
def ZW{a:Nat->EV}{h:String}{f:Array Edge}{k:EV->eF->List Nat->Fr->Option d}:
 exO T CT e a H ⟨some E,.mapEntry b i s,y,h,f,U⟩ k=cond (Nat.blt E e) (BM T a H b i s λc g j=>k c g j .no) none:=rfl
omit hp in
def Kn.hk{l:List Oper}{E:cC}{done:List yW}{o:Oper}{u:yW}{b:St}(hk:Kn l (bg E) (done.map hA) o (hA u) b)(e:u.sf=none):Hk (bw (ll E.h done)) u.us b:=by
 intro k c;rcases hk.h k c with h|⟨ob,_,d,g,i,f,a,h,_⟩
 ·rw[h,<-cV,Dl];rfl
 ·rw[e]at h;cases h
omit hp in
def P0{k:Nat}:∀{done:List yW} {h:eF},nwE done k=true->bw (ll h done) k=bw h k
 |[],_,_=>rfl
 |u::done,h,c=>by
  simp only[nwE,arn,aqe,arq]at c;rw[ll,P0 (done:=done) (by simpa[nwE]using c.2)];have:∀a:eF,eK k (bs a)=false->bw (a++h) k=bw h k:=by
   intro a
   induction a with
   |nil=>intro _;rfl
   |cons p a f=>
    obtain⟨i,o⟩:=p;intro b;simp only[eK,bs,ar5,ash]at b;have d:¬k=i:=λe=>by have:=b.1;simp[e]at this
    simp only[arw,bw,iC d,aqi];exact f b.2
  exact this _ c.1
omit hp in
def R5{v u:yW}(h:ZR v u=true):(hA v).c.fX (hA u).fr=true/\qA (hA u).fr (hA v).os=true:=by
 obtain⟨d,c,b,e,a⟩:=u;cases a with
 |no=>exact⟨u4 _,RH _⟩
 |one d=>simp only[ZR,aqe]at h;exact⟨h.1,l3 h.2⟩
 |bJ B=>simp only[ZR,aqe]at h;exact⟨h.1,l3 h.2⟩
omit hp in
def R6{E:cC}{t:Bool}{l:List Oper}{u:yW}{j:Nat}(y:t=true->∃k d b m c a,u.os=[(k,some (.mp d b m (dI b c a ((bC b c a).getD (zeroV m)))))]/\bw E.h k=some (.mp d b m c)):∀{i:Nat} {done:List yW},(∀v∈done,∀o,v.sf=some o->∀k∈v.us,bw E.h k=some o)->Bu t l u j i done=true->aeY l (hA u) j i (done.map hA)
 |i,[],_,_=>trivial
 |i,v::done,A,h=>by
  simp only[Bu,aqe,ara]at h;obtain⟨⟨⟨G,H⟩,I⟩,J⟩:=h;refine⟨?_,⟨R5 H,I.imp R5 id⟩,R6 y (λw O=>A w (ari _ O)) J⟩;rcases G with(h|h)|⟨h,K,L⟩
  ·refine .inl ?_
   simp only[ZQ,aqe]at h;have C:∀(g:eF) (q:Nat->Bool),g.all (λp=>q p.1)=(bs g).all (λp=>q p.1):=by
    intro g q
    induction g with
    |nil=>rfl
    |cons p g Q=>obtain⟨k,o⟩:=p;simp only[bs,arn,Q]
   refine⟨by rw[show(hA v).os=bs v.os from rfl,<-C v.os (λk=> !eK k (hA u).os && !(hA u).us.contains k)];exact h.1,λk f e=>?_⟩;have x:=h.2;rw[C u.os (λk=> !v.us.contains k)]at x;obtain⟨p,N,n⟩:=arW.1 f;have n:p.1=k:=by simpa using n
   have:=aqD.1 x p N;rw[n]at this;have e:v.us.contains k=true:=e;rw[e]at this;cases this
  ·exact .inr h
  ·refine .inl ⟨?_,λk f e=>?_⟩
   ·have:v.os=[]:=by simpa using K
    rw[show(hA v).os=bs v.os from rfl,this];rfl
   ·obtain⟨B,d,b,m,c,a,r,D⟩:=y h
    obtain⟨o,z⟩:=arU.1 L;have F:k=B:=by
     rw[show(hA u).os=bs u.os from rfl,r]at f;simp only[eK,bs,ar5,List.any_nil,Bool.or_false]at f;exact(by simpa using f:B=k).symm
    subst F;have M:v.us.contains k=true:=e;have s:=A v (by simp) o z k (by simpa using M);rw[D]at s;cases s;refine⟨_,?_,d,b,m,c,a,z,rfl⟩;rw[show(hA u).os=bs u.os from rfl,r];simp only[bs,bc];rfl
omit hp in
def PD.snoc{done:List En}{u:En}(e:PD P t C done)(g:t[done.length]? =some J)(k:J.dst=u.d)(n:DS P t C done J u)(l:aeY t u done.length 0 done)(m:Bo u.fr C.t=true/\qA u.fr C.h=true):PD P t C (done++[u]):=by
 have p:done.length<t.length:=(aqh.1 g).1;refine⟨by simp;omega,λj o c h a=>?_,λi j v c f d a=>?_,λj c a=>?_⟩
 ·rcases arV j done.length with b|b|b
  ·rw[aq2 b]at a
   rw[avd (by omega)];exact e.step j o c h a
  ·subst b
   simp at a;subst a;obtain rfl:=aql (g.symm.trans h);refine⟨k,?_⟩;rw[as6];exact n
  ·rw[aq1 (by simp;omega)]at a;cases a
 ·rcases arV j done.length with b|b|b
  ·rw[aq2 b]at a
   rw[aq2 (by omega)]at d;exact e.fit i j v c f d a
  ·subst b
   simp at a;subst a;rw[aq2 f]at d;have:=Kv l i v d;rwa[aqN]at this
  ·rw[aq1 (by simp;omega)]at a;cases a
 ·rcases arV j done.length with b|b|b
  ·rw[aq2 b]at a;exact e.WB j c a
  ·subst b
   simp at a;subst a;exact m
  ·rw[aq1 (by simp;omega)]at a;cases a
omit hp in
def P1{a:Fr}{E:cC}(h:k5 a E=true):Bo a.p (bg E).t=true/\qA a.p (bg E).h=true:=by
 cases a with
 |no=>exact⟨aeZ _,RH _⟩
 |one d=>simp only[k5,aqe]at h;exact⟨h.1,l3 h.2⟩
 |bJ B=>simp only[k5,aqe]at h;exact⟨h.1,l3 h.2⟩
omit hp in
def FS.ds{E:cC}{done:List yW}{b:Fr}{st:St}(h:FS P J E.n (PX t E.t done J.after.toList) (bw (ll E.h done)) G S D b){c:Option dR}(d:c=none)(a:Kn t (bg E) (done.map hA) J (hA ⟨J.dst,G,S,D,b,c⟩) st):
 SS P J st (λs=>s=⟨st.n,jq J.dst (enc G) st.t,bs S++st.h⟩):=
 h st a.n a.sk (Kn.hk a d) ⟨a.ft,a.fh,a.fk⟩
def ZX{l:List Oper}{E:cC}:∀{W:List Oper} {done:List yW} {R:Type} {k:cC->Option R} {r:R},Fx T CT l E W done k=some r->W=l.drop done.length->PD P l (bg E) (done.map hA)->(∀v∈done,∀o,v.sf=some o->∀k∈v.us,bw E.h k=some o)->
 ∃m,CU P l (bg E) (m.map hA)/\k ⟨E.n,Aj E.t m,ll E.h m⟩=some r
 |[],done,R,k,r,h,hr,A,a9=>by
  simp only[Fx]at h;obtain⟨g,p⟩:=aX h;simp only[aqe]at g;have ak:(done.map hA).length=l.length:=by
   have g:=A.len;have p:=aqr List.length hr;simp at g p⊢;omega
  exact⟨done,⟨ak,A.step,A.fit,A.WB,g.1,λj o ho e Q ae=>by have:=y_ g.2 j o ho e Q ae;omega⟩,p⟩
 |o::W,done,R,k,r,h,hr,A,a9=>by
  have ho:l[done.length]? =some o:=by
   have:=aqr (λx=>x[0]?) hr;simpa using this.symm
  have al:W=l.drop (done.length+1):=by
   have:l.drop (done.length+1)=(l.drop done.length).drop 1:=by rw[asl]
   rw[this,<-hr];rfl
  have X:∀(u:yW) (en:Bool),o.dst=u.d->(en=true->∃k d B H J a,u.os=[(k,some (.mp d B H (dI B J a ((bC B J a).getD (zeroV H)))))]/\bw E.h k=some (.mp d B H J))->(∀o,u.sf=some o->∀k∈u.us,bw E.h k=some o)->DS P l (bg E) (done.map hA) o (hA u)->Bu en l u done.length 0 done=true->k5 u.fr E=true->∀{R:Type} {k:cC->Option R} {r:R},Fx T CT l E W (done++[u]) k=some r->∃m,CU P l (bg E) (m.map hA)/\k ⟨E.n,Aj E.t m,ll E.h m⟩=some r:=by
   intro u en hd hE am ag ah ai R k r f;refine ZX f (by rw[aqy];exact al) ?_ (λv q=>by
    rcases aqp.1 q with q|q
    ·exact a9 v q
    ·rw[aqB.1 q];exact am)
   rw[aq4];have hl:(done.map hA).length=done.length:=aqn _;exact A.snoc (by rw[hl];exact ho) hd ag (by rw[hl];exact R6 hE a9 ah) (P1 ai)
  simp only[Fx]at h;split at h
  ·rename_i U
   have aa:∀n o',sfE E o n done=some o'->∀k∈n,bw E.h k=some o':=λn o' z k f=>by
    unfold sfE at z;split at z
    ·split at z
     ·rename_i k'
      obtain rfl:=aqB.1 f;exact(aX z).2
     ·cases z
    ·cases z
   by_cases hl:∃t x y,o.op=.lookup t x y false
   ·obtain⟨t,x,y,G⟩:=hl
    obtain⟨K,op,ty,a3,Z,gd⟩:=o;simp only at G;subst G;cases K with
    |none=>cases h
    |some d=>
    rw[ZV]at h;obtain⟨O,h⟩:=aX h;obtain⟨j,dd,B,H,J,a,F,aj,b,c⟩:=Ik hp.t h;obtain⟨g,p⟩:=aX b;simp only[aqe]at g;refine X ⟨some d,_,[],[j],.no,_⟩ _ rfl (λe=>by cases e) (aa [j]) (λw f=>GS.plain U ?_) g.1 g.2 p;have D:d<w.n:=by rw[f.n];exact aqk O
    have Q:∃a4,(bC B a4 a).getD (zeroV H)=(bC B J a).getD (zeroV H)/\aY w.h j=some (bS (.mp dd B H a4)):=by
     rcases f.h j (by simp[hA])with e|⟨ob,C,d2,ao,ap,an,a2,I,e3⟩
     ·refine⟨J,rfl,?_⟩
      rw[e,show(bg E).h=bs E.h from rfl,<-Dl,cV,F];rfl
     ·simp only[sfE]at I
      obtain⟨n1,n2⟩:=aX I;rw[P0 n1,n2]at F;cases F;exact⟨_,Pp aj _ _ _ _,by rw[C,e3]⟩
    obtain⟨a4,C,I⟩:=Q;exact SS.read (c w a4 (some d) ty a3 Z gd f.sk C I) D rfl
   have V:∀n,sfE E o n done=none:=λn=>by
    unfold sfE;split
    ·rename_i t x y G;exact absurd ⟨t,x,y,G⟩ hl
    ·rfl
   by_cases hm:∃t x y,o.op=.mapEntry t x y
   ·obtain⟨t,x,y,G⟩:=hm
    obtain⟨K,op,ty,a3,Z,gd⟩:=o;simp only at G;subst G;cases K with
    |none=>cases h
    |some d=>
    rw[ZW]at h;obtain⟨O,h⟩:=aX h;obtain⟨c,j,dd,B,H,J,a,F,fs,b⟩:=C9 (ty:=ty) (pos:=a3) (af:=Z) (gd:=gd) hp.t (aqk O) h;obtain⟨g,p⟩:=aX b;simp only[aqe]at g;refine X ⟨some d,_,_,[j],.no,_⟩ _ rfl (λe=>⟨j,dd,B,H,J,a,rfl,?_⟩) (aa [j]) (λw f=>GS.plain U (fs.ds (V [j]) f)) g.1 g.2 p;simp only[aix,arn,List.all_nil,atB]at e;rw[<-P0 e];exact F
   obtain⟨c,Y,n,L,a,b,hd⟩:=PW hp.t hp.c h;obtain⟨g,p⟩:=aX b;simp only[aqe]at g;refine X ⟨o.dst,c,Y,n,L,_⟩ _ rfl (λe=>?_) (aa n) (λw f=>GS.plain U (a.ds (V n) f)) g.1 g.2 p;unfold aix at e;split at e
   ·rename_i t x y G;exact absurd ⟨t,x,y,G⟩ hm
   ·cases e
  ·rename_i j b U
   split at h
   ·rename_i v q
    split at h
    ·rename_i s z
     split at h
     ·rename_i c hc
      obtain⟨g,p⟩:=aX h;simp only[aqe]at g;obtain⟨⟨q1,q2⟩,q3⟩:=g;have V:s<E.n:=aqk q2;have O:∀d,o.dst=some d->d<E.n:=λd e=>by
       simp only[e,Ai]at q3;exact aqk q3
      obtain⟨e,Q,S⟩:=arW.1 q1;simp only[aqe]at S;have a7:=aqj S.1;have ab:∀i,c=i->done.set j ⟨v.d,.sc .b i,v.os,v.us,v.fr,v.sf⟩=done:=λi e=>by
       subst e;rw[<-hc];obtain⟨F,rfl⟩:=aqh.1 q;exact asd F
      have a5:(l.toArray[j]?).bind (·.dst)=some s:=by
       have F:=(aqh.1 q).1;have a8:=A.len;rw[aqn]at a8;have a1:l[j]? =some l[j]:=aqm (by omega);have:=(A.step j _ (hA v) a1 (by rw[aqA,q];rfl)).1;simp only[arJ,a1,auB,this];exact z
      have a6:∀{u:En} {w:St},Kn l (bg E) (done.map hA) o u w->bz w.t s=.v (.bool c):=λf=>by
       have:=f.ts e (by simpa using Q) S.2 (hA v) s (by rw[aqA,a7,q];rfl) z;rw[this];show enc v.c=_;rw[hc];rfl
      have ad:∀i,c=i->b=i->(exO T CT E.n (PX l E.t (done.set j ⟨v.d,.sc .b i,v.os,v.us,v.fr,v.sf⟩) o.after.toList) (bw (ll E.h done)) o λc Y n L=>
       cond (Bu false l ⟨o.dst,c,Y,n,L,none⟩ done.length 0 done && k5 L E) (Fx T CT l E W (done.set j ⟨v.d,.sc .b i,v.os,v.us,v.fr,v.sf⟩++[⟨o.dst,c,Y,n,L,none⟩]) k) none)=some r->∃m,CU P l (bg E) (m.map hA)/\k ⟨E.n,Aj E.t m,ll E.h m⟩=some r:=by
       intro i C I hh;rw[ab i C]at hh;obtain⟨c2,Y,n,L,a,bb,hd⟩:=PW hp.t hp.c hh;obtain⟨M,g2⟩:=aX bb;simp only[aqe]at M;exact X ⟨o.dst,c2,Y,n,L,none⟩ false rfl (λe=>by cases e) (λ_ e=>by cases e) (λw f=>GS.taken U a5 (by rw[f.n];exact V) (by rw[I,<-C];exact a6 f) (a.ds rfl f)) M.1 M.2 g2
      have ac:∀i,c=i->(i==b)=false->(cond (Bu false l ⟨o.dst,.v (.tuple ⟨[]⟩),[],[],.no,none⟩ done.length 0 done) (Fx T CT l E W (done.set j ⟨v.d,.sc .b i,v.os,v.us,v.fr,v.sf⟩++[⟨o.dst,.v (.tuple ⟨[]⟩),[],[],.no,none⟩]) k) none)=some r->∃m,CU P l (bg E) (m.map hA)/\k ⟨E.n,Aj E.t m,ll E.h m⟩=some r:=by
       intro i C I hh;rw[ab i C]at hh;obtain⟨M,g2⟩:=aX hh;refine X ⟨o.dst,.v (.tuple ⟨[]⟩),[],[],.no,none⟩ false rfl (λe=>by cases e) (λ_ e=>by cases e) (λw f=>?_) M rfl g2;obtain⟨K,op,ty,a3,Z,gd⟩:=o;refine GS.left (b:=b) (c:=c) U a5 (by rw[f.n];exact V) (a6 f) (by rw[C];exact I) (λd e=>by rw[f.n];exact O d e) ?_;cases K<;>rfl
      rcases bD p with⟨a0,h3⟩|⟨a0,h3⟩
      ·rcases bD h3 with⟨D,N⟩|⟨D,N⟩
       ·exact ad true a0 D N
       ·exact ac true a0 (by rw[D];rfl) N
      ·rcases bD h3 with⟨D,N⟩|⟨D,N⟩
       ·exact ac false a0 (by rw[D];rfl) N
       ·exact ad false a0 D N
     ·rename_i hc
      obtain⟨g,p⟩:=aX h;simp only[aqe]at g;obtain⟨⟨q1,q2⟩,q3⟩:=g;obtain⟨M,g2⟩:=aX p;have V:s<E.n:=aqk q2;have O:∀d,o.dst=some d->d<E.n:=λd e=>by
       simp only[e,Ai]at q3;exact aqk q3
      obtain⟨e,Q,S⟩:=arW.1 q1;simp only[aqe]at S;have a7:=aqj S.1;have a5:(l.toArray[j]?).bind (·.dst)=some s:=by
       have F:=(aqh.1 q).1;have a8:=A.len;rw[aqn]at a8;have a1:l[j]? =some l[j]:=aqm (by omega);have:=(A.step j _ (hA v) a1 (by rw[aqA,q];rfl)).1;simp only[arJ,a1,auB,this];exact z
      refine X ⟨o.dst,.v (.tuple ⟨[]⟩),[],[],.no,none⟩ false rfl (λe=>by cases e) (λ_ e=>by cases e) (λw f=>?_) M rfl g2;have a6:bz w.t s=.v undef:=by
       have:=f.ts e (by simpa using Q) S.2 (hA v) s (by rw[aqA,a7,q];rfl) z;rw[this];show enc v.c=_;rw[hc];rfl
      obtain⟨K,op,ty,a3,Z,gd⟩:=o;refine GS.ahd (b:=b) U a5 (by rw[f.n];exact V) a6 (λd e=>by rw[f.n];exact O d e) ?_;cases K<;>rfl
     ·cases h
    ·cases h
   ·cases h
def P2{t:Bool}{l:List Oper}{E:cC}{k:cC->Option d}{r:d}{id:Nat}(h:Fx T CT l E l [] k=some r):AC t P (.region id l.toArray true) (bg E) (λx s=>x=.normal/\∃c,s=bg c/\k c=some r):=by
 obtain⟨g,e,f⟩:=ZX hp h rfl ⟨by simp,λj o u _ a=>by simp at a,λi j v u _ b=>by simp at b,λj u a=>by simp at a⟩ (λv b=>by cases b);refine AC.an2 hp.m e ⟨rfl,_,?_,f⟩;simp only[bg,ZU,Dl]
def P3{t:Bool}{l:List Oper}{E:cC}{k:cC->Option d}{r:d}{id:Nat}(h:Bt T CT l l E k=some r):AC t P (.region id l.toArray false) (bg E) (λx s=>x=.normal/\∃b,s=bg b/\k b=some r):=by
 refine AC.region ?_;have:=PZ hp h;intro m c e a w Q f g;exact this m c e a w Q f λj i=>g j ⟨rfl,i⟩
end
variable{o:cC}{k:List AV}
section
variable{P:Program}
def bX.wk{t y:List (Nat×AV)}{h q:Hp}(H:∀i,Wk (bz t i) (bz y i))(g:∀k n,aY q k=some n->∃ob,aY h k=some ob/\∀Rd c w,OR Rd c w k ob->OR Rd c w k n):bX P ⟨e,t,h⟩ ⟨e,y,q⟩:=by
 intro z s c a w d;have v:∀b o u,bF z s c h w b o u->bF z s c q w b o u:=λb o u r=>⟨r.1,r.2.1,λj ob l G=>by
  obtain⟨m,f,_⟩:=g j ob l;exact r.2.2 j m f G⟩
 refine⟨c,d.n,d.d,⟨d.sr.ext,d.sr.jG,λj ob l=>?_,λj ob b l F=>?_,λj x ob n b p E A B=>?_,d.sr.tV⟩,λi=>H i _ _ _ ((d.tr i).mono v)⟩
 ·obtain⟨m,f,p⟩:=g j ob l
  exact(p _ _ _ (d.sr.ob j m f)).mono v
 ·obtain⟨m,f,_⟩:=g j ob l
  exact d.sr.base j m b f F
 ·obtain⟨I,C,_⟩:=g j ob p
  obtain⟨J,D,_⟩:=g x n E;exact d.sr.inj j x I J b C D A B
def R7{Rd:Nat->Nat->Value->Prop}(h:VR Rd M (.sl true e []) u):∃a,u=.slice a 0 0:=by
 obtain⟨a,d,f,b,_,_,_,_,_,c,_⟩:=h.lS;have:=c rfl;simp only[aq5]at this b;subst this;exact⟨a,b⟩
variable{st:St}
def bX.akX(i j b:Nat)(H:b<4294967296)(t:TypeId)(l:Nat)(f:bz st.t i=.ag k)(G:k[j]? =some (.sl true e [])):
 bX P st ⟨st.n,(i,.ag ((k.map (AV.kill b)).set j (.ow b)))::cP b st.t,(b,some (.arr t l [] true))::bh b st.h⟩:=by
 intro B r d a w h;have A:=h.tr i;rw[f]at A;obtain⟨n,N,p⟩:=VR.eS A;obtain⟨u,M,O⟩:=p.get G;obtain⟨g,rfl⟩:=R7 O;obtain⟨K,v⟩:=h.sr.kill b;obtain⟨L,y⟩:=K.CE b t l g (dQ b st.h) H;refine⟨_,h.n,h.d,L,λq=>?_⟩;simp only[bz];split
 ·rename_i J
  subst J;rw[N];have C:LR (VR (bF B r (d.cz b none (.slice g 0 0) 0) ((b,some (.arr t l [] true))::bh b st.h) w) (some (d.cz b none (.slice g 0 0) 0))) (k.map (AV.kill b)) n:=
   ⟨by simpa using p.1,λm c x z Q=>by
    rw[aqA]at z;obtain⟨s,E,rfl⟩:=aqL.1 z;exact((((p.2 m s x E Q).kill b).mono v).mono y).env rfl b (jT b s) (λ_ f=>Env.br f) (λ_ f=>Env.cW f)⟩
  have o:=C.set j (c:=.ow b) (u:=.slice g 0 0) (by
   have:=VR.ow (Rd:=bF B r (d.cz b none (.slice g 0 0) 0) ((b,some (.arr t l [] true))::bh b st.h) w) (e:=d.cz b none (.slice g 0 0) 0) (k:=b);rw[Env.dz]at this;exact this)
  have D:n.set j (.slice g 0 0)=n:=by
   obtain⟨I,F⟩:=aqh.1 M;rw[<-F];exact asd I
  rw[D]at o;exact .ag n o.1 o.2
 ·exact((((h.tr.kill b).mono v).mono y).env b (dE b st.t) (λ_ f=>Env.br f) (λ_ f=>Env.cW f)) q
def bX.akY(f j d:Nat)(M:d<4294967296)(t:TypeId)(n:Nat)(B:aY st.h f=some (.box b k))(L:k[j]? =some (.sl true e []))(q:f≠d):
 bX P st ⟨st.n,cP d st.t,(f,some (.box b ((k.map (AV.kill d)).set j (.ow d))))::(d,some (.arr t n [] true))::bh d st.h⟩:=by
 intro D s g a w l;obtain⟨O,E,p,I,V,r⟩:=l.sr.ob _ _ B;obtain⟨u,U,W⟩:=r.get L;obtain⟨h,rfl⟩:=R7 W;obtain⟨Q,z⟩:=l.sr.kill d;obtain⟨R,A⟩:=Q.CE d t n h (dQ d st.h) M;have F:LR (VR (bF D s (g.cz d none (.slice h 0 0) 0) ((d,some (.arr t n [] true))::bh d st.h) w) (some (g.cz d none (.slice h 0 0) 0))) (k.map (AV.kill d)) p:=
  ⟨by simpa using r.1,λm c x C X=>by
   rw[aqA]at C;obtain⟨v,J,rfl⟩:=aqL.1 C;exact((((r.2 m v x J X).kill d).mono z).mono A).env rfl d (jT d v) (λ_ i=>Env.br i) (λ_ i=>Env.cW i)⟩
 have y:=F.set j (c:=.ow d) (u:=.slice h 0 0) (by
  have:=VR.ow (Rd:=bF D s (g.cz d none (.slice h 0 0) 0) ((d,some (.arr t n [] true))::bh d st.h) w) (e:=g.cz d none (.slice h 0 0) 0) (k:=d);rw[Env.dz]at this;exact this)
 have G:p.set j (.slice h 0 0)=p:=by
  obtain⟨N,K⟩:=aqh.1 U;rw[<-K];exact asd N
 rw[G]at y;obtain⟨S,H⟩:=R.PI (b:=f) (o:=(Ob.kill d (.box b k))) (o':=.box b ((k.map (AV.kill d)).set j (.ow d))) (by rw[a_ q,da,B];rfl)
  ⟨by rw[Env.jS q];exact O,E,p,by rw[Env.br q];exact I,V,y⟩
 exact⟨_,l.n,l.d,S,(((l.tr.kill d).mono z).mono A).env d (dE d st.t) (λ_ i=>Env.br i) (λ_ i=>Env.cW i)|>.mono H⟩
def bX.aiy(h i f p:Nat)(S:p<4294967296)(U:p≠f)(r:h≠p)(K:h≠f){wr:Bool}(C:aY st.h h=some (.box b k))(N:k[i]? =some (.ow f))(O:aY st.h f=some (.arr y e j wr)):
 bX P st ⟨st.n,cP p st.t,(h,some (.box b ((k.map (AV.kill p)).set i (.ow p))))::(p,some (.arr y e j wr))::(f,none)::bh p st.h⟩:=by
 intro E t g a w n;obtain⟨R,F,q,J,Z,s⟩:=n.sr.ob _ _ C;obtain⟨u,Y,a0⟩:=s.get N;cases a0;obtain⟨V,A⟩:=n.sr.kill p;obtain⟨W,B⟩:=V.H5 (k:=f) (d:=p) (ob:=.arr y e j wr) (by rw[da,O];rfl) U (dQ p st.h) S;have G:LR (VR (bF E t (g.cz p (g.bJ f) (g.sv f) (g.cA f)) ((p,some (.arr y e j wr))::(f,none)::bh p st.h) w) (some (g.cz p (g.bJ f) (g.sv f) (g.cA f)))) (k.map (AV.kill p)) q:=
  ⟨by simpa using s.1,λm c x D hx=>by
   rw[aqA]at D;obtain⟨v,L,rfl⟩:=aqL.1 D;exact((((s.2 m v x L hx).kill p).mono A).mono B).env rfl p (jT p v) (λ_ l=>Env.br l) (λ_ l=>Env.cW l)⟩
 have z:=G.set i (c:=.ow p) (u:=g.sv f) (by
  have:=VR.ow (Rd:=bF E t (g.cz p (g.bJ f) (g.sv f) (g.cA f)) ((p,some (.arr y e j wr))::(f,none)::bh p st.h) w) (e:=g.cz p (g.bJ f) (g.sv f) (g.cA f)) (k:=p);rw[Env.dz]at this;exact this)
 have H:q.set i (g.sv f)=q:=by
  obtain⟨Q,M⟩:=aqh.1 Y;rw[<-M];exact asd Q
 rw[H]at z;obtain⟨X,I⟩:=W.PI (b:=h) (o:=(Ob.kill p (.box b k))) (o':=.box b ((k.map (AV.kill p)).set i (.ow p))) (by rw[a_ r,a_ K,da,C];rfl)
  ⟨by rw[Env.jS r];exact R,F,q,by rw[Env.br r];exact J,Z,z⟩
 exact⟨_,n.n,n.d,X,(((n.tr.kill p).mono A).mono B).env p (dE p st.t) (λ_ l=>Env.br l) (λ_ l=>Env.cW l)|>.mono I⟩
def bX.aiz(i k p:Nat)(r:p<4294967296)(s:p≠k){wr:Bool}(g:bz st.t i=.ow k)(o:aY st.h k=some (.arr b e j wr)):
 bX P st ⟨st.n,(i,.ow p)::cP p st.t,(p,some (.arr b e j wr))::(k,none)::bh p st.h⟩:=by
 intro y l c a w f;have h:=f.tr i;rw[g]at h;obtain⟨v,m⟩:=f.sr.kill p;obtain⟨x,n⟩:=v.H5 (k:=k) (d:=p) (ob:=.arr b e j wr) (by rw[da,o];rfl) s (dQ p st.h) r;refine⟨_,f.n,f.d,x,λq=>?_⟩;simp only[bz];split
 ·rename_i t
  subst t;generalize a.tmps.getD q undef=u at h;cases h;have:=VR.ow (Rd:=bF y l (c.cz p (c.bJ k) (c.sv k) (c.cA k)) ((p,some (.arr b e j wr))::(k,none)::bh p st.h) w) (e:=c.cz p (c.bJ k) (c.sv k) (c.cA k)) (k:=p);rw[Env.dz]at this;exact this
 ·exact((((f.tr.kill p).mono m).mono n).env p (dE p st.t) (λ_ g=>Env.br g) (λ_ g=>Env.cW g)) q
def bX.aiA(i d:Nat){wr:Bool}(B:bz st.t i=.ag k)(C:k[d]? =some (.ow e))(D:aY st.h e=some (.arr b E j wr)):
 bX P st ⟨st.n,(i,.ag (k.set d (.sl false E j)))::st.t,(e,some (.arr b E j false))::st.h⟩:=by
 intro v o f a w n;obtain⟨g,x,p,r,s,y⟩:=n.sr.O9 D;have h:=n.cA (⟨x,p,r,s⟩:m_ v o f st.h w g ((e,some (.arr b E j false))::st.h));refine⟨g,h.n,h.d,h.sr,λq=>?_⟩;simp only[bz];split
 ·rename_i H
  subst H;have l:=n.tr q;rw[B]at l;obtain⟨m,J,t⟩:=VR.eS l;rw[J];obtain⟨u,I,K⟩:=t.get C;cases K;have G:LR (VR (bF v o g ((e,some (.arr b E j false))::st.h) w) (some g)) k m:=t.imp λ_ _ l=>(l.mono p).ic rfl r s;have:=G.set d (c:=.sl false E j) (u:=f.sv e) y.cJ;have z:m.set d (f.sv e)=m:=by
   obtain⟨F,A⟩:=aqh.1 I;rw[<-A];exact asd F
  rw[z]at this;exact .ag m this.1 this.2
 ·exact h.tr q
def bX.aiB(f d:Nat){wr:Bool}(l:aY st.h f=some (.box y k))(H:k[d]? =some (.ow e))(q:aY st.h e=some (.arr b E j wr)):
 bX P st ⟨st.n,st.t,(f,some (.box y (k.set d (.sl false E j))))::(e,some (.arr b E j false))::st.h⟩:=by
 intro O s g a w p;have F:f≠e:=λg=>by rw[g,q]at l;cases l
 obtain⟨i,v,x,z,n,A⟩:=p.sr.O9 q;have h:=p.cA (⟨v,x,z,n⟩:m_ O s g st.h w i ((e,some (.arr b E j false))::st.h));have o:aY ((e,some (Ob.arr b E j false))::st.h) f=some (.box y k):=by rw[a_ F];exact l
 obtain⟨J,t,m,D,M,r⟩:=h.sr.ob _ _ o;obtain⟨u,L,N⟩:=r.get H;cases N;have:=r.set d (c:=.sl false E j) (u:=i.sv e) (by rw[n];exact A.cJ);have B:m.set d (i.sv e)=m:=by
  obtain⟨I,G⟩:=aqh.1 L;rw[<-G];exact asd I
 rw[B]at this;obtain⟨K,C⟩:=h.sr.PI o (o':=.box y (k.set d (.sl false E j))) ⟨J,t,m,D,M,this⟩;exact⟨i,h.n,h.d,K,h.tr.mono C⟩
def bX.akZ(g j d:Nat)(U:d<4294967296)(t:TypeId)(l:Nat)(E:aY st.h g=some (.nr b k))(G:k[j]? =some (.sl true e []))(p:g≠d):
 bX P st ⟨st.n,cP d st.t,(g,some (.nr b ((k.map (AV.kill d)).set j (.ow d))))::(d,some (.arr t l [] true))::bh d st.h⟩:=by
 intro y r f a w n;obtain⟨W,a1⟩:=n.sr.ob _ _ E;have S:j<k.length:=(aqh.1 G).1;rcases a1 with⟨Y,_⟩|⟨H,I,o,M,a5,N,X,Q,O,v⟩
 ·subst Y;simp at S
 obtain⟨u,a7,a8⟩:=v.get G;obtain⟨h,a9,aa,D,_,_,_,_,_,a6,_⟩:=a8.lS;have q:=a6 rfl;simp only[aq5]at q D;subst q;subst D;obtain⟨a2,B⟩:=n.sr.kill d;obtain⟨a3,C⟩:=a2.CE d t l h (dQ d st.h) U;have J:LR (VR (bF y r (f.cz d none (.slice h 0 0) 0) ((d,some (.arr t l [] true))::bh d st.h) w) (some (f.cz d none (.slice h 0 0) 0))) (k.map (AV.kill d)) (o.toList.take k.length):=
  ⟨by simpa using v.1,λm c x F hx=>by
   rw[aqA]at F;obtain⟨z,q,rfl⟩:=aqL.1 F;exact((((v.2 m z x q hx).kill d).mono B).mono C).env rfl d (jT d z) (λ_ i=>Env.br i) (λ_ i=>Env.cW i)⟩
 have A:=J.set j (c:=.ow d) (u:=.slice h 0 0) (by
  have:=VR.ow (Rd:=bF y r (f.cz d none (.slice h 0 0) 0) ((d,some (.arr t l [] true))::bh d st.h) w) (e:=f.cz d none (.slice h 0 0) 0) (k:=d);rw[Env.dz]at this;exact this)
 have K:(o.toList.take k.length).set j (.slice h 0 0)=o.toList.take k.length:=by
  obtain⟨V,R⟩:=aqh.1 a7;rw[<-R];exact asd V
 rw[K]at A;have s:((k.map (AV.kill d)).set j (.ow d)).length=k.length:=by simp
 have a0:aY ((d,some (Ob.arr t l [] true))::bh d st.h) g=some (Ob.kill d (.nr b k)):=by rw[a_ p,da,E];rfl
 have Z:OR (bF y r (f.cz d none (.slice h 0 0) 0) ((d,some (.arr t l [] true))::bh d st.h) w) (f.cz d none (.slice h 0 0) 0) w g (.nr b ((k.map (AV.kill d)).set j (.ow d))):=
  ⟨by rw[Env.jS p];exact W,.inr ⟨H,I,o,by rw[Env.br p];exact M,by rw[Env.cW p,s];exact a5,by rw[s];exact N,X,Q,O,by rw[s];exact A⟩⟩
 obtain⟨a4,L⟩:=a3.PI a0 Z;exact⟨_,n.n,n.d,a4,(((n.tr.kill d).mono B).mono C).env d (dE d st.t) (λ_ i=>Env.br i) (λ_ i=>Env.cW i)|>.mono L⟩
def bX.aiC(f d:Nat){k:Nat}{wr:Bool}{h:List AV}(n:aY st.h f=some (.nr y h))(s:h[d]? =some (.ow k))(t:aY st.h k=some (.arr b e j wr)):
 bX P st ⟨st.n,st.t,(f,some (.nr y (h.set d (.sl false e j))))::(k,some (.arr b e j false))::st.h⟩:=by
 intro Z x g a w r;have I:f≠k:=λg=>by rw[g,t]at n;cases n
 obtain⟨l,B,C,D,p,E⟩:=r.sr.O9 t;have i:=r.cA (⟨B,C,D,p⟩:m_ Z x g st.h w l ((k,some (.arr b e j false))::st.h));have q:aY ((k,some (Ob.arr b e j false))::st.h) f=some (.nr y h):=by rw[a_ I];exact n
 obtain⟨Q,U⟩:=i.sr.ob _ _ q;have N:d<h.length:=(aqh.1 s).1;rcases U with⟨S,_⟩|⟨z,A,m,H,W,J,R,L,K,v⟩
 ·subst S;simp at N
 obtain⟨u,X,Y⟩:=v.get s;cases Y;have:=v.set d (c:=.sl false e j) (u:=l.sv k) (by rw[p];exact E.cJ);have F:(m.toList.take h.length).set d (l.sv k)=m.toList.take h.length:=by
  obtain⟨O,M⟩:=aqh.1 X;rw[<-M];exact asd O
 rw[F]at this;have o:(h.set d (.sl false e j)).length=h.length:=by simp
 obtain⟨V,G⟩:=i.sr.PI q (o':=.nr y (h.set d (.sl false e j))) ⟨Q,.inr ⟨z,A,m,H,by rw[o];exact W,by rw[o];exact J,R,L,K,by rw[o];exact this⟩⟩;exact⟨l,i.n,i.d,V,i.tr.mono G⟩
end
def aft(π:Nat->Nat):List (Nat×EV)->List (Nat×EV)
 |[]=>[]
 |(i,c)::t=>(i,tP π c)::aft π t
def La(π:Nat->Nat):∀t,fY (aft π t)=Kh π (fY t)
 |[]=>rfl
 |(i,c)::t=>by simp only[aft,fY,Kh,BN,La π t]
def afu(a b k:Nat):Nat:=cond (Nat.beq k a) b (cond (Nat.beq k b) a k)
def afv(a b:Nat):afu a b=swp a b:=by
 funext k;unfold afu swp;by_cases c:k=a
 ·subst c;rw[aqM];simp
 ·rw[iC c,aqc c]
  by_cases d:k=b
  ·subst d;rw[aqM];simp
  ·rw[iC d,aqc d];rfl
def ZY(a b:Nat)(E:cC):cC:=⟨E.n,aft (afu a b) E.t,Ah (afu a b) E.h⟩
def Ak(k:Nat)(c:EV):EV:=cond ((enc c).fQ k) .un c
def Lb(k:Nat)(c:EV):enc (Ak k c)=(enc c).kill k:=by
 unfold Ak AV.kill;cases(enc c).fQ k<;>rfl
def t_(k:Nat):List (Nat×EV)->List (Nat×EV)
 |[]=>[]
 |(i,c)::t=>(i,Ak k c)::t_ k t
def iU(k:Nat):∀t,fY (t_ k t)=cP k (fY t)
 |[]=>rfl
 |(i,c)::t=>by simp only[t_,fY,cP,Lb,iU k t]
def Iw(k:Nat):Option (Int×Option Nat)->Option (Int×Option Nat)
 |some (i,some j)=>cond (Nat.beq j k) (some (i,none)) (some (i,some j))
 |o=>o
def Lc(k:Nat):dR->dR
 |.box t cs=>.box t (cs.map (Ak k))
 |.arr t r xs wr=>.arr t r xs wr
 |.mp d kc vc es=>.mp d kc vc es
 |.nr t r xs ho=>.nr t r xs (Iw k ho)
 |.qr t ho sz xs=>.qr t (match ho with
  |some j=>cond (Nat.beq j k) none (some j)
  |none=>none) sz xs
def sW(k:Nat)(a:List EV):bO (a.map (Ak k))=(bO a).map (AV.kill k):=by
 rw[dH,dH,aru,aru];exact aq6 λc _=>Lb k c
def Ld(k:Nat)(r:Sc)(a:List (List r.cQ))(c:Option (Int×Option Nat)):u9 r a (Iw k c)=(u9 r a c).map (AV.kill k):=by
 have b:(a.map (WE r)).map (AV.kill k)=a.map (WE r):=by
  rw[aru];exact aq6 λx _=>by cases x<;>rfl
 match c with
 |none=>exact b.symm
 |some (i,none)=>simp only[Iw,u9,asb,b];rfl
 |some (i,some j)=>
  simp only[Iw,u9,asb,b];by_cases h:j=k
  ·subst h
   rw[aqM];simp[nrH,AV.kill,AV.fQ]
  ·rw[iC h]
   simp[nrH,AV.kill,AV.fQ,h]
def WZ(k:Nat)(o:dR):bS (Lc k o)=(bS o).kill k:=by
 cases o with
 |box t d=>simp only[Lc,bS,Ob.kill,sW]
 |arr=>rfl
 |mp=>rfl
 |nr t r c a=>simp only[Lc,bS,Ob.kill,Ld]
 |qr t a b c=>
  simp only[Lc,bS,Ob.kill,aru];congr 1;refine aq6 λi _=>?_;cases a with
  |none=>rfl
  |some j=>
   show Zd b (cond (Nat.beq j k) none (some j)) i=AV.kill k (.pe j i.toNat b 0);by_cases h:j=k
   ·subst h
    simp[Zd,AV.kill,AV.fQ,aqM]
   ·rw[iC h]
    simp[Zd,AV.kill,AV.fQ,h]
def re(k:Nat):eF->eF
 |[]=>[]
 |(j,o)::h=>(j,match o with
  |some o=>some (Lc k o)
  |none=>none)::re k h
def hX(k:Nat):∀h,bs (re k h)=bh k (bs h)
 |[]=>rfl
 |(j,o)::h=>by
  cases o with
  |none=>simp only[re,bs,bh,Option.map,hX k h]
  |some o=>simp only[re,bs,bh,Option.map,hX k h,WZ]
def ak0(i p:Nat)(t:TypeId)(r:Sc)(E:cC):cC:=⟨E.n,(i,.ow p)::t_ p E.t,(p,some (.arr t r [] true))::re p E.h⟩
def ak1(i p:Nat)(t:TypeId)(k sz:Nat)(E:cC):cC:=⟨E.n,(i,.ow p)::t_ p E.t,(p,some (.qr t (some k) sz []))::re p E.h⟩
def ZZ:List (Nat×PO)->Nat->Option PO
 |[],_=>none
 |(j,o)::t,i=>cond (Nat.beq i j) (some o) (ZZ t i)
def eI(a b:Nat)(E:cC):cC:=cond (Nat.blt a 4294967296 && Nat.blt b 4294967296) (ZY a b E) E
def Le(i k p:Nat)(E:cC):cC:=match bw E.h k with
 |some (.arr t r xs wr)=>cond (Nat.blt k 4294967296|| !(Nat.blt p 4294967296)) (eI k p E) ⟨E.n,(i,.ow p)::t_ p E.t,(p,some (.arr t r xs wr))::(k,none)::re p E.h⟩
 |_=>eI k p E
def Lf(b j k p:Nat)(bt:TypeId)(cs:List EV)(E:cC):cC:=match bw E.h k with
 |some (.arr t r xs wr)=>cond (Nat.blt k 4294967296|| !(Nat.blt p 4294967296)||Nat.beq b p||Nat.beq b k) (eI k p E) ⟨E.n,t_ p E.t,(b,some (.box bt ((cs.map (Ak p)).set j (.ow p))))::(p,some (.arr t r xs wr))::(k,none)::re p E.h⟩
 |_=>eI k p E
def Gj(ph:List (Nat×PO))(i:Nat)(pv:PV)(E:cC):cC:=
 match pv with
 |.k c=>match c with
  |.ow p=>match cN E.t i with
   |.ow k=>cond (Nat.beq k p) E (Le i k p E)
   |.nil=>match ZZ ph p with
    |some (.arr t r _)=>cond (Nat.blt i E.n && Nat.blt p 4294967296) (ak0 i p t r E) E
    |some (.qr t k sz)=>cond (Nat.blt i E.n && Nat.blt p 4294967296) (ak1 i p t k sz E) E
    |_=>E
   |_=>E
  |.pt p _=>match cN E.t i with
   |.pt k _=>cond (Nat.beq k p) E (eI k p E)
   |_=>E
  |.mp p=>match cN E.t i with
   |.mp k=>cond (Nat.beq k p) E (eI k p E)
   |_=>E
  |_=>E
 |.h _=>match cN E.t i with
  |.ow k=>match bw E.h k with
   |some (.arr t r xs _)=>⟨E.n,(i,.sc (.sl r) xs)::E.t,(k,some (.arr t r xs false))::E.h⟩
   |_=>E
  |_=>E
 |_=>E
def Lg(ph:List (Nat×PO))(i j:Nat)(pv:PV)(E:cC):cC:=
 match cN E.t i with
 |.ag cs=>match cs[j]? with
  |some c=>match pv with
   |.k c0=>match c0 with
    |.ow p=>match c with
     |.ow k=>cond (Nat.beq k p) E (eI k p E)
     |.nil=>match ZZ ph p with
      |some (.arr t r _)=>cond (Nat.blt p 4294967296) ⟨E.n,(i,.ag ((cs.map (Ak p)).set j (.ow p)))::t_ p E.t,(p,some (.arr t r [] true))::re p E.h⟩ E
      |_=>E
     |_=>E
    |_=>E
   |.h _=>match c with
    |.ow k=>match bw E.h k with
     |some (.arr t r xs _)=>⟨E.n,(i,.ag (cs.set j (.sc (.sl r) xs)))::E.t,(k,some (.arr t r xs false))::E.h⟩
     |_=>E
    |_=>E
   |_=>E
  |none=>E
 |_=>E
def Lh(ph:List (Nat×PO))(b j:Nat)(pv:PV)(E:cC):cC:=
 match bw E.h b with
 |some (.box bt cs)=>match cs[j]? with
  |some c=>match pv with
   |.k c0=>match c0 with
    |.ow p=>match c with
     |.ow k=>cond (Nat.beq k p) E (Lf b j k p bt cs E)
     |.nil=>match ZZ ph p with
      |some (.arr t r _)=>cond (Nat.beq b p|| !(Nat.blt p 4294967296)) E ⟨E.n,t_ p E.t,(b,some (.box bt ((cs.map (Ak p)).set j (.ow p))))::(p,some (.arr t r [] true))::re p E.h⟩
      |_=>E
     |_=>E
    |.pt p _=>match c with
     |.pt k _=>cond (Nat.beq k p) E (eI k p E)
     |_=>E
    |.mp p=>match c with
     |.mp k=>cond (Nat.beq k p) E (eI k p E)
     |_=>E
    |_=>E
   |.h _=>match c with
    |.ow k=>match bw E.h k with
     |some (.arr t r xs _)=>⟨E.n,E.t,(b,some (.box bt (cs.set j (.sc (.sl r) xs))))::(k,some (.arr t r xs false))::E.h⟩
     |_=>E
    |_=>E
   |_=>E
  |none=>E
 |_=>E
def Z0(p:Nat)(E:cC):cC:=match bw E.h p with
 |some _=>eI p (4000000+p) E
 |none=>E
def P4(pv:PV)(c:EV)(E:cC):cC:=match pv with
 |.k c0=>match c0 with
  |.ow p=>match c with
   |.nil=>Z0 p E
   |_=>E
  |_=>E
 |_=>E
def ak2(i j:Nat)(E:cC):EV:=match cN E.t i with
 |.ag cs=>(cs[j]?).getD .un
 |_=>.un
def ak3(b j:Nat)(E:cC):EV:=match bw E.h b with
 |some (.box _ cs)=>(cs[j]?).getD .un
 |_=>.un
def Dm(ph:List (Nat×PO))(i:Nat):Nat->List PV->cC->cC
 |_,[],E=>E
 |j,p::ps,E=>Dm ph i (j+1) ps (Lg ph i j p (P4 p (ak2 i j E) E))
def Dn(ph:List (Nat×PO))(b:Nat):Nat->List PV->cC->cC
 |_,[],E=>E
 |j,p::ps,E=>Dn ph b (j+1) ps (Lh ph b j p (P4 p (ak3 b j E) E))
def Z1(i j:Nat)(E:cC):EV:=match cN E.t i with
 |.cl _ fs cs=>((fs++cs)[j]?).getD .un
 |_=>.un
def Li(i j:Nat)(pv:PV)(E:cC):cC:=match pv with
 |.k c0=>match c0 with
  |.ow p=>match Z1 i j E with
   |.ow k=>cond (Nat.beq k p) E (eI k p E)
   |_=>E
  |.pt p _=>match Z1 i j E with
   |.pt k _=>cond (Nat.beq k p) E (eI k p E)
   |_=>E
  |.mp p=>match Z1 i j E with
   |.mp k=>cond (Nat.beq k p) E (eI k p E)
   |_=>E
  |_=>E
 |_=>E
def Ix(i:Nat):Nat->List PV->cC->cC
 |_,[],E=>E
 |j,p::ps,E=>Ix i (j+1) ps (Li i j p E)
def Dp(ph:List (Nat×PO)):List (Nat×PV)->cC->cC
 |[],E=>E
 |(i,pv)::t,E=>Dp ph t (match pv with
  |.ag l=>Dm ph i 0 l E
  |.cl _ fs cs=>Ix i 0 (fs++cs) E
  |pv=>Gj ph i pv (P4 pv (cN E.t i) E))
def Lj(k p:Nat)(E:cC):cC:=match bw E.h k with
 |some (.nr _ _ _ (some (_,some j)))=>cond (Nat.beq j p) E (eI j p E)
 |_=>E
def Dq(ph:List (Nat×PO)):List (Nat×PO)->cC->cC
 |[],E=>E
 |(k,o)::h,E=>Dq ph h (match o with
  |.box _ l=>Dn ph k 0 l E
  |.nr _ _ (some (_,p))=>Lj k p E
  |_=>E)
section
variable{P:Program}
def bX.of_eq{a b:St}(h:a=b):bX P a b:=h▸bX.refl
def W0(a b:Nat)(c:a<4294967296)(d:b<4294967296)(E:cC):bX P (bg E) (bg (ZY a b E)):=by
 have:=bX.swap (P:=P) (st:=bg E) a b c d;simp only[bg,ZY,La,q8,afv]at this⊢;exact this
def gv(a b:Nat)(E:cC):bX P (bg E) (bg (eI a b E)):=by
 unfold eI;cases h:(Nat.blt a 4294967296 && Nat.blt b 4294967296)with
 |false=>exact bX.refl
 |true=>
  simp only[aqe]at h;exact W0 a b (aqk h.1) (aqk h.2) E
def Dr{x y:cC}(a:bX P C (bg x))(b:bX P C (bg y)):bX P C (bg (cond h x y)):=by
 cases h
 ·exact b
 ·exact a
def gx(h:bw o.h e=some R):aY (bg o).h e=some (bS R):=by
 show aY (bs o.h) e=_;rw[cV,h];rfl
def sX(h:cN o.t e=G):bz (bg o).t e=enc G:=by
 show bz (fY o.t) e=_;rw[cw,h]
def Z2(i k p:Nat)(E:cC)(c:cN E.t i=.ow k)(b:(Nat.beq k p)=false):bX P (bg E) (bg (Le i k p E)):=by
 unfold Le;split
 ·rename_i t r g wr d
  cases a:(Nat.blt k 4294967296|| !(Nat.blt p 4294967296))with
  |true=>exact gv _ _ _
  |false=>
   simp only[ash,auC]at a;have f:p≠k:=λe=>by rw[e,aqM]at b;cases b
   have:=bX.aiz (P:=P) (st:=bg E) i k p (aqk a.2) f (sX c) (gx d);simp only[bg,fY,bs,iU,hX,Option.map,bS,enc,aqi]at this⊢;exact this
 ·exact gv _ _ _
def W2(h:g[e]? =some G):(bO g)[e]? =some (enc G):=by rw[dH,aqA,h];rfl
def Z3(b j k p:Nat)(d:TypeId)(c:List EV)(E:cC)(i:bw E.h b=some (.box d c))(l:c[j]? =some (.ow k))(f:(Nat.beq k p)=false):bX P (bg E) (bg (Lf b j k p d c E)):=by
 unfold Lf;split
 ·rename_i t r o wr m
  cases a:(Nat.blt k 4294967296|| !(Nat.blt p 4294967296)||Nat.beq b p||Nat.beq b k)with
  |true=>exact gv _ _ _
  |false=>
   simp only[ash,auC]at a;have n:p≠k:=λe=>by rw[e,aqM]at f;cases f
   have g:b≠p:=λe=>by have:=a.1.2;rw[e,aqM]at this;cases this
   have h:b≠k:=λe=>by have:=a.2;rw[e,aqM]at this;cases this
   have:=bX.aiy (P:=P) (st:=bg E) b j k p (aqk a.1.1.2) n g h (gx i) (W2 l) (gx m);simp only[bg,fY,bs,iU,hX,Option.map,bS,enc,nW,sW,aqi]at this⊢;exact this
 ·exact gv _ _ _
def Z4{x y:cC}(a:bX P C (bg x))(b:h=false->bX P C (bg y)):bX P C (bg (cond h x y)):=by
 cases h with
 |true=>exact a
 |false=>exact b rfl
def Lk(h:List (Nat×PO))(i:Nat)(j:PV)(E:cC):bX P (bg E) (bg (Gj h i j E)):=by
 unfold Gj;split
 ·split
  ·split
   ·rename_i k b
    exact Z4 bX.refl λg=>Z2 _ _ _ _ b g
   ·rename_i f
    split
    ·rename_i p _ _ t r wr _
     cases a:(Nat.blt i E.n && Nat.blt p 4294967296)with
     |false=>exact bX.refl
     |true=>
      simp only[aqe]at a;have:=bX.own (P:=P) (st:=bg E) i p (aqk a.2) t r.w (sX f) (aqk a.1);simp only[ak0,bg,fY,bs,iU,hX,Option.map,bS,enc,aro,aqE]at this⊢;exact this
    ·rename_i p _ _ t k m _
     cases a:(Nat.blt i E.n && Nat.blt p 4294967296)with
     |false=>exact bX.refl
     |true=>
      simp only[aqe]at a;have:=bX.own (P:=P) (st:=bg E) i p (aqk a.2) t 1 (sX f) (aqk a.1);simp only[ak1,bg,fY,bs,iU,hX,Option.map,bS,enc,aro,aqE]at this⊢;exact this.trans (bX.ae8 λRd e w d=>d.aia)
    ·exact bX.refl
   ·exact bX.refl
  ·split
   ·exact Dr bX.refl (gv _ _ _)
   ·exact bX.refl
  ·split
   ·exact Dr bX.refl (gv _ _ _)
   ·exact bX.refl
  ·exact bX.refl
 ·split
  ·rename_i k b
   split
   ·rename_i t r l wr d
    refine bX.O9 (P:=P) (st:=bg E) i (c:=.sl false r.w (List.map (bx r) l)) ?_;rw[sX b];simp only[enc,jm,gV,gx d,bS];rfl
   ·exact bX.refl
  ·exact bX.refl
 ·exact bX.refl
def wg(h:g[e]? =some G):(bO g)[e]? =some (enc G):=by rw[dH,aqA,h];rfl
def Z5(f:List (Nat×PO))(i j:Nat)(g:PV)(E:cC):bX P (bg E) (bg (Lg f i j g E)):=by
 unfold Lg;split
 ·rename_i h b
  split
  ·rename_i c a
   split
   ·split
    ·split
     ·exact Dr bX.refl (gv _ _ _)
     ·split
      ·rename_i p _ _ t r wr _
       cases d:Nat.blt p 4294967296 with
       |false=>exact bX.refl
       |true=>
        have:=bX.akX (P:=P) (st:=bg E) i j p (aqk d) t r.w (sX b) (wg a);simp only[bg,fY,bs,iU,hX,Option.map,bS,enc,aro,nW,sW,aqE]at this⊢;exact this
      ·exact bX.refl
     ·exact bX.refl
    ·exact bX.refl
   ·split
    ·rename_i k
     split
     ·rename_i t r l wr e
      have:=bX.aiA (P:=P) (st:=bg E) i j (sX b) (wg a) (gx e);simp only[bg,fY,bs,Option.map,bS,enc,nW,encS]at this⊢;exact this
     ·exact bX.refl
    ·exact bX.refl
   ·exact bX.refl
  ·exact bX.refl
 ·exact bX.refl
def Z6(l:List (Nat×PO))(b j:Nat)(m:PV)(E:cC):bX P (bg E) (bg (Lh l b j m E)):=by
 unfold Lh;split
 ·rename_i n o f
  split
  ·rename_i c d
   split
   ·split
    ·split
     ·exact Z4 bX.refl λi=>Z3 _ _ _ _ _ _ _ f d i
     ·split
      ·rename_i p _ _ t r wr _
       cases a:(Nat.beq b p|| !(Nat.blt p 4294967296))with
       |true=>exact bX.refl
       |false=>
        simp only[ash,auC]at a;have g:b≠p:=λe=>by have:=a.1;rw[e,aqM]at this;cases this
        have:=bX.akY (P:=P) (st:=bg E) b j p (aqk a.2) t r.w (gx f) (wg d) g;simp only[bg,fY,bs,iU,hX,Option.map,bS,enc,aro,nW,sW,aqi]at this⊢;exact this
      ·exact bX.refl
     ·exact bX.refl
    ·split
     ·exact Dr bX.refl (gv _ _ _)
     ·exact bX.refl
    ·split
     ·exact Dr bX.refl (gv _ _ _)
     ·exact bX.refl
    ·exact bX.refl
   ·split
    ·rename_i k
     split
     ·rename_i t r q wr h
      have:=bX.aiB (P:=P) (st:=bg E) b j (gx f) (wg d) (gx h);simp only[bg,fY,bs,Option.map,bS,enc,nW,encS]at this⊢;exact this
     ·exact bX.refl
    ·exact bX.refl
   ·exact bX.refl
  ·exact bX.refl
 ·exact bX.refl
def Iy(a:PV)(c:EV)(E:cC):bX P (bg E) (bg (P4 a c E)):=by
 unfold P4;split
 ·split
  ·split
   ·unfold Z0
    split
    ·exact gv _ _ _
    ·exact bX.refl
   ·exact bX.refl
  ·exact bX.refl
 ·exact bX.refl
def Gk(a:List (Nat×PO))(i:Nat):∀(b:List PV) (j:Nat) (E:cC),bX P (bg E) (bg (Dm a i j b E))
 |[],_,_=>bX.refl
 |p::b,j,E=>((Iy p _ E).trans (Z5 a i j p _)).trans (Gk a i b (j+1) _)
def Gl(a:List (Nat×PO))(b:Nat):∀(c:List PV) (j:Nat) (E:cC),bX P (bg E) (bg (Dn a b j c E))
 |[],_,_=>bX.refl
 |p::c,j,E=>((Iy p _ E).trans (Z6 a b j p _)).trans (Gl a b c (j+1) _)
def Ds(k p:Nat)(E:cC):bX P (bg E) (bg (cond (Nat.beq k p) E (eI k p E))):=Dr bX.refl (gv _ _ E)
def Z7(i j:Nat)(a:PV)(E:cC):bX P (bg E) (bg (Li i j a E)):=by
 unfold Li;split
 ·split
  ·split
   ·exact Ds _ _ E
   ·exact bX.refl
  ·split
   ·exact Ds _ _ E
   ·exact bX.refl
  ·split
   ·exact Ds _ _ E
   ·exact bX.refl
  ·exact bX.refl
 ·exact bX.refl
def Gm(i:Nat):∀(a:List PV) (j:Nat) (E:cC),bX P (bg E) (bg (Ix i j a E))
 |[],_,_=>bX.refl
 |p::a,j,E=>(Z7 i j p E).trans (Gm i a (j+1) _)
def Ll(a:List (Nat×PO)):∀(t:List (Nat×PV)) (E:cC),bX P (bg E) (bg (Dp a t E))
 |[],_=>bX.refl
 |(i,b)::t,E=>by
  refine bX.trans ?_ (Ll a t _);split
  ·exact Gk a i _ 0 E
  ·exact Gm i _ 0 E
  ·exact(Iy _ _ E).trans (Lk a i _ _)
def Z8(k p:Nat)(E:cC):bX P (bg E) (bg (Lj k p E)):=by
 unfold Lj;split
 ·exact Dr bX.refl (gv _ _ E)
 ·exact bX.refl
def Lm(a:List (Nat×PO)):∀(h:List (Nat×PO)) (E:cC),bX P (bg E) (bg (Dq a h E))
 |[],_=>bX.refl
 |(k,o)::h,E=>by
  refine bX.trans ?_ (Lm a h _);split
  ·exact Gl a k _ 0 E
  ·exact Z8 k _ E
  ·exact bX.refl
end
def Dt:List (Nat×PV)->List EV->List (Nat×EV)×List EV
 |[],cs=>([],cs)
 |(i,p)::t,cs=>((i,(fw p cs).1)::(Dt t (fw p cs).2).1,(Dt t (fw p cs).2).2)
def Z9(t0:List (Nat×EV)):List (Nat×PV)->Option (List EV)
 |[]=>some []
 |(i,p)::t=>match Da p (cN t0 i)with
  |some a=>match Z9 t0 t with
   |some b=>some (a++b)
   |none=>none
  |none=>none
def afw(h0:eF):List (Nat×PO)->Option (List EV)
 |[]=>some []
 |(k,p)::h=>match bw h0 k with
  |some o=>match afj p o with
   |some a=>match afw h0 h with
    |some b=>some (a++b)
    |none=>none
   |none=>none
  |none=>none
def R8{g:List (Nat×EV)}:∀(t:List (Nat×PV)) {c:List EV} (rest:List EV),Z9 g t=some c->(Dt t (c++rest)).2=rest/\∀i,Wk (enc (cN g i)) (enc (cN (Dt t (c++rest)).1 i))
 |[],c,rest,h=>by
  simp only[Z9,aqg]at h;subst h;exact⟨rfl,λi=>Wk.un⟩
 |(i,p)::t,c,rest,h=>by
  simp only[Z9]at h;split at h
  ·rename_i a k
   split at h
   ·rename_i b l
    cases h;have d:=RZ p (b++rest) k;have e:=R8 t rest l;simp only[Dt,aqJ,d.1];refine⟨e.1,λj=>?_⟩;simp only[cN];by_cases f:j=i
    ·subst f;rw[aqM];exact d.2
    ·rw[iC f];exact e.2 j
   ·cases h
  ·cases h
def R9{g:eF}:∀(t:List (Nat×PO)) {f:List EV} (rest:List EV),afw g t=some f->
 ∀k d,bw (qY t (f++rest)) k=some d->∃o,bw g k=some o/\∀Rd e w,OR Rd e w k (bS o)->OR Rd e w k (bS d)
 |[],f,rest,h,k,d,c=>by cases c
 |(i,p)::t,f,rest,h,k,d,c=>by
  simp only[afw]at h;split at h
  ·rename_i o s
   split at h
   ·rename_i a q
    split at h
    ·rename_i b r
     cases h;obtain⟨l,u,m,n⟩:=R0 p (b++rest) q;simp only[qY,aqJ,l,m,bw]at c;by_cases j:k=i
     ·subst j
      rw[aqM]at c;cases c;exact⟨o,s,λRd e w=>n Rd e w k⟩
     ·rw[iC j]at c
      exact R9 t rest r k d c
    ·cases h
   ·cases h
  ·cases h
structure PS where
 t:List (Nat×PV)
 h:List (Nat×PO)
 c:List Sc
def eL(n:Nat)(ps:PS)(x:kf ps.c):cC:=⟨n,(Dt ps.t (gZ ps.c x)).1,qY ps.h (Dt ps.t (gZ ps.c x)).2⟩
def o6(t0:List (Nat×EV)):List (Nat×PV)->List (Nat×EV)
 |[]=>[]
 |(i,_)::t=>(i,cN t0 i)::o6 t0 t
def canon(ps:PS)(E:cC):Option (kf ps.c):=
 match Z9 (Dq ps.h ps.h (Dp ps.h ps.t ⟨E.n,o6 E.t ps.t,E.h⟩)).t ps.t with
 |some a=>match afw (Dq ps.h ps.h (Dp ps.h ps.t ⟨E.n,o6 E.t ps.t,E.h⟩)).h ps.h with
  |some b=>tY ps.c (a++b)
  |none=>none
 |none=>none
def Du(a:List (Nat×EV)):∀(t:List (Nat×PV)) (i:Nat),cN (o6 a t) i=cN a i\/cN (o6 a t) i=.un
 |[],i=>.inr rfl
 |(j,p)::t,i=>by
  simp only[o6,cN];by_cases h:i=j
  ·subst h;rw[aqM];exact .inl rfl
  ·rw[iC h];exact Du a t i
def afx(i k p:Nat)(E:cC):(Le i k p E).n=E.n:=by
 unfold Le;have c:∀(b:Bool) (x y:cC),x.n=E.n->y.n=E.n->(cond b x y).n=E.n:=λb x y e f=>by cases b<;>assumption
 have d:∀a b:Nat,(eI a b E).n=E.n:=λa b=>by unfold eI;exact c _ _ _ rfl rfl
 split
 ·exact c _ _ _ (d _ _) rfl
 ·exact d _ _
def afy(b j k p:Nat)(e:TypeId)(f:List EV)(E:cC):(Lf b j k p e f E).n=E.n:=by
 unfold Lf;have c:∀(b:Bool) (x y:cC),x.n=E.n->y.n=E.n->(cond b x y).n=E.n:=λb x y g h=>by cases b<;>assumption
 have d:∀a b:Nat,(eI a b E).n=E.n:=λa b=>by unfold eI;exact c _ _ _ rfl rfl
 split
 ·exact c _ _ _ (d _ _) rfl
 ·exact d _ _
def R_(e:List (Nat×PO))(i:Nat)(f:PV)(E:cC):(Gj e i f E).n=E.n:=by
 unfold Gj;have c:∀(b:Bool) (x y:cC),x.n=E.n->y.n=E.n->(cond b x y).n=E.n:=λb x y g h=>by cases b<;>assumption
 have d:∀a b:Nat,(eI a b E).n=E.n:=λa b=>by unfold eI;exact c _ _ _ rfl rfl
 repeat' (first|rfl|exact d _ _|exact c _ _ _ rfl rfl|exact c _ _ _ rfl (d _ _)|exact c _ _ _ rfl (afx _ _ _ _)|split)
def afz(e:List (Nat×PO))(i j:Nat)(f:PV)(E:cC):(Lg e i j f E).n=E.n:=by
 unfold Lg;have c:∀(b:Bool) (x y:cC),x.n=E.n->y.n=E.n->(cond b x y).n=E.n:=λb x y g h=>by cases b<;>assumption
 have d:∀a b:Nat,(eI a b E).n=E.n:=λa b=>by unfold eI;exact c _ _ _ rfl rfl
 repeat' (first|rfl|exact d _ _|exact c _ _ _ rfl rfl|exact c _ _ _ rfl (d _ _)|split)
def afA(e:List (Nat×PO))(i j:Nat)(f:PV)(E:cC):(Lh e i j f E).n=E.n:=by
 unfold Lh;have c:∀(b:Bool) (x y:cC),x.n=E.n->y.n=E.n->(cond b x y).n=E.n:=λb x y g h=>by cases b<;>assumption
 have d:∀a b:Nat,(eI a b E).n=E.n:=λa b=>by unfold eI;exact c _ _ _ rfl rfl
 repeat' (first|rfl|exact d _ _|exact c _ _ _ rfl rfl|exact c _ _ _ rfl (d _ _)|exact c _ _ _ rfl (afy _ _ _ _ _ _ _)|split)
def P5(a:PV)(c:EV)(E:cC):(P4 a c E).n=E.n:=by
 unfold P4;split
 ·split
  ·split
   ·unfold Z0
    split
    ·unfold eI;cases(Nat.blt _ 4294967296 && Nat.blt _ 4294967296)<;>rfl
    ·rfl
   ·rfl
  ·rfl
 ·rfl
def Ln(b:List (Nat×PO))(i:Nat):∀(a:List PV) (j:Nat) (E:cC),(Dm b i j a E).n=E.n
 |[],_,_=>rfl
 |p::a,j,E=>by rw[Dm,Ln b i a,afz,P5]
def Lo(b:List (Nat×PO))(i:Nat):∀(a:List PV) (j:Nat) (E:cC),(Dn b i j a E).n=E.n
 |[],_,_=>rfl
 |p::a,j,E=>by rw[Dn,Lo b i a,afA,P5]
def Iz(k p:Nat)(E:cC):(cond (Nat.beq k p) E (eI k p E)).n=E.n:=by
 cases Nat.beq k p with
 |true=>rfl
 |false=>
  show(eI k p E).n=E.n;unfold eI;cases(Nat.blt k 4294967296 && Nat.blt p 4294967296)<;>rfl
def afB(i j:Nat)(a:PV)(E:cC):(Li i j a E).n=E.n:=by
 unfold Li;split
 ·split
  ·split
   ·exact Iz _ _ E
   ·rfl
  ·split
   ·exact Iz _ _ E
   ·rfl
  ·split
   ·exact Iz _ _ E
   ·rfl
  ·rfl
 ·rfl
def Lp(i:Nat):∀(a:List PV) (j:Nat) (E:cC),(Ix i j a E).n=E.n
 |[],_,_=>rfl
 |p::a,j,E=>(Lp i a (j+1) _).trans (afB i j p E)
def Sa(a:List (Nat×PO)):∀(t:List (Nat×PV)) (E:cC),(Dp a t E).n=E.n
 |[],_=>rfl
 |(i,b)::t,E=>by
  refine(Sa a t _).trans ?_;cases b with
  |ag l=>exact Ln a i _ 0 E
  |cl d e c=>exact Lp i _ 0 E
  |_=>exact(R_ a i _ _).trans (P5 _ _ E)
def Sb(a:List (Nat×PO)):∀(t:List (Nat×PO)) (E:cC),(Dq a t E).n=E.n
 |[],_=>rfl
 |(i,c)::t,E=>by
  refine(Sb a t _).trans ?_;cases c with
  |box _ l=>exact Lo a i _ 0 E
  |nr t r b=>
   cases b with
   |none=>rfl
   |some q=>
    obtain⟨s,p⟩:=q;show(Lj i p E).n=E.n;unfold Lj;split
    ·rename_i j _
     cases Nat.beq j p with
     |true=>rfl
     |false=>
      show(eI j p E).n=E.n;unfold eI;cases(Nat.blt j 4294967296 && Nat.blt p 4294967296)<;>rfl
    ·rfl
  |_=>rfl
def Z_{P:Program}{d:PS}{x:kf d.c}(h:canon d o=some x):bX P (bg o) (bg (eL o.n d x)):=by
 unfold canon at h;have r:bX P (bg o) (bg ⟨o.n,o6 o.t d.t,o.h⟩):=by
  refine bX.wk (λi=>?_) λk p e=>⟨p,e,λ_ _ _ h=>h⟩;rw[cw,cw];rcases Du o.t d.t i with h|h
  ·rw[h];exact Wk.refl _
  ·rw[h];exact Wk.un
 have g:=r.trans ((Ll (P:=P) d.h d.t _).trans (Lm d.h d.h _));have f:(Dq d.h d.h (Dp d.h d.t ⟨o.n,o6 o.t d.t,o.h⟩)).n=o.n:=by rw[Sb,Sa]
 generalize Dq d.h d.h (Dp d.h d.t ⟨o.n,o6 o.t d.t,o.h⟩)=q at h g f;split at h
 ·rename_i a u
  split at h
  ·rename_i b v
   have l:=wc h;have n:=R8 d.t b u;have j:=R9 d.h [] v;rw[aqV]at j;refine g.trans ?_;obtain⟨z,A,y⟩:=q;simp only at f;subst f;refine bX.wk (λi=>?_) λk p e=>?_
   ·rw[cw,cw]
    simp only[eL,<-l];exact n.2 i
   ·rw[cV]at e
    obtain⟨w,m,rfl⟩:=aqL.1 e;simp only[eL,<-l,n.1]at m;obtain⟨c,s,t⟩:=j k w m;exact⟨bS c,by rw[cV,s];rfl,t⟩
  ·cases h
 ·cases h
def aaa:eF->Option Nat
 |[]=>none
 |(k,o)::h=>match o with
  |some (.nr _ _ _ _)=>some k
  |_=>aaa h
def aab:List (Nat×PO)->List (Nat×PO)->Option (Nat×TypeId)
 |_,[]=>none
 |ph,(_,o)::h=>match o with
  |.nr _ _ (some (s,p))=>match ZZ ph p with
   |some (.arr t2 _ _)=>some (s,t2)
   |_=>none
  |_=>aab ph h
def ahl(b:Nat)(t t2:TypeId)(r:Sc)(xs:List (List r.cQ))(i:Int)(E:cC):cC:=
 ⟨E.n,t_ (5000000+b) E.t,(b,some (.nr t r xs (some (i,some (5000000+b)))))::(5000000+b,some (.arr t2 r [] true))::re (5000000+b) E.h⟩
def aiD(ps:PS)(E:cC){R:Type}(k:cC->Option R):Option R:=
 match aaa E.h with
 |none=>k E
 |some b=>match bw E.h b with
  |some (.nr t r xs ho)=>match aab ps.h ps.h with
   |none=>match ho with
    |some (i,some j)=>match bw E.h j with
     |some (.arr t2 r2 ys wr)=>match ec (.sl r2) (.sl r) ys with
      |some zs=>aW (aZ xs i) λ_=>cond (lX (show List r.cQ from zs)) none (k ⟨E.n,E.t,(b,some (.nr t r (xs.set i.toNat zs) none))::(j,some (.arr t2 r2 ys false))::E.h⟩)
      |none=>none
     |_=>none
    |_=>k E
   |some (s,t2)=>match ho with
    |none=>match cN E.t s with
     |.sc (.i _) i=>cond (Nat.blt (5000000+b) 4294967296) (aW (aZ xs i) λx=>cond (lX x) (k (ahl b t t2 r xs i E)) none) none
     |_=>k E
    |_=>k E
  |_=>k E
def afC{P:Program}{H:PS}{k:cC->Option d}{r:d}(h:aiD H o k=some r):∃g,bX P (bg o) (bg g)/\g.n=o.n/\k g=some r:=by
 unfold aiD at h;split at h
 ·exact⟨o,bX.refl,rfl,h⟩
 ·rename_i b _
  split at h
  ·rename_i t c e I v
   have p:=gx v;split at h
   ·split at h
    ·rename_i i j
     split at h
     ·rename_i q L n wr B
      split at h
      ·rename_i f G
       obtain⟨u,m⟩:=c8 G;cases u;have m:f=n:=m;subst m;obtain⟨x,a,h⟩:=bf h;obtain⟨A,a⟩:=eo a;rcases bD h with⟨_,h⟩|⟨E,h⟩
       ·cases h
       refine⟨_,?_,by rfl,h⟩;have D:i.toNat<e.length:=(aqh.1 a).1;have:=bX.aiC (P:=P) (st:=bg o) b i.toNat (k:=j) p (by
        simp only[u9,nrH];rw[ava (by simpa using D)]) (gx B)
       refine this.trans (bX.of_eq ?_);have l:(u9 c e (some (i,some j))).set i.toNat (.sl false c.w (List.map (bx c) f))=u9 c (e.set i.toNat f) none:=by
        simp only[u9,auy,asb];congr 1;cases f with
        |nil=>cases E
        |cons y n=>rfl
       simp only[bg,bs,Option.map,bS,l]
      ·cases h
     ·cases h
    ·exact⟨o,bX.refl,rfl,h⟩
   ·rename_i s q _
    split at h
    ·split at h
     ·rename_i K i J
      obtain⟨w,h⟩:=aX h;obtain⟨x,a,h⟩:=bf h;obtain⟨A,a⟩:=eo a;obtain⟨z,h⟩:=aX h;refine⟨_,?_,by rfl,h⟩;have F:x=[]:=by cases x with
       |nil=>rfl
       |cons y n=>cases z
      subst F;have C:5000000+b<4294967296:=aqk w;have:=bX.akZ (P:=P) (st:=bg o) b i.toNat (5000000+b) C q c.w p (by
       simp only[u9,aqA,a];rfl) (by omega)
      refine this.trans (bX.of_eq ?_);have l:((u9 c e none).map (AV.kill (5000000+b))).set i.toNat (.ow (5000000+b))=u9 c e (some (i,some (5000000+b))):=by
       rw[<-Ld];rfl
      simp only[ahl,bg,bs,Option.map,bS,iU,hX,l];rfl
     ·exact⟨o,bX.refl,rfl,h⟩
    ·exact⟨o,bX.refl,rfl,h⟩
  ·exact⟨o,bX.refl,rfl,h⟩
def ak4:List (Nat×PO)->Bool
 |[]=>false
 |(_,o)::h=>match o with
  |.nr _ _ _=>true
  |_=>ak4 h
def aiE(ps:PS)(E:cC){R:Type}(k:cC->Option R):Option R:=match aaa E.h with
 |none=>k E
 |some b=>cond (ak4 ps.h) (k E) (match bw E.h b with
  |some (.nr t r xs none)=>k ⟨E.n,E.t,(b,some (.arr t (.sl r) xs true))::E.h⟩
  |_=>k E)
def afD{P:Program}{q:PS}{k:cC->Option d}{r:d}(h:aiE q o k=some r):∃f,bX P (bg o) (bg f)/\f.n=o.n/\k f=some r:=by
 unfold aiE at h;split at h
 ·exact⟨o,bX.refl,rfl,h⟩
 ·rename_i b _
  rcases bD h with⟨_,h⟩|⟨_,h⟩
  ·exact⟨o,bX.refl,rfl,h⟩
  split at h
  ·rename_i t g i m
   have n:=gx m;refine⟨_,?_,by rfl,h⟩;have s:bX P (bg o) ⟨o.n,fY o.t,(b,some (.nr t (i.map (WE g))))::bs o.h⟩:=bX.same (λ_=>rfl) λj=>by
    by_cases l:j=b
    ·subst l
     rw[bc];exact n.symm
    ·rw[a_ l]
   refine s.trans (bX.ae8 λRd e w p=>?_);refine(p.akK (λc a=>?_) (λc a=>?_) true).vZ (PQ g i) (λc a=>?_)
   ·obtain⟨x,_,rfl⟩:=aqq.1 a
    cases x<;>rfl
   ·obtain⟨x,_,rfl⟩:=aqq.1 a
    cases x<;>rfl
   ·exact eD (.sl g) i c a
  ·exact⟨o,bX.refl,rfl,h⟩
def o8(ps:PS)(E:cC){R:Type}(k:kf ps.c->Option R):Option R:=aiD ps E λE'=>aiE ps E' λE'=>aW (canon ps E') k
def lO{P:Program}{a:PS}{k:kf a.c->Option d}{r:d}(h:o8 a o k=some r):∃x,bX P (bg o) (bg (eL o.n a x))/\k x=some r:=by
 obtain⟨n,b,f,i⟩:=afC (P:=P) h;obtain⟨m,c,e,g⟩:=afD (P:=P) i;obtain⟨x,l,j⟩:=bf g;have:=Z_ (P:=P) l;rw[e,f]at this;exact⟨x,b.trans (c.trans this),j⟩
variable{L:Code}
def Sd:Exit->Exit->Bool
 |.normal,.normal=>true
 |.ret,.ret=>true
 |.exit i,.exit j=>Nat.beq i j
 |_,_=>false
def Lq{x y:Exit}(h:Sd x y=true):x=y:=by
 unfold Sd at h;split at h
 ·rfl
 ·rfl
 ·rw[aqj h]
 ·cases h
@[reducible] def FO:List (Exit×PS)->Type
 |[]=>Unit
 |[o]=>kf o.2.c
 |o::p::r=>Sum (kf o.2.c) (FO (p::r))
def Al:(os:List (Exit×PS))->Exit->cC->Option (FO os)
 |[],_,_=>none
 |[o],x,E=>cond (Sd o.1 x) (o8 o.2 E some) none
 |o::p::r,x,E=>cond (Sd o.1 x) (o8 o.2 E λa=>some (.inl a)) (match Al (p::r) x E with
  |some b=>some (.inr b)
  |none=>none)
def Lr(n:Nat):(os:List (Exit×PS))->FO os->{R:Type}->(Exit->cC->Option R)->Option R
 |[],_,_,_=>none
 |[o],v,_,k=>k o.1 (eL n o.2 v)
 |o::p::r,v,_,k=>match v with
  |.inl a=>k o.1 (eL n o.2 a)
  |.inr b=>Lr n (p::r) b k
inductive Pl where
 |z
 |n (a b:Pl)
 |join (ins:PS) (outs:List (Exit×PS)) (p:Pl)
 |loop (ins:PS) (outs:List (Exit×PS)) (p:Pl)
def Pl.l:Pl->Pl
 |.n a _=>a
 |_=>.z
def Pl.r:Pl->Pl
 |.n _ b=>b
 |_=>.z
abbrev YW:=Pl->cC->(R:Type)->(Exit->cC->Option R)->Option R
def ahm(f:YW)(n:Nat)(ins:PS)(outs:List (Exit×PS))(p:Pl):Nat->kf ins.c->Option (FO outs)
 |0,_=>none
 |_+1,v=>f p (eL n ins v) _ (Al outs)
def Dv(f:YW)(n:Nat)(ins:PS)(outs:List (Exit×PS))(p:Pl):Nat->kf ins.c->Option (FO outs)
 |0,_=>none
 |m+1,v=>f p (eL n ins v) _ λx E=>match x with
  |.normal=>o8 ins E (Dv f n ins outs p m)
  |x=>Al outs x E
def aac(N:Nat)(fa:YW):YW:=λpl E _ k=>match pl with
 |.loop ins outs p=>o8 ins E λv=>aW (Dv fa E.n ins outs p N v) λo=>Lr E.n outs o k
 |_=>none
def Gn(N:Nat)(f:YW):YW:=λpl E _ k=>match pl with
 |.join ins outs p=>o8 ins E λv=>aW (ahm f E.n ins outs p N v) λo=>Lr E.n outs o k
 |pl=>f pl E _ k
def aad(i:Nat):List Oper->Nat
 |[]=>i
 |o::l=>match o.dst with
  |some d=>cond (Nat.beq d i) (match o.op with
   |.move (.tmp j)=>j
   |_=>i) (aad i l)
  |none=>aad i l
def wh(l0:List Oper):List Oper->List Nat
 |[]=>[]
 |o::l=>match o.op with
  |.slice _ (.tmp i) _ _ _=>aad i l0::wh l0 l
  |_=>wh l0 l
def aae:List Nat->List Nat
 |[]=>[]
 |i::l=>cond (l.any (Nat.beq i)) (i::aae l) (aae l)
def afE:List Nat->cC->cC
 |[],E=>E
 |i::l,E=>afE l (Gj [] i (.h .u) E)
def W3(l:List Oper)(E:cC):cC:=afE (aae (wh l l)) E
section
variable{P:Program}
def BP:∀(l:List Nat) (E:cC),bX P (bg E) (bg (afE l E))/\(afE l E).n=E.n
 |[],E=>⟨bX.refl,rfl⟩
 |i::l,E=>⟨bX.trans (Lk [] i _ E) (BP l _).1,(BP l _).2.trans (R_ [] i _ E)⟩
end
def Am:Code->Bool
 |.seq a b=>Am a && Am b
 |.cond _ a b=>Am a && Am b
 |.block _ a=>Am a
 |.loop a=>Am a
 |.scope a=>Am a
 |.rangeFunc _ _ _ _=>false
 |_=>true
section
variable(T:TypeId->bj)(CT:List iS)(N:Nat)
noncomputable def ua(c:Code):YW:=
 Code.rec (motive:=λ_=>YW)
  (λ_ E _ k=>k .normal E)
  (λ_ ops draw=>Gn N λ_ E _ k=>cond draw (Fx T CT ops.toList (W3 ops.toList E) ops.toList [] (k .normal)) (Bt T CT ops.toList ops.toList E (k .normal)))
  (λ_ _ fa fb=>Gn N λpl E _ k=>fa pl.l E _ λx E'=>match x with
   |.normal=>fb pl.r E' _ k
   |x=>k x E')
  (λc _ _ fa fb=>Gn N λpl E _ k=>match ep (cN E.t) c with
   |.sc .b b=>match c with
    |.tmp i=>cond b (fa pl.l ⟨E.n,(i,.sc .b true)::E.t,E.h⟩ _ k) (fb pl.r ⟨E.n,(i,.sc .b false)::E.t,E.h⟩ _ k)
    |_=>cond b (fa pl.l E _ k) (fb pl.r E _ k)
   |_=>none)
  (λid _ fa=>Gn N λpl E _ k=>fa pl.l E _ λx E'=>match x with
   |.exit i=>cond (Nat.beq i id) (k .normal E') (k (.exit i) E')
   |x=>k x E')
  (λ_ fa=>aac N fa)
  (λ_ _ _ _ _ _=>λ_ _ _ _=>none)
  (λid _ E _ k=>k (.exit id) E)
  (λ_ fa=>λpl E _ k=>fa pl.l E _ λx E'=>match x with
   |.goto _=>none
   |x=>k x E')
  (λ_=>λ_ E _ k=>k .normal E)
  (λ_=>λ_ _ _ _=>none)
  (λ_ E _ k=>k .ret E)
  (λ_=>λ_ _ _ _=>none)
  c
end
section
variable{P:Program}{T:TypeId->bj}{CT:List iS}{N:Nat}
def P6(t:Bool)(P:Program)(c:Code)(f:YW):Prop:=∀(pl:Pl) (E:cC) (R:Type) (k:Exit->cC->Option R) (r:R),f pl E R k=some r->AC t P c (bg E) λx s=>∃E',s=bg E'/\E'.n=E.n/\k x E'=some r
def Dw{n:Nat}:∀{os:List (Exit×PS)} {o:FO os} {R:Type} {k:Exit->cC->Option R} {r:R},Lr n os o k=some r->∀{x:Exit} {E:cC},Al os x E=some o->E.n=n->∃f,bX P (bg E) (bg f)/\f.n=n/\k x f=some r
 |[],o,R,k,r,h,x,E,c,d=>by cases c
 |[j],o,R,k,r,h,x,E,c,d=>by
  simp only[Al]at c;obtain⟨e,a⟩:=aX c;have:=Lq e;subst this;obtain⟨y,this,g⟩:=lO (P:=P) a;cases g;rw[d]at this;exact⟨_,this,rfl,h⟩
 |j::p::l,o,R,k,r,h,x,E,c,d=>by
  simp only[Al]at c;rcases bD c with⟨e,a⟩|⟨e,a⟩
  ·have:=Lq e
   subst this;obtain⟨y,this,g⟩:=lO (P:=P) a;cases g;rw[d]at this;exact⟨_,this,rfl,h⟩
  ·split at a
   ·rename_i b i
    cases a;exact Dw (os:=p::l) h i d
   ·cases a
def P6.out{E0 E:cC}{c:List (Exit×PS)}{o:FO c}{k:Exit->cC->Option d}{r:d}(a:AC h P L (bg E) λx s=>∃b,s=bg b/\b.n=E.n/\Al c x b=some o)(e:Lr E.n c o k=some r):
 AC h P L (bg E) λx s=>∃b,bX P s (bg b)/\b.n=E.n/\k x b=some r:=by
 refine a.mono λx s=>?_;rintro⟨b,rfl,f,g⟩;exact Dw e g f
def AC.leK{d:Exit->St->Prop}(b:AC h P L C λx s=>∃c,bX P s c/\d x c):AC h P L C d:=by
 intro r B k e a w Q z o v;refine b r B k e a w Q z o λx s A j f n l g i p t=>?_;obtain⟨c,u,y⟩:=A;obtain⟨m,q⟩:=u j f l g i p;exact v x c y j f n m g i q t
def wi{f:YW}(b:P6 h P L f):P6 h P L (Gn N f):=by
 intro u E R k r a;unfold Gn at a;split at a
 ·rename_i d t p
  obtain⟨v,l,g⟩:=lO (P:=P) a;obtain⟨o,c,i⟩:=bf g;cases N with
  |zero=>cases c
  |succ M=>
   have:=b p (eL E.n d v) _ _ _ c;have j:=P6.out (E:=eL E.n d v) (E0:=E) (k:=k) (r:=r) this i;refine AC.le l (AC.leK (j.mono λx s=>?_));rintro⟨e,n,q,m⟩;exact⟨_,n,e,rfl,q,m⟩
 ·exact b _ E R k r a
def aaf{f:YW}(r:P6 h P L f)(n:Nat)(c:PS)(g:List (Exit×PS))(p:Pl)(o:FO g)(m:Nat)(v:kf c.c)(a:Dv f n c g p m v=some o):
 AC h P (.loop L) (bg (eL n c v)) λx s=>∃b,s=bg b/\b.n=n/\Al g x b=some o:=by
 refine AC.loop (α:={q:Nat×kf c.c//Dv f n c g p q.1 q.2=some o}) (λq=>bg (eL n c q.1.2)) (λq=>q.1.1) ⟨(m,v),a⟩ bX.refl ?_;rintro⟨⟨m,v⟩,a⟩;cases m with
 |zero=>cases a
 |succ m=>
  simp only[Dv]at a;have:=r p (eL n c v) _ _ _ a;refine AC.mono this λx s=>?_;rintro⟨b,rfl,e,d⟩;cases x with
  |normal=>
   obtain⟨t,j,k⟩:=lO (P:=P) d;rw[e]at j;exact⟨⟨(m,t),k⟩,j,Nat.lt_succ_self m⟩
  |exit i=>exact⟨b,rfl,e,d⟩
  |goto l=>exact⟨b,rfl,e,d⟩
  |ret=>exact⟨b,rfl,e,d⟩
  |panic u=>exact⟨b,rfl,e,d⟩
  |outgrown=>exact⟨b,rfl,e,d⟩
def P7{ops:List Oper}:∀{l:List Oper} {E:cC} {n:Nat} {R:Type} {k:cC->Option R},E.n=n->Bt T CT ops l E (λa=>cond (Nat.beq a.n n) (k a) none)=Bt T CT ops l E k
 |[],E,n,R,k,f=>by simp only[Bt,f,aqM,aqE]
 |o::l,E,n,R,k,f=>by
  subst f;have step:∀(b:cC),b.n=E.n->o4 T CT o b (λa=>Bt T CT ops l a λa=>cond (Nat.beq a.n E.n) (k a) none)=o4 T CT o b (λa=>Bt T CT ops l a k):=by
   intro b d;unfold o4;have e:=λ(t:List (Nat×EV)) (h:eF)=>P7 (ops:=ops) (l:=l) (k:=k) (E:=⟨b.n,t,h⟩) d;split<;>simp only[e]
  have skip:∀(b:cC),b.n=E.n->(Bt T CT ops l (Di o.dst b) λa=>cond (Nat.beq a.n E.n) (k a) none)=Bt T CT ops l (Di o.dst b) k:=λb d=>P7 (E:=Di o.dst b) d;simp only[Bt,exG];split
  ·exact step E rfl
  ·split
   ·split
    ·rename_i s _ _ c _
     rw[step ⟨E.n,(s,.sc .b true)::E.t,E.h⟩ rfl,step ⟨E.n,(s,.sc .b false)::E.t,E.h⟩ rfl,skip ⟨E.n,(s,.sc .b true)::E.t,E.h⟩ rfl,skip ⟨E.n,(s,.sc .b false)::E.t,E.h⟩ rfl]
    ·rw[skip E rfl]
    ·rfl
   ·rfl
def ak5{b l:List Oper}{k:cC->Option d}{r:d}(h:Bt T CT b l o k=some r):Bt T CT b l o (λa=>cond (Nat.beq a.n o.n) (k a) none)=some r:=by rw[P7 rfl];exact h
def aag{l:List Oper}{E:cC}:∀{rest:List Oper} {done:List yW} {R:Type} {k:cC->Option R},Fx T CT l E rest done (λa=>cond (Nat.beq a.n E.n) (k a) none)=Fx T CT l E rest done k
 |[],done,R,k=>by simp only[Fx,aqM,aqE]
 |o::rest,done,R,k=>by
  simp only[Fx,aag (rest:=rest)]
def ak6{l b:List Oper}{done:List yW}{k:cC->Option d}{r:d}(h:Fx T CT l o b done k=some r):Fx T CT l o b done (λa=>cond (Nat.beq a.n o.n) (k a) none)=some r:=by rw[aag];exact h
def aah(J:Place P T CT)(c:Code):∀t,(t=false->Am c=true)->P6 t P c (ua T CT N c):=by
 induction c with
 |skip=>
  intro t _ j E R k r h;exact AC.skip ⟨E,rfl,rfl,h⟩
 |region id w H=>
  intro t _;refine wi (f:=λ_ E _ k=>cond H (Fx T CT w.toList (W3 w.toList E) w.toList [] (k .normal)) (Bt T CT w.toList w.toList E (k .normal))) ?_;intro j E R k r h;have I:w=w.toList.toArray:=by simp
  cases H with
  |true=>
   have:=P2 (t:=t) J (id:=id) (k:=λd=>cond (Nat.beq d.n (W3 w.toList E).n) (k .normal d) none) (l:=w.toList) (E:=W3 w.toList E) (r:=r) (by
    exact ak6 h)
   rw[I];refine AC.le (BP (P:=P) (aae (wh w.toList w.toList)) E).1 ?_;rw[show(W3 w.toList E).n=E.n from(BP (P:=P) (aae (wh w.toList w.toList)) E).2]at this;refine this.mono λx s=>?_;rintro⟨rfl,d,rfl,m⟩;obtain⟨u,z⟩:=aX m;exact⟨d,rfl,aqj u,z⟩
  |false=>
   have:=P3 (t:=t) J (id:=id) (k:=λd=>cond (Nat.beq d.n E.n) (k .normal d) none) (l:=w.toList) (E:=E) (r:=r) (ak5 h);rw[I];refine this.mono λx s=>?_;rintro⟨rfl,d,rfl,m⟩;obtain⟨u,z⟩:=aX m;exact⟨d,rfl,aqj u,z⟩
 |seq a b q A=>
  intro t y;have q:=q t λe=>by(have:=y e;simp only[Am,aqe]at this;exact this.1)
  have A:=A t λe=>by(have:=y e;simp only[Am,aqe]at this;exact this.2)
  clear y;refine wi (f:=λj E _ k=>ua T CT N a j.l E _ λx d=>match x with
   |.normal=>ua T CT N b j.r d _ k
   |x=>k x d) ?_
  intro j E R k r h;refine AC.seq ((q j.l E R _ r h).mono λx s=>?_);rintro⟨d,rfl,n,m⟩;cases x with
  |normal=>
   refine(A j.r d R k r m).mono λx s=>?_;rintro⟨L,rfl,S,O⟩;exact⟨L,rfl,S.trans n,O⟩
  |exit i=>exact⟨d,rfl,n,m⟩
  |goto l=>exact⟨d,rfl,n,m⟩
  |ret=>exact⟨d,rfl,n,m⟩
  |panic G=>exact⟨d,rfl,n,m⟩
  |outgrown=>exact⟨d,rfl,n,m⟩
 |cond c a b q A=>
  intro t y;have q:=q t λe=>by(have:=y e;simp only[Am,aqe]at this;exact this.1)
  have A:=A t λe=>by(have:=y e;simp only[Am,aqe]at this;exact this.2)
  clear y;refine wi (f:=λj E _ k=>match ep (cN E.t) c with
   |.sc .b F=>match c with
    |.tmp i=>cond F (ua T CT N a j.l ⟨E.n,(i,.sc .b true)::E.t,E.h⟩ _ k) (ua T CT N b j.r ⟨E.n,(i,.sc .b false)::E.t,E.h⟩ _ k)
    |_=>cond F (ua T CT N a j.l E _ k) (ua T CT N b j.r E _ k)
   |_=>none) ?_
  intro j E R k r h;simp only at h;split at h
  ·rename_i F C
   have D:=(Sk.enc E).is C (by intro e;cases e);split at h
   ·rename_i i
    rcases bD h with⟨B,u⟩|⟨B,u⟩
    ·subst B
     exact AC.ahe D (AC.le (bX.ZS (P:=P) C) (q j.l _ R k r u))
    ·subst B
     exact AC.ahf D (AC.le (bX.ZS (P:=P) C) (A j.r _ R k r u))
   ·rcases bD h with⟨B,u⟩|⟨B,u⟩
    ·subst B
     exact AC.ahe D (q j.l _ R k r u)
    ·subst B
     exact AC.ahf D (A j.r _ R k r u)
  ·cases h
 |block id a q=>
  intro t y;have q:=q t y;refine wi (f:=λj E _ k=>ua T CT N a j.l E _ λx d=>match x with
   |.exit i=>cond (Nat.beq i id) (k .normal d) (k (.exit i) d)
   |x=>k x d) ?_
  intro j E R k r h;refine AC.block ((q j.l E R _ r h).mono λx s=>?_);rintro⟨d,rfl,n,m⟩;cases x with
  |exit i=>
   simp only[Pf];rcases bD m with⟨u,z⟩|⟨u,z⟩
   ·rw[aqd (aqj u)]
    exact⟨d,rfl,n,z⟩
   ·rw[aqc (λe=>by rw[e,aqM]at u;cases u)]
    exact⟨d,rfl,n,z⟩
  |normal=>exact⟨d,rfl,n,m⟩
  |goto l=>exact⟨d,rfl,n,m⟩
  |ret=>exact⟨d,rfl,n,m⟩
  |panic G=>exact⟨d,rfl,n,m⟩
  |outgrown=>exact⟨d,rfl,n,m⟩
 |loop a q=>
  intro t y;have q:=q t y;intro j E R k r h;change aac N (ua T CT N a) j E R k=some r at h;unfold aac at h;split at h
  ·rename_i K V p
   obtain⟨v,C,u⟩:=lO (P:=P) h;obtain⟨o,U,z⟩:=bf u;have:=aaf q E.n K V p o N v U;have M:=P6.out (E:=eL E.n K v) (E0:=E) (k:=k) (r:=r) this z;refine AC.le C (AC.leK (M.mono λx s=>?_));rintro⟨d,Q,n,m⟩;exact⟨_,Q,d,rfl,n,m⟩
  ·cases h
 |exit id=>
  intro t _ j E R k r h;exact AC.exit ⟨E,rfl,rfl,h⟩
 |scope a q=>
  intro t y;have q:=q t y;intro j E R k r h;refine AC.scope ((q j.l E R _ r h).mono λx s=>?_);rintro⟨d,rfl,n,m⟩;cases x with
  |goto l=>cases m
  |exit i=>exact⟨λl e=>(by cases e),d,rfl,n,m⟩
  |normal=>exact⟨λl e=>(by cases e),d,rfl,n,m⟩
  |ret=>exact⟨λl e=>(by cases e),d,rfl,n,m⟩
  |panic G=>exact⟨λl e=>(by cases e),d,rfl,n,m⟩
  |outgrown=>exact⟨λl e=>(by cases e),d,rfl,n,m⟩
 |label l=>
  intro t _ j E R k r h;exact AC.label ⟨E,rfl,rfl,h⟩
 |ret=>
  intro t _ j E R k r h;exact AC.ret ⟨E,rfl,rfl,h⟩
 |rangeFunc g X W cb q A=>
  intro t y j E R k r h;cases h
 |_=>
  intro t _ j E R k r h;cases h
end
variable{O:Func}{c:Program}
def FP:Nat->List EV->List (Nat×EV)
 |_,[]=>[]
 |i,c::cs=>(i,c)::FP (i+1) cs
def rf:∀(a:List EV) (i:Nat),fY (FP i a)=qP i (bO a)
 |[],_=>rfl
 |c::a,i=>by simp only[FP,fY,bO,qP,rf a (i+1)]
def afF(ps:PS)(x:Exit)(E:cC):Option (kf ps.c):=match x with
 |.normal=>o8 ps E some
 |.ret=>o8 ps E some
 |_=>none
noncomputable def exF(T:TypeId->bj)(CT:Nat->List iS)(N:Nat)(c:Code)(n:Nat)(pl:Pl)(ps:List PV)(hs:List (Nat×PO))(cs:List Sc)(rs:PS)(x:kf cs):Option (kf rs.c):=
 Nat.rec (motive:=λ_=>Option (kf rs.c)) none (λM _=>ua T (CT M) M c pl ⟨n,FP 0 (cT ps (gZ cs x)).1,qY hs (cT ps (gZ cs x)).2⟩ _ (afF rs)) N
def aai(T:TypeId->bj)(h:eF)(t:TypeId):EV->Option EV
 |.pt j o=>match(T t).ty with
  |some (ag,m)=>match bw h j with
   |some (.box bt cs)=>cond (!(Nat.beq bt CC) && Nat.ble (o+m) cs.length) (RL ag ((cs.drop o).take m)) none
   |_=>none
  |none=>none
 |_=>none
def zn(T:TypeId->bj)(E:cC):List ResultVar->Option (List EV)
 |[]=>some []
 |r::rs=>match r with
  |.tmp i=>match zn T E rs with
   |some cs=>some (cN E.t i::cs)
   |none=>none
  |.cell a t=>match aai T E.h t (cN E.t a)with
   |some c=>match zn T E rs with
    |some cs=>some (c::cs)
    |none=>none
   |none=>none
def ak7:List EV->EV
 |[c]=>c
 |cs=>.tu cs
def vf(T:TypeId->bj)(E:cC)(rs:List ResultVar):EV:=match zn T E rs with
 |some cs=>ak7 cs
 |none=>.un
def fo(names:List Nat):eF->eF
 |[]=>[]
 |(k,o)::h=>cond (names.contains k) ((k,o)::fo names h) (fo names h)
def iD:List Nat->Code->Code
 |[],c=>c
 |0::p,.seq a _=>iD p a
 |_::p,.seq _ b=>iD p b
 |0::p,.cond _ a _=>iD p a
 |_::p,.cond _ _ b=>iD p b
 |_::p,.block _ a=>iD p a
 |_::p,.loop a=>iD p a
 |_::p,.scope a=>iD p a
 |0::p,.rangeFunc _ _ a _=>iD p a
 |_::p,.rangeFunc _ _ _ b=>iD p b
 |_::_,c=>c
def gJ(fn:Func):Code:=match fn.body with
 |some c=>c
 |none=>.skip
def aaj{T:TypeId->bj}(g:f_ c T){p a:EV}(h:aai T o.h b p=some a):vU c (bg o) (enc p) b=some (enc a):=by
 unfold aai at h;split at h
 ·rename_i j d
  split at h
  ·rename_i l m k
   split at h
   ·rename_i n q i
    obtain⟨e,f⟩:=aX h;simp only[vU,g.ty _ _ k,enc,kZ,gx i,bS,fq];simp only[aqe]at e;rw[aqd ⟨zc e.1,aqk e.2⟩,<-lM,<-nX];exact KI f
   ·cases h
  ·cases h
 ·cases h
def BQ{P:Program}{T:TypeId->bj}(d:f_ P T){E:cC}:∀{f:List ResultVar} {b:List EV},zn T E f=some b->CP P (bg E) f=some (bO b)
 |[],b,h=>by simp only[zn,aqg]at h;subst h;rfl
 |r::f,b,h=>by
  simp only[zn]at h;split at h
  ·rename_i i
   split at h
   ·rename_i j e
    cases h;simp only[CP,BQ d e];rw[show bz (bg E).t i=enc (cN E.t i)from cw E.t i];rfl
   ·cases h
  ·rename_i a t
   split at h
   ·rename_i c k
    split at h
    ·rename_i j e
     cases h;have g:=aaj d k;rw[<-show bz (bg E).t a=enc (cN E.t a)from cw E.t a]at g;simp only[CP,BQ d e,g];rfl
    ·cases h
   ·cases h
def afG(a:List EV):Ks (bO a)=enc (ak7 a):=by
 match a with
 |[]=>rfl
 |[c]=>rfl
 |c::d::a=>rfl
def Bn.drop{H g:Hp}(h:Bn c A F k H Q)(f:∀a ob,aY g a=some ob->aY H a=some ob):Bn c A F k g Q:=by
 refine⟨h.1,λB Rd e w I d q=>(h.2 B Rd e w I d q).mono λx y G=>?_⟩;obtain⟨v,i,rfl,d,q⟩:=G;have r:∀b o u,bF B Rd i H y b o u->bF B Rd i g y b o u:=λb o u ⟨l,m,D⟩=>⟨l,m,λa ob E n=>D a ob (f a ob E) n⟩;exact⟨v,i,rfl,⟨d.ext,d.jG,λj ob p=>(d.ob j ob (f j ob p)).mono r,λj ob b p n=>d.base j ob b (f j ob p) n,λj s ob t b l m z C=>d.inj j s ob t b (f j ob l) (f s t m) z C,d.tV⟩,q.mono r⟩
def vg(d:List Nat):∀(h:eF) (k:Nat) (o:dR),bw (fo d h) k=some o->bw h k=some o
 |[],k,o,h=>by cases h
 |(j,q)::h,k,o,c=>by
  simp only[fo]at c;simp only[bw];cases g:d.contains j with
  |true=>
   rw[g]at c;simp only[aqE,bw]at c;by_cases f:k=j
   ·subst f;rw[aqM]at c⊢;exact c
   ·rw[iC f]at c⊢;exact vg d h k o c
  |false=>
   rw[g]at c;simp only[aqi]at c;have:=vg d h k o c;by_cases f:k=j
   ·subst f
    have n:∀(h:eF),bw (fo d h) k=none:=by
     intro h
     induction h with
     |nil=>rfl
     |cons p h l=>
      obtain⟨a,b⟩:=p;simp only[fo];cases i:d.contains a with
      |false=>exact l
      |true=>
       have m:k≠a:=λe=>by rw[<-e,g]at i;cases i
       simp only[aqE,bw,iC m,aqi];exact l
    rw[n]at c;cases c
   ·rw[iC f];exact this
def Dx:∀h:eF,fo [] h=[]
 |[]=>rfl
 |(k,o)::h=>by simp only[fo,List.contains_nil,aqi,Dx h]
def Dy:∀(a:List PV) (b:List EV),(cT a b).1.length=a.length
 |[],_=>rfl
 |p::a,b=>by simp only[cT,aqC,Dy a]
def aak{T:TypeId->bj}{l:List iS}(r:Place c T l)(z:c.funcs[A]? =some O)(E:(O.name== "runtime.NumGoroutine")=false)(x:O.body=some L)(t:Pl)
 (g:List EV) (j:eF) (C:g.length<=O.ntmps) (w:O.ntmps<=1000000) (m:Exit->cC->Option d) (y:d) (b:PS) (a:kf b.c) (K:List Nat)
 (B:∀q f,m q f=some y->(q=.normal\/q=.ret)/\bX c (bg f) (bg (eL f.n b a))) (I:(zn T (eL O.ntmps b a) O.results.toList).isSome=true)
 (J:ua T l e L t ⟨O.ntmps,FP 0 g,j⟩ d m=some y):Bn c A (bs j) (bO g) (bs (fo K (eL O.ntmps b a).h)) (enc (vf T (eL O.ntmps b a) O.results.toList)):=by
 refine Bn.drop (H:=bs (eL O.ntmps b a).h) ?_ (λk ob i=>?_)
 ·refine Bn.intro z E x (by rw[fq];exact C) w ?_
  have:=aah (N:=e) r L true (λh=>by cases h) t ⟨O.ntmps,FP 0 g,j⟩ _ _ _ J;simp only[bg,rf]at this;refine this.mono λq s=>?_;rintro⟨f,rfl,D,i⟩;obtain⟨G,p⟩:=B q f i;refine⟨G,?_⟩;rw[D]at p;obtain⟨u,n⟩:=arU.1 I;have v:=BQ r.t n;refine⟨fY (eL O.ntmps b a).t,bO u,p,v,?_⟩;rw[afG];simp only[vf,n]
 ·rw[cV]at i⊢
  obtain⟨o,F,rfl⟩:=aqL.1 i;rw[vg _ _ _ _ F];rfl
def afH{T:TypeId->bj}{m:Nat->List iS}(E:∀M,e=M+1->Place c T (m M))(B:c.funcs[A]? =some O)(D:(O.name== "runtime.NumGoroutine")=false)(w:O.body.isSome=true)(p:Pl)
 (h:List PV) (j:List (Nat×PO)) (f:List Sc) (b:PS) (own t:Bool) (l:List Nat) (n:(Nat.ble h.length O.ntmps && Nat.ble O.ntmps 1000000)=true) (G:∀y,(zn T (eL O.ntmps b y) O.results.toList).isSome=true) (s:own=false->j=[]/\l=[])
 (F:∀y,(!t||((vf T (eL O.ntmps b y) O.results.toList).pu && puH (fo l (eL O.ntmps b y).h)))=true)
 (M:kf f->Option (kf b.c)) (v:∀x,M x=exF T m e (gJ O) O.ntmps p h j f b x):
 (iS.mk A h j f (kf b.c) M (λy _ k=>k (vf T (eL O.ntmps b y) O.results.toList) (fo l (eL O.ntmps b y).h)) own t).ok c:=by
 refine⟨λo=>(s o).1,λx y i=>⟨_,_,λ_ _=>rfl,λo=>?_,λg=>?_,?_⟩⟩
 ·rw[(s o).2]
  exact Dx _
 ·have:=F y
  simp only at g;rw[g]at this;simpa using this
 obtain⟨a,r⟩:=arU.1 w;have z:gJ O=a:=by simp only[gJ,r]
 simp only at i⊢;rw[v,z]at i;simp only[aqe]at n;cases e with
 |zero=>cases i
 |succ M=>
 change ua T (m M) M a p ⟨O.ntmps,FP 0 (cT h (gZ f x)).1,qY j (cT h (gZ f x)).2⟩ _ (afF b)=some y at i;refine aak (E M rfl) B D r p (cT h (gZ f x)).1 _ (by rw[Dy];exact aqk n.1) (aqk n.2) (afF b) y b y l (λq u d=>?_) (G y) i;have g:(q=.normal\/q=.ret)/\o8 b u some=some y:=by
  unfold afF at d;split at d
  ·exact⟨.inl rfl,d⟩
  ·exact⟨.inr rfl,d⟩
  ·cases d
 obtain⟨g,d⟩:=g;obtain⟨I,C,H⟩:=lO (P:=c) d;cases H;exact⟨g,C⟩
def rh{T:TypeId->bj}{CT:Nat->List iS}{N:Nat}(p:∀M,Place c T (CT M))(l:c.funcs[A]? =some O)(n:(O.name== "runtime.NumGoroutine")=false)(j:O.body.isSome=true)(h:Pl)
 (f:List PV) (d:List (Nat×PO)) (b:List Sc) (a:PS) (own g:Bool) (e:List Nat) (m:(Nat.ble f.length O.ntmps && Nat.ble O.ntmps 1000000)=true) (r:∀y,(zn T (eL O.ntmps a y) O.results.toList).isSome=true) (o:own=false->d=[]/\e=[])
 (q:∀y,(!g||((vf T (eL O.ntmps a y) O.results.toList).pu && puH (fo e (eL O.ntmps a y).h)))=true)
 (M:kf b->Option (kf a.c)) (i:∀x,M x=exF T CT N (gJ O) O.ntmps h f d b a x):
 (iS.mk A f d b (kf a.c) M (λy _ k=>k (vf T (eL O.ntmps a y) O.results.toList) (fo e (eL O.ntmps a y).h)) own g).ok c:=
 afH (λM _=>p M) l n j h f d b a own g e m r o q M i
structure Gp(P:Program)(t:TypeId)(i:bj):Prop where
 ty:∀x,i.ty=some x->O_ P t=some x
 el:∀x,i.el=some x->Ft P t=some x
 jO:i.jO=true->jO P t=true
 bo:i.bo=true->P.underlying t=some .bool
 ar:∀x,i.ar=some x->arA P t=some x
 fd:∀(f:Nat) x,i.fd[f]? =some x->YV P t f=some x
 pl:∀z l,i.pl=some (z,l)->∃f,plA P t=some (z,f)/\∀(i:Nat) p,l[i]? =some p->f i=some p
 ze:∀x,i.ze=some x->Ac P t=some x
 mp:∀x,i.mp=some x->mapA P t=some x
 ik:∀k,i.ik=some k->P.underlying t=some (.int k)
 eq:∀s,i.eq=some s->Zg P t s
 sg:i.sg=true->P.underlying t=some .string
 nf:i.nf=true->∃ms,P.underlying t=some (.interface ms)
 zv:∀x,i.zv=some x->zvT P t=some x
def P8:Gp c b (bj.mk none none false false none [] none none none none none none none false false none):=
 {ty:=λ_ h=>by cases h
  el:=λ_ h=>by cases h
  jO:=λh=>by cases h
  bo:=λh=>by cases h
  ar:=λ_ h=>by cases h
  fd:=λ_ _ h=>by simp at h
  pl:=λ_ _ h=>by cases h
  ze:=λ_ h=>by cases h
  mp:=λ_ h=>by cases h
  ik:=λ_ h=>by cases h
  eq:=λ_ h=>by cases h
  sg:=λh=>by cases h
  nf:=λh=>by cases h
  zv:=λ_ h=>by cases h}
def Ls{a b:Option d}(h:a=b):∀x,b=some x->a=some x:=λ_ c=>h.trans c
def ak8{a b:Bool}(h:a=b):b=true->a=true:=λc=>h.trans c
def boB(P:Program)(t:TypeId):Bool:=match P.underlying t with
 |some .bool=>true
 |_=>false
def sgB(P:Program)(t:TypeId):Bool:=match P.underlying t with
 |some .string=>true
 |_=>false
def aal(a:sgB c b=h):h=true->c.underlying b=some .string:=λd=>by
 have a:=a.trans d;unfold sgB at a;split at a
 ·assumption
 ·cases a
def W4(h:sgB c b=true):Gp c b {sg:=true}:=
 {ty:=λ_ h=>by cases h
  el:=λ_ h=>by cases h
  jO:=λh=>by cases h
  bo:=λh=>by cases h
  ar:=λ_ h=>by cases h
  fd:=λ_ _ h=>by simp at h
  pl:=λ_ _ h=>by cases h
  ze:=λ_ h=>by cases h
  mp:=λ_ h=>by cases h
  ik:=λ_ h=>by cases h
  eq:=λ_ h=>by cases h
  sg:=λ_=>aal h rfl
  nf:=λh=>by cases h
  zv:=λ_ h=>by cases h}
def nfB(P:Program)(t:TypeId):Bool:=match P.underlying t with
 |some (.interface _)=>true
 |_=>false
def aam(a:nfB c b=h):h=true->∃e,c.underlying b=some (.interface e):=λd=>by
 have a:=a.trans d;unfold nfB at a;split at a
 ·exact⟨_,by assumption⟩
 ·cases a
def aiF{a:Option Value}(h:(match a with|some _=>zvT c b|none=>none)=a):∀x,a=some x->zvT c b=some x:=λx d=>by
 subst d;exact h
def aan(h:nfB c b=true):Gp c b {nf:=true}:=
 {ty:=λ_ h=>by cases h
  el:=λ_ h=>by cases h
  jO:=λh=>by cases h
  bo:=λh=>by cases h
  ar:=λ_ h=>by cases h
  fd:=λ_ _ h=>by simp at h
  pl:=λ_ _ h=>by cases h
  ze:=λ_ h=>by cases h
  mp:=λ_ h=>by cases h
  ik:=λ_ h=>by cases h
  eq:=λ_ h=>by cases h
  sg:=λh=>by cases h
  nf:=λ_=>aam h rfl
  zv:=λ_ h=>by cases h}
def aiG(a:boB c b=h):h=true->c.underlying b=some .bool:=λd=>by
 have a:=a.trans d;unfold boB at a;split at a
 ·assumption
 ·cases a
def ikF(P:Program)(t:TypeId):Option IntKind:=match P.underlying t with
 |some (.int k)=>some k
 |_=>none
def aiH{a:Option IntKind}(h:ikF c b=a):∀k,a=some k->c.underlying b=some (.int k):=λk d=>by
 have h:=h.trans d;unfold ikF at h;split at h
 ·cases h;assumption
 ·cases h
def aiI{l:List (Nat×Bool×Nat)}(h:(List.range l.length).map (YV c b)=l.map some):∀(f:Nat) x,l[f]? =some x->YV c b f=some x:=λf x d=>by
 have e:=(aqh.1 d).1;have a:=aqr (λq=>q[f]?) h;simp only[aqA,ato e,d,art]at a;exact aql a
def plF(P:Program)(t:TypeId)(n:Nat):Option (List Value×List (Option (Nat×Nat))):=(plA P t).map λp=>(p.1,(List.range n).map p.2)
def aiJ{o:Option (List Value×List (Nat×Nat))}(h:(match o with
 |some (_,l)=>plF c b l.length
 |none=>none)=o.map λp=>(p.1,p.2.map some)):∀z l,o=some (z,l)->∃f,plA c b=some (z,f)/\∀(i:Nat) p,l[i]? =some p->f i=some p:=λz l j=>by
 subst j;simp only[plF,art]at h;cases e:plA c b with
 |none=>rw[e]at h;cases h
 |some q=>
  rw[e]at h;simp only[art,aqg,aqx]at h;refine⟨q.2,by rw[<-h.1],λi p d=>?_⟩;have g:=(aqh.1 d).1;have a:=aqr (λq=>q[i]?) h.2;simp only[aqA,ato g,d,art]at a;exact aql a
def fdS(P:Program)(f:Field)(o:Nat):Sc->Bool
 |.i k=>decide (f.offset=o) && f.name != "_"&& (match P.underlying f.type with
  |some (.int l)=>decide (k=l)
  |_=>false)
 |.b=>decide (f.offset=o) && f.name != "_"&& (match P.underlying f.type with
  |some .bool=>true
  |_=>false)
 |_=>false
def W5(P:Program):List Field->Nat->Sc->Bool
 |[f],o,.i k=>fdS P f o (.i k)
 |[f],o,.b=>fdS P f o .b
 |f::fs,o,.pr x y=>fdS P f o x && W5 P fs (o+1) y
 |[],_,.u=>true
 |_,_,_=>false
def P9{f:Field}{s:Sc}(h:fdS c f e s=true){D E:Array Value}{x y:s.cQ}{rx ry:List Value}(F:D.toList.drop e=cU s x++rx)(G:E.toList.drop e=cU s y++ry)(d:Nat)(w:World):
 f.name≠ "_"/\∃a b,(part f.type D f.offset).run c w=.ok a w/\(part f.type E f.offset).run c w=.ok b w/\(Op.equalIn (d+1) f.type a b).run c w=.ok (iB s x y) w/\D.toList.drop (e+1)=rx/\E.toList.drop (e+1)=ry:=by
 have get:∀{o:Array Value} {v:Value} {r:List Value},o.toList.drop e=[v]++r->o[e]? =some v/\o.toList.drop (e+1)=r:=by
  intro o v r H;constructor
  ·have A:=aqr (λl=>l[0]?) H
   simpa using A
  ·have A:=aqr (λl=>l.drop 1) H
   simpa[asl,aug]using A
 cases s with
 |i k=>
  simp only[fdS,aqe,ard,bne_iff_ne,ne_eq]at h;obtain⟨⟨B,C⟩,j⟩:=h;split at j
  ·rename_i l n
   have j:=aq7 j;subst j B;obtain⟨p,q⟩:=get F;obtain⟨t,z⟩:=get G;have m:c.plainKey f.type=true:=by simp[Program.plainKey,n]
   refine⟨C,_,_,asm w m p,asm w m t,?_,q,z⟩;have:=aur w d f.type k k x y n;rw[this];rfl
  ·cases j
 |b=>
  simp only[fdS,aqe,ard,bne_iff_ne,ne_eq]at h;obtain⟨⟨B,C⟩,j⟩:=h;split at j
  ·rename_i n
   subst B;obtain⟨p,q⟩:=get F;obtain⟨t,z⟩:=get G;have m:c.plainKey f.type=true:=by simp[Program.plainKey,n]
   refine⟨C,_,_,asm w m p,asm w m t,?_,q,z⟩;exact run_equalIn_bool w d f.type x y n
  ·cases j
 |sl r=>cases h
 |pr a g=>cases h
 |u=>cases h
def afI(d:Nat)(w:World)(t v:Array Value):∀(e:List Field) (o:Nat) (s:Sc) (x y:s.cQ),W5 c e o s=true->t.toList.drop o=cU s x->v.toList.drop o=cU s y->
 (Op.eqFields (d+1) t v e).run c w=.ok (iB s x y) w:=by
 intro e
 induction e with
 |nil=>
  intro o s x y h l m;cases s<;>first|(cases h;done)|(simp[Op.eqFields,iB])
 |cons f e B=>
  intro o s x y h l m;cases s with
  |i k=>
   cases e with
   |cons g gs=>cases h
   |nil=>
    obtain⟨j,a,b,p1,p2,p3,_,_⟩:=P9 (s:=.i k) h (x:=x) (y:=y) (rx:=[]) (ry:=[]) (by simpa using l) (by simpa using m) d w;simp only[Op.eqFields,j,ne_eq,atG,aqP,aqs,p1,p2,p3,aqt];cases iB (.i k) x y<;>simp
  |b=>
   cases e with
   |cons g gs=>cases h
   |nil=>
    obtain⟨j,a,b,p1,p2,p3,_,_⟩:=P9 (s:=.b) h (x:=x) (y:=y) (rx:=[]) (ry:=[]) (by simpa using l) (by simpa using m) d w;simp only[Op.eqFields,j,ne_eq,atG,aqP,aqs,p1,p2,p3,aqt];cases iB .b x y<;>simp
  |sl r=>cases e<;>cases h
  |u=>cases e<;>cases h
  |pr p q=>
   have n:fdS c f o p=true/\W5 c e (o+1) q=true:=by
    cases e<;>simpa[W5]using h
   obtain⟨j,a,b,p1,p2,p3,z,A⟩:=P9 n.1 (x:=x.1) (y:=y.1) l m d w;have:=B (o+1) q x.2 y.2 n.2 z A;simp only[Op.eqFields,j,ne_eq,atG,aqP,aqs,p1,p2,p3,aqt,iB];cases iB p x.1 y.1 with
   |false=>simp
   |true=>simpa using this
def afJ{s:Sc}{e:Array Field}(k:s.key=true)(f:c.underlying b=some (.struct e))(j:c.stoodInHeld b=false)(h:c.eqGuardType c.depth b=false)
 (i:W5 c e.toList 0 s=true):Zg c b s:=by
 refine⟨k,λx y w=>⟨?_,λl a d=>?_⟩⟩
 ·have g:c.fieldsOf b=e:=by simp[Program.fieldsOf,f]
  show(Op.equalIn (9999+1) _ _ _).run c w=_;rw[run_equalIn_struct w 9999 b _ _ (by rw[g];exact f) j,g];exact afI 9998 w _ _ e.toList 0 s x y i (by simp) (by simp)
 ·unfold eqGuard
  cases l<;>simp[aqs,h]
def stF(P:Program)(t:TypeId):Option (Array Field):=match P.underlying t with
 |some (.struct fs)=>some fs
 |_=>none
def eqB(P:Program)(t:TypeId)(s:Sc):Bool:=s.key && !(P.stoodInHeld t) && !(P.eqGuardType P.depth t) && (match stF P t with
 |some fs=>W5 P fs.toList 0 s
 |none=>false)
def aiL{o:Option Sc}(h:(match o with
 |some s=>eqB c b s
 |none=>true)=true):∀s,o=some s->Zg c b s:=λs i=>by
 subst i;simp only[eqB,aqe,arq]at h;obtain⟨⟨⟨e,f⟩,g⟩,d⟩:=h;split at d
 ·rename_i j a
  unfold stF at a;split at a
  ·cases a
   exact afJ e (by assumption) f g d
  ·cases a
 ·cases d
noncomputable def aor(T:TypeId->bj)(CT:List iS)(N:Nat)(c:Code):YW:=match c with
 |.region _ ops draw=>λ_ E _ k=>cond draw (Fx T CT ops.toList (W3 ops.toList E) ops.toList [] (k .normal)) (Bt T CT ops.toList ops.toList E (k .normal))
 |.seq a b=>λpl E _ k=>ua T CT N a pl.l E _ λx E'=>match x with
  |.normal=>ua T CT N b pl.r E' _ k
  |x=>k x E'
 |.cond c a b=>λpl E _ k=>match ep (cN E.t) c with
  |.sc .b bb=>match c with
   |.tmp i=>cond bb (ua T CT N a pl.l ⟨E.n,(i,.sc .b true)::E.t,E.h⟩ _ k) (ua T CT N b pl.r ⟨E.n,(i,.sc .b false)::E.t,E.h⟩ _ k)
   |_=>cond bb (ua T CT N a pl.l E _ k) (ua T CT N b pl.r E _ k)
  |_=>none
 |.block id a=>λpl E _ k=>ua T CT N a pl.l E _ λx E'=>match x with
  |.exit i=>cond (Nat.beq i id) (k .normal E') (k (.exit i) E')
  |x=>k x E'
 |c=>ua T CT N c
def jV:∀a∈([]:List iS),a.ok c:=λa h=>by cases h
def eX{a:iS}{l:List iS}(h:a.ok c)(e:∀d∈l,d.ok c):∀d∈a::l,d.ok c:=λd b=>by
 rcases aqG.1 b with rfl|b
 ·exact h
 ·exact e d b
def tgL(P:Program)(i:bj)(t:TypeId):=(O_ P t,Ft P t,jO P t,boB P t,arA P t,(List.range i.fd.length).map (YV P t),(match i.pl with
 |some (_,l)=>plF P t l.length
 |none=>none),Ac P t,mapA P t,ikF P t,(match i.eq with
 |some s=>eqB P t s
 |none=>true),sgB P t,nfB P t,(match i.zv with|some _=>zvT P t|none=>none))
def tgR(i:bj):=(i.ty,i.el,i.jO,i.bo,i.ar,i.fd.map some,i.pl.map (λp=>(p.1,p.2.map some)),i.ze,i.mp,i.ik,true,i.sg,i.nf,i.zv)
def ala{i:bj}(h:tgL c i b=tgR i):Gp c b i:=by
 simp only[tgL,tgR,aqx]at h;obtain⟨a,k,l,m,n,o,p,q,r,d,e,f,g,j⟩:=h;exact⟨Ls a,Ls k,ak8 l,aiG m,Ls n,aiI o,aiJ p,Ls q,Ls r,aiH d,aiL e,aal f,aam g,aiF j⟩
def tgF(S N:List Nat):List (List Nat×bj)->TypeId->bj
 |[],t=>cond (S.any (Nat.beq t)) {sg:=true} (cond (N.any (Nat.beq t)) {nf:=true} {})
 |(l,i)::r,t=>cond (l.any (Nat.beq t)) i (tgF S N r t)
def any_beq(h:D.any (Nat.beq e)=true):e∈D:=by
 obtain⟨x,b,a⟩:=arW.1 h;rw[aqj a];exact b
def Lt{P:Program}{S N:List Nat}(c:S.all (sgB P)=true)(b:N.all (nfB P)=true):∀{L:List (List Nat×bj)},L.map (λp=>p.1.map (tgL P p.2))=L.map (λp=>p.1.map λ_=>tgR p.2)->∀t,Gp P t (tgF S N L t)
 |[],_,t=>by
  unfold tgF;cases a:S.any (Nat.beq t)with
  |true=>exact W4 (aqD.1 c t (any_beq a))
  |false=>
   cases d:N.any (Nat.beq t)with
   |true=>exact aan (aqD.1 b t (any_beq d))
   |false=>exact P8
 |(l,i)::r,h,t=>by
  simp only[aqz,arl]at h;unfold tgF;cases a:l.any (Nat.beq t)with
  |true=>exact ala (List.map_inj_left.1 h.1 t (any_beq a))
  |false=>exact Lt c b h.2 t
def afK{P:Program}{T:TypeId->bj}(h:∀t,Gp P t (T t)):f_ P T where
 ty:=λt=>(h t).ty
 el:=λt=>(h t).el
 jO:=λt=>(h t).jO
 bo:=λt=>(h t).bo
 ar:=λt=>(h t).ar
 fd:=λt=>(h t).fd
 pl:=λt=>(h t).pl
 ze:=λt=>(h t).ze
 mp:=λt=>(h t).mp
 ik:=λt=>(h t).ik
 eq:=λt=>(h t).eq
 sg:=λt=>(h t).sg
 nf:=λt=>(h t).nf
 zv:=λt=>(h t).zv
section
open Go.ChangeShapes Go.WideShapes Go.ChangeAt Go.RowKit
section
variable{H:Type}{enc:TypeId×Value->H}{P:Program}
def An(j:laidOutB P=true){W g:World}(i:Ext W g):∀{a:List TypeId} {f:List Value} {c:List (DataW H)} {p:List MemPlace},
 (∀t∈a,P.readableRec t=true/\t<P.types.size)->DataW.TrodAll enc P W 0 (λ_=>true) true a f c p->(∀x∈p,x.block<W.heap.size)->
 DataW.TrodAll enc P g 0 (λb=>decide (b<W.heap.size)) true a f c p
 |[],[],[],_,_,h,_=>h
 |[],[],_::_,_,_,h,_=>h.elim
 |[],_::_,_,_,_,h,_=>h.elim
 |_::_,[],_,_,_,h,_=>h.elim
 |_::_,_::_,[],_,_,h,_=>h.elim
 |t::a,v::f,d::c,p,l,h,k=>by
  obtain⟨p1,r,n,o,rfl⟩:=h;have m:=l t (by simp);exact⟨p1,r,Below.trod j m.1 m.2 n i.FF (λx e=>k x (by simp[e])),An j i (λu q=>l u (by simp[q])) o (λx e=>k x (by simp[e])),rfl⟩
def aao(w:laidOutB P=true){s:ChangeSpec}{args:Array Value}{a gs:List (DataW H)}{f:List MemPlace}{tb:TypeId}
 (k:s.vars=[]) (z:∀t∈O.params.toList,P.readableRec t=true/\t<P.types.size) (B:O.resultTypes= #[tb]) (C:P.underlying tb=some .bool)
 (b:DataW.Whole enc P O.params.toList s.vars false m args.toList a gs f)
 (c:s.fn H (a++gs)={results:=[.lit (.bool true)],args:=a})
 (o:Calls P A args m λe E=>e=.returned (.bool true)/\Ext m E):
 Calls P A args m λe d=>∃v,e=.returned v/\s.post enc P O false true false false m args v d:=by
 refine o.mono λe d ⟨r,j⟩=>⟨_,r,?_⟩;have y:∀p∈f,p.block<m.heap.size:=b.lt;have n:=b;obtain⟨p,q,l,i,rfl,F,G⟩:=n;rw[k]at i;have u:gs=[]:=by
  cases gs with
  |nil=>rfl
  |cons g gs=>exact i.elim
 subst u;refine⟨a,[],p++q,[],p,[],b,?_,?_,?_,Below.frame j.FF _,λh=>by cases h⟩
 ·rw[c,B]
  exact trodAll_mk1 (shut_bool C true)
 ·rw[c]
  exact An w j z l (λx D=>y x (by simp[D]))
 ·rw[k,c]
  rfl
