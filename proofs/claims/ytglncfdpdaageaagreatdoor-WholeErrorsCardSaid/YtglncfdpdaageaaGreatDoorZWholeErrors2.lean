/- part 2 -/
import Derived.Test.YtglncfdpdaageaaGreatDoorZWholeErrors1
set_option linter.all false
noncomputable section
open Go Go.RowKit
set_option maxRecDepth 100000
open List (replicate)
open Nat (beq)
namespace Go.Proofs.YtglncfdpdaageaaGreatDoor
def ffB:Nat->In:=λ_=>false
mutual
def rS:∀c:AV,c.f_ ffB=true
 |.un=>rfl
 |.v _=>rfl
 |.sl _ _ _=>rfl
 |.fp _=>rfl
 |.ow _=>rfl
 |.pt _ _=>rfl
 |.pe _ _ _ _=>rfl
 |.sw _ _ _ _=>rfl
 |.mp _=>rfl
 |.ag a=>by rw[AV.f_];exact uj a
 |.tu a=>by rw[AV.f_];exact uj a
 |.cl _ b a=>by rw[AV.f_,uj b,uj a];rfl
def uj:∀a:Do AV,AV.mu ffB a=true
 |[]=>rfl
 |c::a=>by rw[AV.mu,rS c,uj a];rfl
end
def JY(t:Do (Nat×AV)):rR ffB t=true:=by simp[rR,rS]
def Ob.rS(o:Ob):o.f_ ffB=true:=by cases o<;>simp[Ob.f_,uj]
def xz(h:Hp):mA ffB h=true:=by
 simp only[mA,auO,aup];intro q _;refine⟨rfl,?_⟩;split
 ·exact Ob.rS _
 ·rfl
structure PD(P:Program)(l:bp)(iW:St)(pl:List En):Prop where
 len:pl.length<=l.length
 step:∀(j:Nat) o u,l[j]? =some o->pl[j]? =some u->o.dst=u.d/\DS P l iW (pl.take j) o u
 fit:∀(i j:Nat) v u,i<j->pl[i]? =some v->pl[j]? =some u->HQ l i j v u/\YY l i j v u
 CR:∀(j:Nat) u,pl[j]? =some u->rR u.fr iW.t=true/\mA u.fr iW.h=true
def HT:Nat->bp->In
 |_,[]=>true
 |j,o::l=>o.after.all (λe=> !Region.binds .any e||Nat.blt e.on j) && HT (j+1) l
def uk:∀{a:Nat} {l:bp},HT a l=true->∀(j:Nat) o,l[j]? =some o->∀e∈o.after,Region.binds .any e=true->e.on<a+j
 |a,[],_,j,o,h=>by simp at h
 |a,x::l,b,j,o,h=>by
  simp only[HT,aup]at b;cases j with
  |zero=>
   simp at h;subst h;intro e d c;have:=(Array.all_eq_true'.1 b.1) e d;simpa[c]using this
  |succ j=>
   intro e d c;have:=uk b.2 j o (by simpa using h) e d c;omega
variable{t:AV}{Z:Bs}{M:Env}{n:Hp}{V:Nat->In}{Q:Oper}{c e:If}{b:EQ}{y:Id}{o:GE}{F:bF}{G:bC}
mutual
def MC(d:Nat):∀c:AV,c.f_ (λk=>k==d)= !c.gu d
 |.un=>rfl
 |.v _=>rfl
 |.sl _ _ _=>rfl
 |.fp _=>rfl
 |.ow _=>rfl
 |.pt _ _=>rfl
 |.pe _ _ _ _=>rfl
 |.sw _ _ _ _=>rfl
 |.mp _=>rfl
 |.ag a=>by rw[AV.f_,AV.gu];exact oV d a
 |.tu a=>by rw[AV.f_,AV.gu];exact oV d a
 |.cl _ b a=>by rw[AV.f_,AV.gu,oV d b,oV d a,Bool.not_or]
def oV(d:Nat):∀a:Do AV,AV.mu (λk=>k==d) a= !AV.mq d a
 |[]=>rfl
 |c::a=>by rw[AV.mu,AV.mq,MC d c,oV d a,Bool.not_or]
end
def oW{d:Nat}(h:t.f_ (λk=>k==d)=true):t.kill d=t:=by
 rw[MC]at h;unfold AV.kill;rw[aun];cases a:t.gu d
 ·simp
 ·rw[a]at h;cases h
def Ob.oW{d:Nat}{o:Ob}(h:o.f_ (λk=>k==d)=true):o.kill d=o:=by
 cases o with
 |box t e=>
  simp only[Ob.kill];congr 1;rw[avi (g:=id),awe];intro c a;obtain⟨i,b,rfl⟩:=avc a;exact Go.Proofs.YtglncfdpdaageaaGreatDoor.oW (fg h i _ (auy b))
 |arr=>rfl
 |mp=>rfl
 |nr t e=>
  simp only[Ob.kill];congr 1;rw[avi (g:=id),awe];intro c a;obtain⟨i,b,rfl⟩:=avc a;exact Go.Proofs.YtglncfdpdaageaaGreatDoor.oW (fg h i _ (auy b))
def Ob.mv{o:Ob}(h:o.f_ V=true):o.kj V=o:=by
 cases o with
 |box t e=>
  simp only[Ob.kj];congr 1;rw[avi (g:=id),awe];intro c a;obtain⟨i,b,rfl⟩:=avc a;exact ji (fg h i _ (auy b))
 |arr=>rfl
 |mp=>rfl
 |nr t e=>
  simp only[Ob.kj];congr 1;rw[avi (g:=id),awe];intro c a;obtain⟨i,b,rfl⟩:=avc a;exact ji (fg h i _ (auy b))
section
variable{P:Fd}{st:St}{d:Nat}{ty:EQ}{pos:String}{af:dm}{gd:fH}{K:St->Prop}
def SS.mono{K f:St->Prop}(h:SS P Q st K)(q:∀s,K s->∃c,bQ P s c/\f c):SS P Q st f:=λk g e a w next b p t=>
 h k g e a w next b p λx v l i j n=>by
  obtain⟨c,r,u⟩:=q x v;obtain⟨m,o⟩:=r k g l i j n;exact t c u m i j o
def SS.fresh{a:bX}(f:∀x,(bD st.t x).f_ (λk=>k==d)=true)(b:∀k ob,aZ st.h k=some ob->ob.f_ (λk=>k==d)=true)
 (h:SS P Q st λs=>s=⟨st.n,jM a t (c8 d st.t),n++bw d st.h⟩):SS P Q st λs=>s=⟨st.n,jM a t st.t,n++st.h⟩:=by
 refine h.mono λs e=>?_;subst e;refine⟨_,bQ.same (λx=>?_) (λk=>?_),rfl⟩
 ·rw[jj,jj,ud,oW (f x)]
 ·rw[db,db,du]
  split
  ·rfl
  ·cases c:aZ st.h k with
   |none=>rfl
   |some ob=>rw[avz,Ob.oW (b k ob c)]
def SS.abu{a:bX}(i:∀x,(bD st.t x).f_ V=true)(b:∀k ob,aZ st.h k=some ob->ob.f_ V=true)(e:∀k,V k=true->aZ st.h k=none)
 (h:SS P Q st λs=>s=⟨st.n,jM a t (nB V st.t),n++gv V st.h⟩):SS P Q st λs=>s=⟨st.n,jM a t st.t,n++st.h⟩:=by
 refine h.mono λs g=>?_;subst g;refine⟨_,bQ.same (λx=>?_) (λk=>?_),rfl⟩
 ·rw[jj,jj,kG,ji (i x)]
 ·rw[db,db,oT]
  split
  ·rfl
  ·split
   ·rename_i f;exact e k f
   ·cases c:aZ st.h k with
    |none=>rfl
    |some ob=>rw[avz,Ob.mv (b k ob c)]
def SR.JZ(p:SR Z F M n o){k d:Nat}{ob:Ob}(B:aZ n k=some ob)(ab:d≠k)(X:oP d n=true)(ko:d<4294967296):
 SR Z F (M.cO d (M.bW k) (M.sv k) (M.cP k)) ((d,some ob)::(k,none)::n) o/\∀b a u,bN Z F M n o b a u->bN Z F (M.cO d (M.bW k) (M.sv k) (M.cP k)) ((d,some ob)::(k,none)::n) o b a u:=by
 have C:∀j g,aZ ((d,some ob)::(k,none)::n) j=some g->(j=d/\g=ob)\/(j≠d/\j≠k/\aZ n j=some g):=λj g e=>by
  by_cases l:j=d
  ·subst l;rw[bf]at e;exact .inl ⟨rfl,(aut e).symm⟩
  ·rw[bc l]at e
   by_cases r:j=k
   ·subst r;rw[bf]at e;cases e
   ·rw[bc r]at e;exact .inr ⟨l,r,e⟩
 have O:∀b a u,bN Z F M n o b a u->bN Z F (M.cO d (M.bW k) (M.sv k) (M.cP k)) ((d,some ob)::(k,none)::n) o b a u:=λb a u ⟨y,z,m⟩=>⟨y,z,λj g e f=>by
  rcases C j g e with⟨rfl,rfl⟩|⟨l,r,q⟩
  ·rw[Env.bY]at f;rw[Env.b9];exact m k _ B f
  ·rw[Env.bG l]at f;rw[Env.kE l];exact m j _ q f⟩
 refine⟨⟨p.ext,p.kg,λj g e=>?_,λj g b e f=>?_,λj Y aa a0 b e q f A=>?_,λj e=>by rw[Env.bG bv,Env.de bv];exact p.rL j e⟩,O⟩
 ·rcases C j g e with⟨rfl,rfl⟩|⟨l,r,q⟩
  ·have G:=(p.ob k _ B).mono O
   have W:g.gu j=false:=xl X k _ B;cases g with
   |box t cs=>
    obtain⟨x,b,us,y,z,m⟩:=G;exact⟨by rw[Env.b9];exact x,b,us,by rw[Env.bY];exact y,z,m.1,λi c u D S=>(m.2 i c u D S).env rfl j (e9 (by simpa[Ob.gu]using W) i c D) (λ_ h=>Env.bG h) (λ_ h=>Env.de h)⟩
   |arr t sz ac wr=>
    obtain⟨x,y,z,m⟩:=G;refine⟨x,y,λhw=>by rw[Env.b9];exact z hw,?_⟩;rcases m with⟨s,v,w⟩|⟨b,L,N,s,v,w,H,I,J,E,a8⟩
    ·exact .inl ⟨s,by rw[Env.bY];exact v,by rw[Env.dK];exact w⟩
    ·exact .inr ⟨b,L,N,by rw[Env.bY];exact s,by rw[Env.dK];exact v,w,H,I,J,E,by rw[Env.b9];exact a8⟩
   |mp d es=>
    obtain⟨x,b,arr,a9,y,z,m⟩:=G;exact⟨by rw[Env.b9];exact x,b,arr,a9,by rw[Env.bY];exact y,z,m⟩
   |nr t cs=>
    obtain⟨x,m⟩:=G;refine⟨by rw[Env.b9];exact x,?_⟩;rcases m with⟨s,v,w⟩|⟨b,L,N,s,v,w,H,I,J,E⟩
    ·exact .inl ⟨s,by rw[Env.bY];exact v,by rw[Env.dK];exact w⟩
    ·exact .inr ⟨b,L,N,by rw[Env.bY];exact s,by rw[Env.dK];exact v,w,H,I,J,⟨E.1,λi c u D S=>(E.2 i c u D S).env rfl j (e9 (by simpa[Ob.gu]using W) i c D) (λ_ h=>Env.bG h) (λ_ h=>Env.de h)⟩⟩
  ·exact((p.ob j g q).mono O).env (k:=d) l (.inl (xl X j g q)) (λ_ h=>Env.bG h) (λ_ h=>Env.de h) (λ_ h=>Env.kE h) (λb _ _=>rfl)
 ·rcases C j g e with⟨rfl,rfl⟩|⟨l,r,q⟩
  ·rw[Env.bY]at f;exact p.base k _ b B f
  ·rw[Env.bG l]at f;exact p.base j _ b q f
 ·rcases C j aa e with⟨rfl,rfl⟩|⟨l,r,U⟩
  ·rcases C Y a0 q with⟨rfl,rfl⟩|⟨R,V,Q⟩
   ·rfl
   ·rw[Env.bY]at f
    rw[Env.bG R]at A;exact absurd (p.inj _ _ _ _ _ Q B A f) V
  ·rcases C Y a0 q with⟨rfl,rfl⟩|⟨R,V,Q⟩
   ·rw[Env.bY]at A
    rw[Env.bG l]at f;exact absurd (p.inj _ _ _ _ _ U B f A) r
   ·rw[Env.bG l]at f
    rw[Env.bG R]at A;exact p.inj _ _ _ _ _ U Q f A
def YZ{d:Nat}(a:oP d n=true)(k:Nat):oP d ((k,none)::n)=true:=by simpa[oP]using a
def oX(k:Nat)(c:AV):(c.kill k).kill k=c.kill k:=by
 have:=kF k c;generalize c.kill k=x at this;unfold AV.kill;rw[aun (by rw[this];simp)]
def Ob.oX(k:Nat)(o:Ob):(o.kill k).kill k=o.kill k:=by
 cases o with
 |box t a=>
  simp only[Ob.kill,avE];congr 1;exact avi λc _=>by simp[Go.Proofs.YtglncfdpdaageaaGreatDoor.oX]
 |arr=>rfl
 |mp=>rfl
 |nr t a=>
  simp only[Ob.kill,avE];congr 1;exact avi λc _=>by simp[Go.Proofs.YtglncfdpdaageaaGreatDoor.oX]
def pU{g:bX}{a:Act}{w f:GE}(h:(Builtin.append_ #[b,b] ty #[a.eval c,a.eval e]).run P w=.ok y f):
 (execOp a.eval ⟨g,.call ⟨.builtin .append, #[c,e], #[b,b]⟩,ty,pos,af,gd⟩).run P w=.ok (.value y) f:=by
 have i:(#[c,e]:gp).map a.eval= #[a.eval c,a.eval e]:=by simp only[awI,auL,avy]
 simp only[execOp,resolve,i,auF,auJ,auG,invoke,builtin];simp only[axf,h,auG]
def SS.MD{t E:EQ}{x y:If}{k h v:Nat}{h1:Hp}{tt wr:In}{rows ys:Do (Do AV)}(ht:Hh P t=some (E,h,v,G))(hx:st.ev x=.ow k)(S:hZ st.h (st.ev y)=some (h1,.sl tt h ys))
 (O:aZ h1 k=some (.arr E h rows wr)) (L:d≠k) (W:0<h) (U:rows.length+ys.length<=maxLen) (I:(rows.length+ys.length)*v<=140737488355328) (J:d<st.n)
 (F:K ⟨st.n,(d,.ow d)::c8 d st.t,(d,some (.arr E h (rows++ys) wr))::(k,none)::bw d h1⟩):SS P ⟨some d,.call ⟨.builtin .append, #[x,y], #[t,t]⟩,ty,pos,af,gd⟩ st K:=by
 intro s o e a w next Q c V
 obtain⟨i,zv,p2,p3,p4,p5,rfl,rfl,_⟩:=cX ht;obtain⟨b,a3,hv⟩:=oS c.sr (c.ev y) S;have p:=c.cP a3;have q:=p.ev x;have a2:a.eval x=b.sv k:=by
  have:(⟨st.n,st.t,h1⟩:St).ev x=.ow k:=by rw[<-hx];cases x<;>rfl
  rw[this]at q;generalize a.eval x=u at q;cases q with
  |ow=>rfl
 obtain⟨X,z⟩:=p.sr.kill d;have R:aZ (bw d h1) k=some (.arr E i.size rows wr):=by rw[du,O];rfl
 obtain⟨Y,A⟩:=X.JZ R L (ef d h1) (by have:=c.n.2;omega);have a0:=((hv.mono z).mono A).cV (E:=some (b.cO d (b.bW k) (b.sv k) (b.cP k)));obtain⟨g,r,n,l,C,Z,H⟩:=Y.append (by have:=c.n.2;omega) bf t ty i zv p2 p3 p4 rfl p5 W a0 U I;rw[Env.dK]at C;have N:∀j,aZ ((d,some (.arr E i.size (rows++ys) wr))::(k,none)::bw d h1) j=aZ ((d,some (.arr E i.size (rows++ys) wr))::bw d ((d,some (.arr E i.size rows wr))::(k,none)::bw d h1)) j:=λj=>by
  by_cases m:j=d
  ·subst m;rw[bf,bf]
  ·rw[bc m,bc m,du,bc m]
   by_cases B:j=k
   ·subst B;rw[bf];rfl
   ·rw[bc B,du]
    cases aZ h1 j with
    |none=>rfl
    |some ob=>simp[Ob.oX]
 have a1:TR (bN s o ((b.cO d (b.bW k) (b.sv k) (b.cP k)).cO d n g l) ((d,some (.arr E i.size (rows++ys) wr))::bw d ((d,some (.arr E i.size rows wr))::(k,none)::bw d h1)) r) ((b.cO d (b.bW k) (b.sv k) (b.cP k)).cO d n g l) ((d,.ow d)::c8 d st.t) (a.tmps.setIfInBounds d g):=by
  refine TR.put ?_ (by rw[c.n.1];exact J) ?_
  ·have D:=(((((p.tr.kill d).mono z).mono A).env d (dQ d st.t) (e':=b.cO d (b.bW k) (b.sv k) (b.cP k)) (λ_ f=>Env.bG f) (λ_ f=>Env.de f)).mono H)
   exact D.env d (dQ d st.t) (λ_ f=>Env.bG f) (λ_ f=>Env.de f)
  ·have:=VR.ow (Rd:=bN s o ((b.cO d (b.bW k) (b.sv k) (b.cP k)).cO d n g l) ((d,some (.arr E i.size (rows++ys) wr))::bw d ((d,some (.arr E i.size rows wr))::(k,none)::bw d h1)) r) (e:=(b.cO d (b.bW k) (b.sv k) (b.cP k)).cO d n g l) (k:=d)
   rw[Env.dK]at this;exact this
 have M:Ga s o _ ⟨st.n,(d,.ow d)::c8 d st.t,_⟩ (a.put (some d) g) r:=⟨by simpa[Act.put]using c.n,c.d,Z,a1⟩;exact eu (pU (by rw[a2];exact C)) (V _ F _ _ _ (M.k5 N))
def SS.HU{t E:EQ}{x y:If}{o sz0 s:Nat}{h1:Hp}{tt:In}{ys:Do (Do AV)}(Z:Hh P t=some (E,o,s,G))(hx:st.ev x=.sl true sz0 [])(R:hZ st.h (st.ev y)=some (h1,.sl tt o ys))
 (V:0<o) (S:ys.length<=maxLen) (L:ys.length*s<=140737488355328) (M:d<st.n)
 (J:K ⟨st.n,(d,.ow d)::c8 d st.t,(d,some (.arr E o ys true))::bw d h1⟩):SS P ⟨some d,.call ⟨.builtin .append, #[x,y], #[t,t]⟩,ty,pos,af,gd⟩ st K:=by
 intro r p e a w next Q b U
 obtain⟨i,zv,p2,p3,p4,p5,rfl,rfl,_⟩:=cX Z;obtain⟨g,a2,hv⟩:=oS b.sr (b.ev y) R;have C:=b.cP a2;have H:=b.ev x;rw[hx]at H;obtain⟨c,a3,us,A,_,_,_,_,_,a1,_⟩:=H.mr;have B:=a1 rfl;simp only[avg]at B A;subst B;obtain⟨W,u⟩:=C.sr.kill d;obtain⟨X,v⟩:=W.Ea d E i.size c (ef d h1) (by have:=b.n.2;omega);have Y:=((hv.mono u).mono v).cV (E:=some (g.cO d none (.slice c 0 0) 0));obtain⟨h,q,n,l,D,F,z⟩:=X.append (by have:=b.n.2;omega) bf t ty i zv p2 p3 p4 rfl p5 V Y (by simpa using S) (by simpa using L);rw[Env.dK]at D;rw[avd]at F z;have O:∀j,aZ ((d,some (.arr E i.size ys true))::bw d h1) j=aZ ((d,some (.arr E i.size ys true))::bw d ((d,some (.arr E i.size [] true))::bw d h1)) j:=λj=>by
  by_cases m:j=d
  ·subst m;rw[bf,bf]
  ·rw[bc m,bc m,du,du,bc m,du]
   cases aZ h1 j with
   |none=>rfl
   |some ob=>simp[Ob.oX]
 have a0:TR (bN r p ((g.cO d none (.slice c 0 0) 0).cO d n h l) ((d,some (.arr E i.size ys true))::bw d ((d,some (.arr E i.size [] true))::bw d h1)) q) ((g.cO d none (.slice c 0 0) 0).cO d n h l) ((d,.ow d)::c8 d st.t) (a.tmps.setIfInBounds d h):=by
  refine TR.put ?_ (by rw[b.n.1];exact M) ?_
  ·have I:=(((((C.tr.kill d).mono u).mono v).env d (dQ d st.t) (e':=g.cO d none (.slice c 0 0) 0) (λ_ f=>Env.bG f) (λ_ f=>Env.de f)).mono z)
   exact I.env d (dQ d st.t) (λ_ f=>Env.bG f) (λ_ f=>Env.de f)
  ·have:=VR.ow (Rd:=bN r p ((g.cO d none (.slice c 0 0) 0).cO d n h l) ((d,some (.arr E i.size ys true))::bw d ((d,some (.arr E i.size [] true))::bw d h1)) q) (e:=(g.cO d none (.slice c 0 0) 0).cO d n h l) (k:=d)
   rw[Env.dK]at this;exact this
 have N:Ga r p _ ⟨st.n,(d,.ow d)::c8 d st.t,_⟩ (a.put (some d) h) q:=⟨by simpa[Act.put]using b.n,b.d,F,a0⟩;exact eu (pU (by rw[A];exact D)) (U _ J _ _ _ (N.k5 O))
end
variable{E:In}{i v:Do AV}{m:Nat}
section
variable{P:Fd}{st:St}{d:Nat}{dd:bX}{ty:EQ}{pos:String}{af:dm}{gd:fH}{K:St->Prop}
def Bx.ext(h:Bx Z o)(c:∀b,¬Z.own b):Ext Z.w o:=⟨⟨h.os,h.tape,h.output,h.size,λb e=>h.block b λa=>by
 rcases a with a|a
 ·omega
 ·exact c b a⟩,h.drawn⟩
def abv(b:Nat):¬(cB [] m M o).own b:=by rintro⟨p,c,h,_⟩;cases h
def ahK{b:Nat}(a:(cB [] m M o).hY b):o.heap.size<=b:=a.resolve_right (abv b)
def Ga.akr{e h:Env}{a:Act}{w c:GE}(f:Ga Z F e st a w)(x:SR (cB [] m e w) (Md [] m Z F e st.h w) h [] c)
 (z:VR (bN (cB [] m e w) (Md [] m Z F e st.h w) h [] c) (some h) t y) (v:t.f_ (λ_=>true)=true) (p:d<st.n):Ga Z F e ⟨st.n,(d,t)::st.t,st.h⟩ (a.put (some d) y) c:=by
 have l:Ext w c:=x.ext.ext abv;have q:Ga Z F e st a c:=f.later l;refine q.put p ?_;have A:=z.CN (e':=e) rfl (λ_=>true) v (λj i=>by cases i) (λj i=>by cases i);refine A.mono λb o u ⟨B,C,_⟩=>?_;by_cases g:(cB [] m e w).hY b
 ·have g:=ahK g
  exact⟨B,λs=>absurd (f.sr.ext.hY g) s,λk ob r n=>by have:=(f.sr.base _ _ _ r n).2;omega⟩
 ·exact(f.sr.later l).2 b o u (C g).1
def SS.aog{f:FuncId}{q:Op}(m:BG P f [] v [] t)(C:JV P ⟨some d,q,ty,pos,af,gd⟩ st f i)(D:T8 st [] (1000*(d+1)) n [] v i)(G:t.f_ (λ_=>true)=true)(B:d<st.n)
 (z:K ⟨st.n,(d,t)::st.t,n⟩):SS P ⟨some d,q,ty,pos,af,gd⟩ st K:=by
 intro r g e a w next Q h H
 obtain⟨U,N,J⟩:=C m.1 r g e a w h;obtain⟨s,l,k,F,O⟩:=D r g e w _ h.sr N;have j:=h.cP l;have y:Hi (1000*(d+1)) []=true:=by
  have:=h.n.2;simp[Hi,CP];omega
 have L:=j.sr.kJ k y F;have A:=m.2 _ _ _ w U L (O.nC λb o u E=>E.kJ k λp ob I=>by simp[aZ]at I);unfold Oper.wp;rw[J w];show Calls P f _ w _;refine A.mono λx W S=>?_;obtain⟨c,V,rfl,M,R⟩:=S;exact H _ z s _ _ (j.akr M R G B)
def SS.alk{f:FuncId}{r:Op}(q:BG P f [] v [] t)(G:t.pu=true)(C:JV P ⟨some d,r,ty,pos,af,gd⟩ st f i)(g:Ru st [] (1000*(d+1)) [] v i)(E:t.f_ (λ_=>true)=true)(B:d<st.n)
 (y:K ⟨st.n,(d,t)::st.t,st.h⟩):SS P ⟨some d,r,ty,pos,af,gd⟩ st K:=by
 intro s m e a w next Q h F
 obtain⟨R,L,H⟩:=C q.1 s m e a w h;obtain⟨n,V,M⟩:=g s m e w _ h.sr L;have z:∀b o u,RB [] (1000*(d+1)) e w b o u->bN (cB [] (1000*(d+1)) e w) (RB [] (1000*(d+1)) e w) (e.pi [] (1000*(d+1))) [] w b o u:=λb o u j=>⟨j.1,λ_=>j,λp ob l U=>by simp[aZ]at l⟩;have I:SR (cB [] (1000*(d+1)) e w) (RB [] (1000*(d+1)) e w) (e.pi [] (1000*(d+1))) [] w:=
  ⟨⟨rfl,rfl,rfl,auq _,λ_ _=>rfl,auq _⟩,⟨λb o u j=>j,λb o u g=>⟨(h.sr.CM g).1,h.sr.Mq n g⟩⟩,λp ob l=>by simp[aZ]at l,λp ob b l=>by simp[aZ]at l,λp X ob W b l=>by simp[aZ]at l,λk _=>⟨rfl,rfl⟩⟩
 have A:=q.2 _ _ _ w R I (M.nC z);unfold Oper.wp;rw[H w];show Calls P f _ w _;refine A.mono λx Y O=>?_;obtain⟨c,S,rfl,J,N⟩:=O;exact F _ y e _ _ (h.akr (J.pure (λk ob D=>by simp[aZ]at D) ⟨λb o u j=>⟨j.1.1,j.2⟩,λb o u g=>⟨h.sr.CM g,h.sr.Mq n g⟩⟩) (N.pure G) E B)
def SS.ME{t b:EQ}{x y:If}{z W:Nat}{rows ys:Do (Do AV)}(ht:Hh P t=some (b,z,W,G))(hx:st.ev x=.sl true z rows)(hl:hZ st.h (st.ev y)=some (n,.sl E z ys))
 (S:0<ys.length) (Y:0<z) (R:rows.length+ys.length<=maxLen) (J:(rows.length+ys.length)*W<=140737488355328) (hd:d<st.n)
 (hK:K ⟨st.n,(d,.ow d)::c8 d st.t,(d,some (.arr b z (rows++ys) true))::bw d n⟩):SS P ⟨some d,.call ⟨.builtin .append, #[x,y], #[t,t]⟩,ty,pos,af,gd⟩ st K:=by
 intro w0 V e a w next Q m hn
 obtain⟨i,l,p2,p3,p4,p5,rfl,rfl,_⟩:=cX ht;obtain⟨o,ap,hv⟩:=oS m.sr (m.ev y) hl;have B:=m.cP ap;have an:VR (bN w0 V o n w) (some o) (.sl true i.size rows) (a.eval x):=by
  have:=B.ev x;have e2:(⟨st.n,st.t,n⟩:St).ev x=st.ev x:=by cases x<;>rfl
  rw[e2,hx]at this;exact this
 obtain⟨F,ar,g,a5,a0,a2,N,_,au,ak,ha⟩:=an.mr;obtain⟨aq,H,xs,a6,a1,a3,O,_,av,_,a4⟩:=hv.mr;have a9:=ak rfl;subst a9;have aa:=er a0;have ab:=er a1;have v:xs.length=ys.length*i.size:=by rw[O.1,ab]
 have ao:xs≠[]:=by
  rintro rfl;have:=awP S Y;simp at v;omega
 obtain⟨A,D,rfl,a8⟩:=a4 ao;have U:∀(j:Nat) u,xs[j]? =some u->w.cell? ((⟨A,D,none⟩:Addr).add j)=some u:=λj u M=>by rw[ava];exact(a8 j u M).1
 have C:g.length=rows.length*i.size:=by rw[N.1,aa]
 have aw:rows.length+ys.length<=9223372036854775807:=by unfold maxLen at R;exact R
 have ae:∃f,(Builtin.append_ #[t,t] ty #[a.eval x,a.eval y]).run P w=.ok (.slice (some ⟨w.heap.size,0,none⟩) (rows.length+ys.length) (grownCap w (rows.length+ys.length) f b))
  (w.drew.alloc (.cells (g.toArray++xs.toArray++Builtin.zeroCells l.cells (grownCap w (rows.length+ys.length) f b - (rows.length+ys.length))) b)):=by
  rw[a5,a6];by_cases s:rows.length=0
  ·have al:g=[]:=avq (by rw[C,s];simp)
   subst al;simp only[s,auZ];cases F with
   |none=>
    refine⟨0,?_⟩;have:=ayf (P:=P) w t ty b i l p2 p3 p4 ⟨A,D,none⟩ ys.length H xs v U S bv (by
     rw[s,auZ]at J;omega)
    simpa using this
   |some F=>
    refine⟨0,?_⟩;have:=awB (P:=P) w t ty b i l p2 p3 p4 F 0 0 [] d5 d5 ⟨A,D,none⟩ ys.length H xs v U bv bv (by
     rw[s,auZ]at J;rw[auZ,nextslicecap_zero S];omega)
    simpa using this
  ·have am:g≠[]:=by
    rintro rfl;have:=awP (Nat.pos_of_ne_zero s) Y;simp at C;omega
   obtain⟨b1,o1,rfl,a7⟩:=ha am;exact⟨rows.length,awB (P:=P) w t ty b i l p2 p3 p4 ⟨b1,o1,none⟩ rows.length rows.length g C (λj u M=>by rw[ava];exact(a7 j u M).1) ⟨A,D,none⟩ ys.length H xs v U bv bv (aw7 bv J)⟩
 obtain⟨f,ai⟩:=ae;obtain⟨aj,I⟩:=B.sr.kill d;have ag:=avN w (rows.length+ys.length) f b;have ah:=aye w (rows.length+ys.length) f b R;have ac:(rows++ys).flatten.length=g.length+xs.length:=by rw[av2,auE,N.1,O.1]
 obtain⟨Z,X⟩:=aj.JT d b i.size (grownCap w (rows.length+ys.length) f b) (rows:=rows++ys) (cur:=g.toArray++xs.toArray++Builtin.zeroCells l.cells (grownCap w (rows.length+ys.length) f b - (rows.length+ys.length)))
  (λr q=>by
   rcases auC.1 q with q|q
   ·exact a0 r q
   ·exact a1 r q)
  (λc p=>by
   rw[av2]at p;rcases auC.1 p with p|p
   ·exact a2 c p
   ·exact a3 c p)
  (by
   have o:(g.toArray++xs.toArray++Builtin.zeroCells l.cells (grownCap w (rows.length+ys.length) f b - (rows.length+ys.length))).toList.take (rows++ys).flatten.length=g++xs:=by
    rw[awA,awA,ac,<-auE];exact awr
   rw[o,av2];exact(N.imp λ_ _ h=>h.mono I).append (O.imp λ_ _ h=>h.mono I)) (by rw[auE];exact ag) ah
  (by
   simp only[awz,awa,av3,p5,C,v,<-au6];congr 1;omega) (ef d n) (by have:=m.n.2;omega) (w.drew.alloc (.cells (g.toArray++xs.toArray++Builtin.zeroCells l.cells (grownCap w (rows.length+ys.length) f b - (rows.length+ys.length))) b)) rfl (B.sr.ext.drew.alloc _)
 rw[auE]at Z X;refine eu (pU ai) (hn _ hK _ _ _ ⟨by simpa[Act.put]using m.n,m.d,Z,TR.put ?_ (by rw[m.n.1];exact hd) ?_⟩)
 ·exact(((B.tr.kill d).mono I).mono X).env d (dQ d st.t) (λ_ L=>Env.bG L) (λ_ L=>Env.de L)
 ·have:=VR.ow (Rd:=bN w0 V (o.cO d (some w.heap.size) (.slice (some ⟨w.heap.size,0,none⟩) (rows.length+ys.length) (grownCap w (rows.length+ys.length) f b)) 0) ((d,some (.arr b i.size (rows++ys) true))::bw d n) (w.drew.alloc (.cells (g.toArray++xs.toArray++Builtin.zeroCells l.cells (grownCap w (rows.length+ys.length) f b - (rows.length+ys.length))) b))) (e:=o.cO d (some w.heap.size) (.slice (some ⟨w.heap.size,0,none⟩) (rows.length+ys.length) (grownCap w (rows.length+ys.length) f b)) 0) (k:=d)
  rw[Env.dK]at this;exact this
end
variable{j:TypeDesc}
section
open Go Go.RowKit MapKept
variable{P:Fd}
structure Ry(P:Program)(kt:TypeId)(d:TypeDesc):Prop where
 MF:∀(e:Bool) (v:Value) (w:World),k4 d v->(Instr.checkKey e 10000 kt v).run P w=.ok () w
 fnd:∀(v:Value) (l:List MapEntry),k4 d v->(∀m∈l,k4 d m.key)->
  ((∀w:World,(Instr.findKey kt v l).run P w=.ok none w)/\∀m∈l,m.key≠v)\/∃j m,(∀w:World,(Instr.findKey kt v l).run P w=.ok (some (j,m.val)) w)/\l[j]? =some m/\m.key=v
 stay:∀(v:Value) (w:World),k4 d v->(Instr.keyThatStays v v).run P w=.ok v w
def Rz:TypeDesc->In
 |.int _=>true
 |.bool=>true
 |_=>false
def pV(h:Rz j=true):k4 j y↔IsKey j y:=by
 cases j<;>simp[Rz]at h<;>rfl
def Es{kt:EQ}{d:TypeDesc}(hp:Rz d=true)(hu:P.underlying kt=some d):Ry P kt d where
 MF:=λe v w hv=>ayt hu ((pV hp).1 hv) e 9999
 fnd:=λv l hv hl=>by
  have hv':=(pV hp).1 hv;rcases findNow_spec hv' l 0 (λm hm=>(pV hp).1 (hl m hm))with⟨h1,h2⟩|⟨j,m,h1,h2,h3⟩
  ·exact .inl ⟨λw=>run_findKey hu h1,h2⟩
  ·exact .inr ⟨j,m,λw=>by have:=run_findKey (w:=w) hu h1;simpa using this,h2,h3⟩
 stay:=λv w hv=>run_keyThatStays ((pV hp).1 hv)
def aoh(P:Fd)(f g:Field):In:=decide (f.offset=0) && decide (g.offset=1) && f.name != "_"&& g.name != "_"&& (match P.underlying f.type,P.underlying g.type with
 |some (.int .i64),some (.int .i64)=>true
 |_,_=>false)
def MG(P:Fd)(a:EQ):In:= !(P.stoodInHeld a) && (match P.underlying a with
 |some (.struct ⟨[f,g]⟩)=>aoh P f g
 |_=>false)
def wA(h:MG P b=true):P.stoodInHeld b=false/\∃f g,P.underlying b=some (.struct #[f,g])/\f.offset=0/\g.offset=1/\f.name≠ "_"/\g.name≠ "_"/\P.underlying f.type=some (.int .i64)/\P.underlying g.type=some (.int .i64):=by
 simp only[MG,aup,avC]at h;obtain⟨m,a⟩:=h;split at a
 ·rename_i f g n
  simp only[aoh,aup,avn,bne_iff_ne]at a;obtain⟨⟨⟨⟨d,e⟩,i⟩,j⟩,c⟩:=a;refine⟨m,f,g,n,d,e,i,j,?_⟩;split at c
  ·rename_i k l;exact⟨k,l⟩
  ·cases c
 ·cases a
def HV(h:MG P b=true)(a e c d:Int)(w:GE):(Op.equal b (.agg #[.int .i64 a,.int .i64 e]) (.agg #[.int .i64 c,.int .i64 d])).run P w=.ok (decide (a=c/\e=d)) w:=by
 obtain⟨z,f,g,u,C,D,A,B,x,y⟩:=wA h;have t:P.fieldsOf b= #[f,g]:=by simp[Program.fieldsOf,u]
 have p1:P.plainKey f.type=true:=by simp[Program.plainKey,x]
 have p2:P.plainKey g.type=true:=by simp[Program.plainKey,y]
 show(Op.equalIn (9999+1) _ _ _).run P w=_;rw[run_equalIn_struct w 9999 b _ _ (by rw[t];exact u) z,t];have k:∀i:dU,∀v,i[0]? =some v->(part f.type i f.offset).run P w=.ok v w:=λi v p=>awv w p1 (by rw[C];exact p);have q:∀i:dU,∀v,i[1]? =some v->(part g.type i g.offset).run P w=.ok v w:=λi v p=>awv w p2 (by rw[D];exact p);have j:(Op.equalIn 9999 f.type (.int .i64 a) (.int .i64 c)).run P w=.ok (a==c) w:=ayu (P:=P) w 9998 f.type .i64 .i64 a c x;have n:(Op.equalIn 9999 g.type (.int .i64 e) (.int .i64 d)).run P w=.ok (e==d) w:=ayu (P:=P) w 9998 g.type .i64 .i64 e d y;simp only[Op.eqFields,A,B,ne_eq,axK,au2,auF,k #[.int .i64 a,.int .i64 e] (.int .i64 a) rfl,k #[.int .i64 c,.int .i64 d] (.int .i64 c) rfl,auG];have E:=k #[.int .i64 a,.int .i64 e] (.int .i64 a) rfl;have F:=k #[.int .i64 c,.int .i64 d] (.int .i64 c) rfl;have r:=q #[.int .i64 a,.int .i64 e] (.int .i64 e) rfl;have s:=q #[.int .i64 c,.int .i64 d] (.int .i64 d) rfl;cases l:(a==c)with
 |false=>
  rw[l]at j;have:¬a=c:=by simpa using l
  simp[j,this]
 |true=>
  rw[l]at j;have:a=c:=by simpa using l
  subst this;cases m:(e==d)with
  |false=>
   rw[m]at n;have o:¬e=d:=by simpa using m
   simp[j,n,r,s,o]
  |true=>
   rw[m]at n;have o:e=d:=by simpa using m
   subst o;simp[j,n,r,s]
def Y0(h:MG P b=true)(e:In)(a c:Int)(w:GE):(Instr.checkKey e 10000 b (.agg #[.int .i64 a,.int .i64 c])).run P w=.ok () w:=by
 obtain⟨t,f,g,o,r,s,p,q,d,i⟩:=wA h;have p1:P.plainKey f.type=true:=by simp[Program.plainKey,d]
 have p2:P.plainKey g.type=true:=by simp[Program.plainKey,i]
 have m:(part f.type #[Value.int .i64 a,.int .i64 c] f.offset).run P w=.ok (.int .i64 a) w:=awv w p1 (by rw[r];rfl);have n:(part g.type #[Value.int .i64 a,.int .i64 c] g.offset).run P w=.ok (.int .i64 c) w:=awv w p2 (by rw[s];rfl);have j:(Instr.checkKey e 9999 f.type (.int .i64 a)).run P w=.ok () w:=ayt d (k:=.int .i64 a) (by simp[IsKey]) e 9998;have l:(Instr.checkKey e 9999 g.type (.int .i64 c)).run P w=.ok () w:=ayt i (k:=.int .i64 c) (by simp[IsKey]) e 9998;rw[Instr.checkKey];simp[auR o,auF,p,q,m,n,j,l]
def MH{g:EQ}(h:MG P g=true)(a b:Int):∀(l:Do MapEntry) (i:Nat),(∀m∈l,∃c d:Int,m.key=.agg #[.int .i64 c,.int .i64 d])->
 ((∀w:GE,(Instr.findAsking g (.agg #[.int .i64 a,.int .i64 b]) l i).run P w=.ok none w)/\∀m∈l,m.key≠.agg #[.int .i64 a,.int .i64 b])\/
  ∃j m,(∀w:GE,(Instr.findAsking g (.agg #[.int .i64 a,.int .i64 b]) l i).run P w=.ok (some (i+j,m.val)) w)/\l[j]? =some m/\m.key=.agg #[.int .i64 a,.int .i64 b]
 |[],i,_=>.inl ⟨λw=>by simp[Instr.findAsking,auJ],d5⟩
 |m::l,i,q=>by
  obtain⟨c,d,k⟩:=q m d5;by_cases p:a=c/\b=d
  ·obtain⟨rfl,rfl⟩:=p
   refine .inr ⟨0,m,λw=>?_,rfl,k⟩;have:=HV h a b a b w;simp only[Instr.findAsking,k,auF,this,auG];simp[auJ]
  ·have t:m.key≠.agg #[.int .i64 a,.int .i64 b]:=λe=>by
    rw[k]at e;simp at e;exact p ⟨e.1.symm,e.2.symm⟩
   have r:∀w:GE,(Instr.findAsking g (.agg #[.int .i64 a,.int .i64 b]) (m::l) i).run P w=(Instr.findAsking g (.agg #[.int .i64 a,.int .i64 b]) l (i+1)).run P w:=λw=>by
    have:=HV h a b c d w;simp only[Instr.findAsking,k,auF,this,auG];simp[p]
   rcases MH h a b l (i+1) (λx f=>q x (by simp[f]))with⟨n,o⟩|⟨j,u,n,o,s⟩
   ·refine .inl ⟨λw=>by rw[r];exact n w,λx f=>?_⟩
    rcases auT.1 f with rfl|f
    ·exact t
    ·exact o x f
   ·exact .inr ⟨j+1,u,λw=>by rw[r,n w];congr 3;omega,by simpa using o,s⟩
def abw{kt:EQ}(h:MG P kt=true):Ry P kt (.tuple #[])where
 MF:=λe v w hv=>by
  obtain⟨a,b,rfl⟩:=hv;exact Y0 h e a b w
 fnd:=λv l hv hl=>by
  obtain⟨a,b,rfl⟩:=hv;obtain⟨h0,f,g,hu,_⟩:=wA h;have aoi:∀w:GE,(Instr.findKey kt (.agg #[.int .i64 a,.int .i64 b]) l).run P w=(Instr.findAsking kt (.agg #[.int .i64 a,.int .i64 b]) l 0).run P w:=λw=>by
   unfold Instr.findKey;rw[auF,auR hu,auG];cases l with
   |nil=>simp[Instr.findNow,Instr.findAsking,auJ]
   |cons m l=>
    obtain⟨c,d,hm⟩:=hl m d5;simp[Instr.findNow,Instr.sameNow,hm]
  rcases MH h a b l 0 hl with⟨h1,h2⟩|⟨j,m,h1,h2,h3⟩
  ·exact .inl ⟨λw=>by rw[aoi];exact h1 w,h2⟩
  ·exact .inr ⟨j,m,λw=>by rw[aoi,h1 w];simp,h2,h3⟩
 stay:=λv w hv=>by
  obtain⟨a,b,rfl⟩:=hv;simp[Instr.keyThatStays,Instr.sameBits,auJ]
def alm(P:Fd)(a:EQ):At TypeDesc:=cond (MG P a) (some (.tuple #[])) (match P.underlying a with
 |some (.int k)=>some (.int k)
 |some .bool=>some .bool
 |_=>none)
def ahL(h:alm P b=some j):Ry P b j:=by
 unfold alm at h;cases a:MG P b with
 |true=>
  rw[a]at h;cases h;exact abw a
 |false=>
  rw[a]at h;simp only[auv]at h;split at h
  ·rename_i k c
   cases h;exact Es rfl c
  ·rename_i c
   cases h;exact Es rfl c
  ·cases h
end
variable{h:Do (Do AV)}{Y:At Env}{a:Type}{H k:EQ}{X:hX}
section
open Go Go.RowKit MapKept
open Classical in
noncomputable def fj{α:Type}:Do (Id×α)->Id->At α
 |[],_=>none
 |(k,c)::es,x=>if k=x then some c else fj es x
open Classical in
noncomputable def oh{α:Type}:Do (Id×α)->Id->α->Do (Id×α)
 |[],x,v=>[(x,v)]
 |(k,c)::es,x,v=>if k=x then(k,v)::es else(k,c)::oh es x v
def Et{α:Type}:∀{a:Do (Id×α)} {x:Id},(∀p∈a,p.1≠x)->fj a x=none
 |[],_,_=>rfl
 |(k,c)::a,x,h=>by
  rw[fj,aun (h (k,c) d5)];exact Et λp b=>h p (by simp[b])
def MI{α:Type}:∀{a:Do (Id×α)} {x:Id} {j:Nat} {c:α},a[j]? =some (x,c)->(∀(i:Nat) p,i<j->a[i]? =some p->p.1≠x)->fj a x=some c
 |[],_,_,_,h,_=>by simp at h
 |(k,e)::a,x,j,c,h,b=>by
  cases j with
  |zero=>simp at h;rw[fj,auo h.1,h.2]
  |succ j=>
   rw[fj,aun (b 0 (k,e) bv rfl)];exact MI (j:=j) (by simpa using h) λi p g f=>b (i+1) p bv (by simpa using f)
def HW{α:Type}:∀{a:Do (Id×α)} {x:Id} {v:α},(∀p∈a,p.1≠x)->oh a x v=a++[(x,v)]
 |[],_,_,_=>rfl
 |(k,c)::a,x,v,h=>by
  rw[oh,aun (h (k,c) d5),HW λp b=>h p (by simp[b])];rfl
def Uf{α:Type}:∀{a:Do (Id×α)} {x:Id} {j:Nat} {c v:α},a[j]? =some (x,c)->(∀(i:Nat) p,i<j->a[i]? =some p->p.1≠x)->oh a x v=a.set j (x,v)
 |[],_,_,_,_,h,_=>by simp at h
 |(k,e)::a,x,j,c,v,h,b=>by
  cases j with
  |zero=>simp at h;rw[oh,auo h.1,h.1];rfl
  |succ j=>
   rw[oh,aun (b 0 (k,e) bv rfl),Uf (j:=j) (c:=c) (by simpa using h) λi p g f=>b (i+1) p bv (by simpa using f)];rfl
def mapA(P:Fd)(t:EQ):At (TypeDesc×Id):=
 match P.underlying t with
 |some (.map k e)=>match alm P k,P.info? e with
  |some d,some i=>match i.zero with
   |some z=>some (d,z)
   |none=>none
  |_,_=>none
 |_=>none
def h8{P:Fd}{d:TypeDesc}(h:mapA P b=some (d,y)):∃k e i,P.underlying b=some (.map k e)/\Ry P k d/\P.info? e=some i/\i.zero=some y:=by
 unfold mapA at h;split at h
 ·rename_i k e a
  split at h
  ·rename_i j i c f
   split at h
   ·rename_i l g
    simp only[aur,auK]at h;obtain⟨rfl,rfl⟩:=h;exact⟨k,e,i,a,ahL c,f,g⟩
   ·cases h
  ·cases h
 ·cases h
def Mf:Id->AV
 |.agg a=>.ag (a.toList.map lS)
 |x=>lS x
def J0{Rd:bF}(x:Id):VR Rd Y (Mf x) x:=by
 unfold Mf;split
 ·rename_i a
  have h:=xo (Rd:=Rd) (E:=Y) a.toList;have:=VR.ag (Rd:=Rd) (E:=Y) a.toList h.1 h.2;simpa using this
 ·exact Eb x
def Hg.find{P:Fd}{R:a->Id->Prop}{d:TypeDesc}{f:Do (Id×a)}{g:xk}(h:Hg R d f g m)(M:k4 d y)(G:Ry P b d):
 ((∀w:GE,(Instr.findKey b y g.toList).run P w=.ok none w)/\(∀x∈g.toList,x.key≠y)/\fj f y=none/\∀v,oh f y v=f++[(y,v)])\/
 ∃j e c,(∀w:GE,(Instr.findKey b y g.toList).run P w=.ok (some (j,e.val)) w)/\g[j]? =some e/\e.key=y/\fj f y=some c/\R c e.val/\f[j]? =some (y,c)/\∀v,oh f y v=f.set j (y,v):=by
 have A:∀(j:Nat) p,f[j]? =some p->∃e,g[j]? =some e/\e.key=p.1:=λj p n=>by
  have k:j<g.size:=by rw[h.len];exact(aus.1 n).1
  exact⟨g[j],avb k,(h.key j p _ n (avb k)).1⟩
 rcases G.fnd y g.toList M h.isk with⟨q,o⟩|⟨j,e,q,o,r⟩
 ·have C:∀p∈f,p.1≠y:=λp n t=>by
   obtain⟨j,k,rfl⟩:=avc n;obtain⟨e,l,N⟩:=A j _ (auy k);exact o e (Array.mem_toList_iff.2 (ay3 l)) (N.trans t)
  exact .inl ⟨q,o,Et C,λv=>HW C⟩
 ·have l:g[j]? =some e:=by simpa using o
  have k:j<f.length:=by rw[<-h.len];exact(au9.1 l).1
  have u:=h.key j _ e (auy k) l;have H:f[j].1=y:=u.1.symm.trans r;have s:f[j]? =some (y,f[j].2):=by rw[auy k,<-H]
  have z:∀(i:Nat) p,i<j->f[i]? =some p->p.1≠y:=λi p J n t=>by
   obtain⟨Q,B,O⟩:=A i p n;have S:=h.ky.2.2;have I:i<g.toList.length:=by have:=(au9.1 B).1;simpa using this
   have L:j<g.toList.length:=by have:=(au9.1 l).1;simpa using this
   have D:=axL.1 ((ayv g m).1 h.ky).2.2 i j I L J;have E:g.toList[i]=Q:=by
    have:=(au9.1 B).2;simpa using this
   have F:g.toList[j]=e:=by
    have:=(au9.1 l).2;simpa using this
   rw[E,F]at D;exact D (by rw[O,t,r])
  refine .inr ⟨j,e,f[j].2,q,l,r,MI s z,u.2,s,λv=>Uf s z⟩
def Hg.put{P:Fd}{R R':a->Id->Prop}{z:Do (Id×a)}{w:xk}(n:Hg R j z w m)(M:∀c u,R c u->R' c u)(s:k4 j y)
 (p1:P.underlying b=some (.map k H)) (p2:Ry P k j) {c:a} {v:Id} (N:R' c v) {h:Nat} (C:o.heap[h]? =some (.map w m)):
 ∃I J,(Instr.mapUpdate b (.map (some h)) y v).run P o=.ok () {o with heap:=o.heap.setIfInBounds h (.map I J)}/\Hg R' j (oh z y c) I J:=by
 rcases n.find (P:=P) s p2 with⟨E,A,F,L⟩|⟨f,g,Y,E,A,F,L,Z,O,Q⟩
 ·refine⟨w.push {key:=y,val:=v,born:=m},m+1,?_,?_⟩
  ·simp[Instr.mapUpdate,auR p1,avv C,p2.MF _ _ _ s,E,avV _ C,Result.andThen]
  ·rw[L]
   refine⟨by simp[n.len],λf x g p l=>?_,λg l=>?_,stamped_push n.ky A,λf g r=>?_,by rw[n.clk];simp⟩
   ·by_cases r:f<z.length
    ·rw[au7 r]at p
     rw[awy,aun (by rw[n.len];omega)]at l;exact⟨(n.key f x g p l).1,M _ _ (n.key f x g p l).2⟩
    ·have S:f=z.length:=by
      have:=(aus.1 p).1;simp at this;omega
     subst S;simp at p;rw[awy,auo n.len.symm]at l;simp at l;subst p;subst l;exact⟨rfl,N⟩
   ·rw[Array.toList_push,auC]at l
    rcases l with l|l
    ·exact n.isk g l
    ·simp at l;subst l;exact s
   ·rw[awy]at r
    split at r
    ·rename_i e
     cases r;rw[e];exact n.clk
    ·exact n.Rk f g r
 ·have V:∀q,w[f]? =some q->({q with key:=y,val:=v}:MapEntry).key=q.key:=λq D=>by rw[A]at D;cases D;exact F.symm
  refine⟨w.modify f λe=>{e with key:=y,val:=v},m,?_,?_⟩
  ·simp[Instr.mapUpdate,auR p1,avv C,p2.MF _ _ _ s,E,A,F,p2.stay _ _ s,avV _ C,Result.andThen]
  ·rw[Q]
   refine⟨by simp[n.len],λi x B p l=>?_,λB t=>?_,ayw n.ky _ _ (λ_ _=>rfl) (λq _ D=>V q D),λi B t=>?_,by rw[n.clk];simp⟩
   rotate_left
   ·obtain⟨i,hi,rfl⟩:=avc t
    rw[axi,axM];split
    ·exact s
    ·exact n.isk _ d5
   ·rw[av7]at t
    split at t
    ·obtain⟨X,W,rfl⟩:=auY.1 t
     exact n.Rk i X W
    ·exact n.Rk i B t
   rw[av7]at l;by_cases G:f=i
   ·subst G
    have U:f<z.length:=(aus.1 O).1;rw[A]at l;simp at l;simp[U]at p;subst p;subst l;exact⟨rfl,N⟩
   ·rw[aun G]at l
    rw[axN G]at p;exact⟨(n.key i x B p l).1,M _ _ (n.key i x B p l).2⟩
section
variable{P:Fd}{st:St}{d:Nat}{dd:bX}{ty:EQ}{pos:String}{af:dm}{gd:fH}{K:St->Prop}
def Ga.HX{a:Act}(h:Ga Z F M st a o){i:Do (Id×AV)}(s:st.ev c=.mp m)(r:aZ st.h m=some (.mp j i)):
 ∃b e f,a.eval c=.map (some b)/\M.bW m=some b/\M.cP m=0/\o.heap[b]? =some (.map e f)/\MR (bN Z F M st.h o) j i e f:=by
 obtain⟨l,b,e,f,k,n,p⟩:=h.sr.ob _ _ r;have g:=h.ev c;rw[s]at g;generalize a.eval c=u at g;cases g with
 |mp q=>
  obtain rfl:=aut (q.symm.trans k);exact⟨_,e,f,rfl,k,l,n,p⟩
def RS.arW{k:Nat}{t u:TypeDesc}{es:Do (Id×AV)}(q:X[0]? =some b)(p:mapA P b=some (t,y))(r:st.ev c=.mp k)(n:aZ st.h k=some (.mp u es)):
 RS P ⟨dd,.call ⟨.builtin .len, #[c],X⟩,ty,pos,af,gd⟩ st (.v (.int .i64 es.length)):=λH v e a w h=>by
 obtain⟨F,A,i,g,B,C,D⟩:=h8 p;obtain⟨f,x,z,j,E,_,m,o⟩:=h.HX r n;refine⟨_,.v,λG s=>?_⟩;have l:=s.block m;simp[execOp,resolve,invoke,builtin,Builtin.len_,q,auR g,j,goInt,avv l,o.len]
def RS.lookup{t:EQ}{x y:If}{k:Nat}{q:TypeDesc}{z p:Id}{r:Do (Id×AV)}(M:mapA P t=some (q,z))(N:st.ev x=.mp k)(J:aZ st.h k=some (.mp q r))(O:∀(Rd:bF) E u,VR Rd E (st.ev y) u->u=p)(n:k4 q p):
 RS P ⟨dd,.lookup t x y false,ty,pos,af,gd⟩ st ((fj r p).getD (Mf z)):=λY R e a w h=>by
 obtain⟨X,V,i,v,g,H,I⟩:=h8 M;obtain⟨b,S,U,A,W,_,B,L⟩:=h.HX N J;have C:=O _ _ _ (h.ev y);rcases L.find (P:=P) n g with⟨f,D,s,_⟩|⟨j,m,c,f,D,s,F,G,_⟩
 ·refine⟨z,by rw[s];exact J0 z,λQ o=>?_⟩
  have l:=o.block B;simp[execOp,Instr.lookup,A,C,auR v,avv l,g.MF _ _ _ n,f,zeroValue,typeInfo,H,I]
 ·refine⟨m.val,by rw[F];exact G.cV,λQ o=>?_⟩
  have l:=o.block B;simp[execOp,Instr.lookup,A,C,auR v,avv l,g.MF _ _ _ n,f]
def RS.abx{z o:Id}{p:Do (Id×AV)}(Q:mapA P b=some (j,z))(R:st.ev c=.mp m)(N:aZ st.h m=some (.mp j p))(S:∀(Rd:bF) E u,VR Rd E (st.ev e) u->u=o)(v:k4 j o):
 RS P ⟨dd,.lookup b c e true,ty,pos,af,gd⟩ st (.tu [(fj p o).getD (Mf z),.v (.bool (fj p o).isSome)]):=λG y f a w h=>by
 obtain⟨Z,X,i,B,s,L,M⟩:=h8 Q;obtain⟨k,V,W,C,Y,_,D,O⟩:=h.HX R N;have F:=S _ _ _ (h.ev e);rcases O.find (P:=P) v s with⟨r,H,A,_⟩|⟨n,g,l,r,H,A,I,J,_⟩
 ·have q:LR (VR (bN G y f st.h w) (some f)) [(fj p o).getD (Mf z),.v (.bool (fj p o).isSome)] [z,.bool false]:=by
   rw[A];exact LR.cons (J0 z) (LR.cons .v LR.nil)
  refine⟨_,.tu _ q.1 q.2,λU x=>?_⟩;have t:=x.block D;simp[execOp,Instr.lookup,C,F,auR B,avv t,s.MF _ _ _ v,r,zeroValue,typeInfo,L,M]
 ·have q:LR (VR (bN G y f st.h w) (some f)) [(fj p o).getD (Mf z),.v (.bool (fj p o).isSome)] [g.val,.bool true]:=by
   rw[I];exact LR.cons J.cV (LR.cons .v LR.nil)
  refine⟨_,.tu _ q.1 q.2,λU x=>?_⟩;have t:=x.block D;simp[execOp,Instr.lookup,C,F,auR B,avv t,s.MF _ _ _ v,r]
def SS.makeMap{t:EQ}(L:mapA P t=some (j,y))(s:d<st.n)(k:K ⟨st.n,(d,.mp d)::c8 d st.t,(d,some (.mp j []))::bw d st.h⟩):SS P ⟨some d,.makeMap t none,ty,pos,af,gd⟩ st K:=by
 intro N H e a w next Q f B
 obtain⟨i,l⟩:=f.sr.kill d;have C:=YS w (.map #[] 0);obtain⟨F,n⟩:=i.uV d (some w.heap.size) (e.sv d) 0 (some (.mp j [])) (f.sr.ext.alloc (.map #[] 0)) (.inl ⟨ef d st.h,by have:=f.n.2;omega⟩) d5 (λb g _=>abn w _ b g)
  (λb g _=>by obtain rfl:=aut g;exact⟨f.sr.ext.hY (auq _),d5,.inr (auq _)⟩)
  (λb o u ob D g J r=>by
   have q:=(i.base _ _ _ D g).2;refine⟨by rw[awM (w:=w) (abn w _ b q)];exact r,λ_ p=>?_⟩;obtain rfl:=aut p;omega)
  (λRd I _ M E=>by
   obtain rfl:=aut E;exact⟨Env.b9,w.heap.size, #[],0,Env.bY,C,rfl,λc x m G=>by simp at G,λm A=>by simp at A,stamped_empty 0,λc m z=>by simp at z,rfl⟩)
 refine eu (v:=.map (some w.heap.size)) (w':=w.alloc (.map #[] 0)) (by simp[execOp,run_makeMap]) (B _ k _ _ _ ⟨by simpa[Act.put]using f.n,f.d,F,TR.put ?_ (by rw[f.n.1];exact s) (.mp Env.bY)⟩);exact(((f.tr.kill d).mono l).mono n).env d (dQ d st.t) (λ_ h=>Env.bG h) (λ_ h=>Env.de h)
def SS.mapUpdate{t:EQ}{x y v:If}{k:Nat}{n:TypeDesc}{z m:Id}{r:Do (Id×AV)}{h1:Hp}{c:AV}(ht:mapA P t=some (n,z))(hx:st.ev x=.mp k)(V:jK st.h (st.ev v)=some (h1,c))
 (A:aZ h1 k=some (.mp n r)) (hy:∀(Rd:bF) E u,VR Rd E (st.ev y) u->u=m) (U:k4 n m) (M:K ⟨st.n,st.t,(k,some (.mp n (oh r m c)))::h1⟩):SS P ⟨none,.mapUpdate t x y v,ty,pos,af,gd⟩ st K:=by
 intro J L e a w next Q s hn
 obtain⟨kt,et,i,p1,p2,p3,p4⟩:=h8 ht;obtain⟨C,a7,hv⟩:=rO s.sr (s.ev v) V;have l:=s.cP a7;have a6:(⟨st.n,st.t,h1⟩:St).ev x=.mp k:=by rw[<-hx];cases x<;>rfl
 obtain⟨b,a8,a9,O,p,W,I,Y⟩:=l.HX a6 A;have a5:=hy _ _ _ (s.ev y);have G:=l.sr.base _ _ _ A p;have a1:∃f g,(Instr.mapUpdate t (.map (some b)) m (a.eval v)).run P w=.ok () {w with heap:=w.heap.setIfInBounds b (.map f g)}/\∀Rd,(∀b o u,bN J L C h1 w b o u->Rd b o u)->MR Rd n (oh r m c) f g:=by
  obtain⟨f,g,hr,X⟩:=Hg.put (P:=P) Y (λ_ _ h=>h) U p1 p2 hv I;exact⟨f,g,hr,λRd D=>MR.mono D X⟩
 obtain⟨f,g,a3,Z⟩:=a1;have H:=axj (o':=.map f g) I;have R:Bx J {w with heap:=w.heap.setIfInBounds b (.map f g)}:=
  l.sr.ext.step rfl rfl rfl d5 λj q _=>H.2 j λe=>q (by rw[e];exact G.1)
 obtain⟨a4,N⟩:=l.sr.uV (w':={w with heap:=w.heap.setIfInBounds b (.map f g)}) k (some b) (C.sv k) 0 (some (.mp n (oh r m c))) R (.inr ⟨p.symm,rfl⟩) d5
  (λB F a0=>H.2 B λS=>a0 _ A (by rw[p];exact auA some S.symm))
  (λB F _=>by obtain rfl:=aut F;exact⟨G.1,by simpa using G.2,.inl ⟨_,A,p⟩⟩)
  (λB o' u' ob ho F ab aa=>by have:C.cP k=0:=W;omega)
  (λRd D _ ac a2=>by
   obtain rfl:=aut a2;exact⟨Env.b9,b,f,g,Env.bY,H.1,Z Rd D⟩)
 refine uf (w':={w with heap:=w.heap.setIfInBounds b (.map f g)}) ?_ (hn _ M _ _ _ ⟨l.n,l.d,a4,(l.tr.mono N).iD (λj=>by by_cases q:j=k<;>simp[Env.cO,q,p]) (λj=>by by_cases q:j=k<;>simp[Env.cO,q])⟩);simp[execOp,O,a5,a3]
def SS.aoj{L s:Nat}(F:Hh P b=some (k,L,s,G))(J:st.ev c=.sl E m h)(p:h=[]\/0<m)(B:d<st.n)
 (x:∀f:In,(f=true->h=[])->K ⟨st.n,(d,.v (.bool f))::st.t,st.h⟩):SS P ⟨some d,.binOp .eql b c (.const (.slice none 0 0)) H,ty,pos,af,gd⟩ st K:=by
 intro S N e a w next Q n j
 obtain⟨i,U,p2,_⟩:=cX F;have q:=n.ev c;rw[J]at q;obtain⟨g,l,M,z,I,O,C,_,_,_,y⟩:=q.mr;have A:g.isNone=true->h=[]:=λj=>by
  cases h with
  |nil=>rfl
  |cons r h=>
   have R:=I r d5;have p:0<m:=p.resolve_left d5;have D:M≠[]:=by
    rintro rfl;have:=C.1;simp at this;omega
   obtain⟨f,o,rfl,_⟩:=y D;cases j
 refine eu (v:=.bool g.isNone) (w':=w) ?_ (j _ (x g.isNone A) e _ _ (n.put B .v));have t:a.eval (.const (.slice none 0 0))=.slice none 0 0:=rfl;have u:(eqGuard .eql b c (.const (.slice none 0 0)) (.slice g h.length l) (.slice none 0 0)).run P w=.ok () w:=by simp[eqGuard]
 simp only[execOp,z,t,u,auF,ayx w b k g h.length l 0 0 p2,auG,auJ]
def RS.max2{o:hX}{x y:If}{k:IntKind}{m n:Int}(j:st.ev x=.v (.int k m))(l:st.ev y=.v (.int k n)):RS P ⟨dd,.call ⟨.builtin .max, #[x,y],o⟩,ty,pos,af,gd⟩ st (.v (.int k (if n>m then n else m))):=λr p e a w h=>by
 have b:=h.ev x;have c:=h.ev y;rw[j]at b;rw[l]at c;refine⟨_,.v,λq _=>?_⟩;have f:=b.bL;have g:=c.bL;have i:(#[x,y]:gp).map a.eval= #[.int k m,.int k n]:=by simp only[awI,auL,avy,f,g]
 simp only[execOp,resolve,i,auF,auJ,auG,invoke,builtin,Builtin.max_,awW,awX,Builtin.max2]
end
end
variable{S:AV}{D:IntKind}
section
variable{P:Fd}{st:St}{d:Nat}{dd:bX}{ty:EQ}{pos:String}{af:dm}{gd:fH}{K:St->Prop}
def SS.Eu{t:EQ}{n l:Nat}(k:BF P t=some G)(p:∀r∈h,r.length=l)(E:h.length=n)(m:h.flatten=G.map lS)(f:∀c∈h.flatten,c.one=true)(C:n<=maxLen)(A:d<st.n)
 (x:K ⟨st.n,(d,.pt d 0)::c8 d st.t,(d,some (.arr t l h true))::bw d st.h⟩):SS P ⟨some d,.alloc t,ty,pos,af,gd⟩ st K:=by
 intro L q e a w next Q b D
 obtain⟨F,y⟩:=b.sr.kill d;have B:=er p;have I:G.length=n*l:=by rw[<-E,<-B,m,auz]
 have o:LR (VR (bN L q e (bw d st.h) w) none) h.flatten G:=by
  rw[m];exact⟨d5,λj c u f s=>by
   rw[auM,s]at f;simp at f;subst f;exact Eb u⟩
 obtain⟨H,z⟩:=F.JT d t l n (rows:=h) (cur:=G.toArray) p f (by
  have:G.toArray.toList.take h.flatten.length=G:=by
   rw[o.1.symm];simp
  rw[this];exact o) bv C (by simp[I]) (ef d st.h) (by have:=b.n.2;omega) (w.alloc (.cells G.toArray t)) rfl (b.sr.ext.alloc _)
 unfold BF at k;obtain⟨i,g,k⟩:=awF.1 k;obtain⟨M,J,rfl⟩:=auY.1 k;refine eu (v:=.pointer (some ⟨w.heap.size,0,none⟩)) (w':=w.alloc (.cells M.cells.toList.toArray t)) ?_ (D _ x _ _ _ ⟨by simpa[Act.put]using b.n,b.d,H,TR.put ?_ (by rw[b.n.1];exact A) (.pt Env.bY)⟩)
 ·simp[execOp,Instr.alloc,zeroValue,typeInfo,g,J,newVar,newRow,newObj,Sem.run]
 ·exact(((b.tr.kill d).mono y).mono z).env d (dQ d st.t) (λ_ g=>Env.bG g) (λ_ g=>Env.de g)
def SS.xA{t E:EQ}{len f U:Nat}{parts:D8}{h':Hp}{aS cs:Do AV}{qs:Do (Nat×Do AV)}(ht:Hh P t=some (E,f,U,G))
 (hl:oa st.h (parts.toList.map λp=>st.ev p.2)=some (h',aS)) (hq:lG (parts.toList.map (·.1)) aS=some qs) (L:gD (λi=>some (i*f,f)) (replicate (len*f) .un) qs=some cs)
 (y:cs.all AV.one=true) (Z:len*f<=16777216) (a5:0<f) (hd:d<st.n) (X:K ⟨st.n,(d,.ow d)::c8 d st.t,(d,some (.arr E f (chunk f len cs) true))::bw d h'⟩):SS P ⟨some d,.buildSlice t len parts,ty,pos,af,gd⟩ st K:=by
 intro B q e a w next Q h hn
 obtain⟨i,zv,n,V,W,h5,rfl,_,_⟩:=cX ht;have Y:LR (VR (bN B q e st.h w) (some e)) (parts.toList.map λp=>st.ev p.2) (parts.toList.map λp=>a.eval p.2):=by
  refine⟨d5,λj c u y n=>?_⟩;rw[auM]at y n;obtain⟨x,R,rfl⟩:=auY.1 y;rw[R]at n;simp at n;subst n;exact h.ev x.2
 obtain⟨s,l,D⟩:=Aq _ _ _ _ _ _ h.sr Y hl;have o:=h.cP l;obtain⟨p1,p2⟩:=Au _ _ _ _ hq D d5;obtain⟨H,a0,a6⟩:=lH (P:=P) w t E len (parts.map λ(i,x)=>(i,a.eval x)) i zv n V W Z;have a4:LR (VR (bN B q s h' w) none) (replicate (len*i.size) .un) H.toList:=by
  refine⟨by simp[a0],λj c u b hu=>?_⟩;rw[awS]at b;split at b
  ·simp at b;subst b;exact .un
  ·cases b
 obtain⟨g,M,z⟩:=jJ (place:=λj=>some (j*i.size,i.size)) qs _ _ cs H a4 p1 p2 L;have a8:(parts.toList.map (·.1)).zip (parts.toList.map λp=>a.eval p.2)=(parts.map λ(i,x)=>(i,a.eval x)).toList:=by
  rw[av5,List.zip_map']
 rw[a8]at M;have N:cs.length=len*i.size:=by
  have R:=z.1;have:∀(A:Do (Nat×Do AV)) (c r:Do AV),gD (λj=>some (j*i.size,i.size)) c A=some r->r.length=c.length:=by
   intro A
   induction A with
   |nil=>intro c r m;simp only[gD,aur]at m;rw[m]
   |cons p A ih=>
    intro c r m;obtain⟨k,xs⟩:=p;simp only[gD]at m;split at m
    ·rw[ih _ _ m,lF]
    ·cases m
  rw[this _ _ _ L];simp
 obtain⟨F,S,k3⟩:=Ei i.size len cs N;obtain⟨a7,I⟩:=o.sr.kill d;have a2:len<=maxLen:=by
  unfold maxLen;have:len*1<=len*i.size:=awg _ a5;omega
 have a1:(chunk i.size len cs).flatten.length=g.toList.length:=by rw[F,z.1]
 have a3:LR (VR (bN B q s (bw d h') w) none) (chunk i.size len cs).flatten (g.toList.take (chunk i.size len cs).flatten.length):=by
  rw[a1,List.take_length,F];exact z.imp λ_ _ D=>D.mono I
 obtain⟨O,J⟩:=a7.JT d E i.size len (rows:=chunk i.size len cs) (cur:=g) k3 (λc b=>by rw[F]at b;exact auO.1 y c b) a3 (by rw[S];exact auq _) a2 (by have:=z.1;rw[N]at this;simpa using this) (ef d h') (by have:=h.n.2;omega) (w.alloc (.cells g E)) rfl (o.sr.ext.alloc _);rw[S]at O J;refine eu (v:=.slice (some ⟨w.heap.size,0,none⟩) len len) (w':=w.alloc (.cells g E)) ?_ (hn _ X _ _ _ ⟨by simpa[Act.put]using o.n,o.d,O,TR.put ?_ (by rw[o.n.1];exact hd) ?_⟩)
 ·simp only[execOp,auF,a6 g M,auG,auJ]
 ·exact(((o.tr.kill d).mono I).mono J).env d (dQ d st.t) (λ_ C=>Env.bG C) (λ_ C=>Env.de C)
 ·have:=VR.ow (Rd:=bN B q (s.cO d (some w.heap.size) (.slice (some ⟨w.heap.size,0,none⟩) len len) 0) ((d,some (.arr E i.size (chunk i.size len cs) true))::bw d h') (w.alloc (.cells g E))) (e:=s.cO d (some w.heap.size) (.slice (some ⟨w.heap.size,0,none⟩) len len) 0) (k:=d)
  rw[Env.dK]at this;exact this
def RS.imp(h:RS P Q st t)(c:∀Rd E u,VR Rd E t u->VR Rd E S u):RS P Q st S:=λj b e a w f=>by
 obtain⟨v,i,g⟩:=h j b e a w f;exact⟨v,c _ _ _ i,g⟩
def RS.RA{n a f:Nat}{i:Int}(l:arA P b=some (n,k,a))(r:st.ev e=.v (.int D i))(g:0<=i)(h:i<n)(p:st.ev c=.pt f 0):
 RS P ⟨dd,.indexAddr b c e,ty,pos,af,gd⟩ st (.pe f i.toNat a 0):=by
 refine RS.imp (RS.xn (q:=.pt f (0+i.toNat*a)) l r g h (by rw[p];rfl)) λRd k u m=>?_;cases m with
 |pt j=>
  have:=VR.pe (Rd:=Rd) (i:=i.toNat) (sz:=a) (o:=0) j;rw[avO]at this;rw[auZ];exact this
def RS.aln{p m:iB}{n L I l h:Nat}(Q:arA P b=some (n,k,L))(R:st.ev c=.pt I 0)(B:rH st 0 p=some l)(z:rH st n m=some h)(V:l<=h)(W:h<=n)(X:n<=maxLen):
 RS P ⟨dd,.slice b c p m none,ty,pos,af,gd⟩ st (.sw I l (h - l) L):=λw0 U e a w x=>by
 obtain⟨S,v,M,rfl⟩:=ue Q;have C:=x.ev c;rw[R]at C;generalize r:a.eval c=u at C;cases C with
 | @pt e f o g E=>
  have j:P.elem b=k:=by simp[Program.elem,v]
  have i:P.arrayLen b=n:=by simp[Program.arrayLen,v]
  have t:P.underlying b=some (.array (P.arrayLen b) (P.elem b)):=by rw[j,i];exact v
  have O:(p=none/\l=0)\/∃f,p.map a.eval=some (.int f (l:Int)):=by
   cases p with
   |none=>simp[rH]at B;exact .inl ⟨rfl,B.symm⟩
   |some y=>obtain⟨f,A⟩:=xr x B;exact .inr ⟨f,by simp[A]⟩
  have N:(m=none/\h=n)\/∃f,m.map a.eval=some (.int f (h:Int)):=by
   cases m with
   |none=>simp[rH]at z;exact .inl ⟨rfl,z.symm⟩
   |some y=>obtain⟨f,A⟩:=xr x z;exact .inr ⟨f,by simp[A]⟩
  refine⟨slicedAt ⟨g,0,none⟩ l h n S.size,?_,λq Z=>?_⟩
  ·unfold slicedAt
   by_cases D:n=l
   ·rw[auo D]
    exact VR.sw E (λY=>by omega) bv bv
   ·rw[aun D,ava,auZ]
    exact VR.sw E (λ_=>rfl) bv bv
  ·have s:=cL (P:=P) q M
   rcases O with⟨rfl,rfl⟩|⟨J,G⟩<;>rcases N with⟨rfl,rfl⟩|⟨H,F⟩
   ·simp[execOp,r,ay4 q b ⟨g,0,none⟩ t,j,i,s]
   ·simp only[execOp,r,awk,F,ay5 q b ⟨g,0,none⟩ t H h bv (by rw[i];omega),auF,j,s,i,auG,auB,auJ]
   ·simp only[execOp,r,awk,G,ay6 q b ⟨g,0,none⟩ t J l bv (by rw[i];omega),auF,j,s,i,auG,auB,auJ]
   ·simp only[execOp,r,awk,G,F,ay7 q b ⟨g,0,none⟩ t J H l h bv bv (by rw[i];omega),auF,j,s,i,auG,auB,auJ]
end
variable{B:Int}
section
variable{P:Fd}{st:St}{d:Nat}{dd:bX}{ty:EQ}{pos:String}{af:dm}{gd:fH}{K:St->Prop}
def RS.makeFunc{c:Fn}{f b:gp}:RS P ⟨dd,.makeFunc c f b,ty,pos,af,gd⟩ st (.cl c (f.toList.map st.ev) (b.toList.map st.ev)):=λn l e a w h=>by
 refine⟨.func c (f.map a.eval) (b.map a.eval),?_,λm _=>by simp[execOp,Instr.makeFunc]⟩;have j:=h.args f;have k:=h.args b;have:=VR.cl (fn:=c) _ _ j.1 k.1 j.2 k.2;have i:∀g:gp,(g.toList.map a.eval).toArray=g.map a.eval:=λg=>by rw[<-av5]
 rw[i,i]at this;exact this
def nnA:AV->In
 |.pt _ _=>true
 |.pe _ _ _ _=>true
 |.fp _=>true
 |.cl (.func _) _ _=>true
 |_=>false
def RS.nilCheck(j:nnA (st.ev c)=true):RS P ⟨dd,.nilCheck c,ty,pos,af,gd⟩ st (st.ev c):=λy p e a w h=>by
 refine⟨a.eval c,h.ev c,λx _=>?_⟩;have i:=h.ev c;generalize st.ev c=b at j i;generalize g:a.eval c=u at i;cases i with
 |pt l=>simp[execOp,g]
 |pe l=>simp[execOp,g]
 |fp o n m s=>simp[execOp,g]
 | @cl _ k r q o z n v m t=>
  cases k with
  |func f=>simp[execOp,g]
  |_=>simp[nnA]at j
 |_=>simp[nnA]at j
def OR.alo{Rd:bF}(c:OR Rd M o m (.arr b 1 h true)):OR Rd M o m (.nr b h.flatten):=by
 obtain⟨r,w,s,t⟩:=c;have g:h.flatten.length=h.length:=by rw[er r,avP]
 refine⟨s rfl,?_⟩;rcases t with⟨rfl,e,f⟩|⟨a,p,q,i,e,f,j,k,l,n,v⟩
 ·exact .inl ⟨rfl,e,f⟩
 ·exact .inr ⟨a,p,q,i,by rw[g];exact e,by rw[g];exact f,j,k,by rw[l,avP],n.imp λ_ _ u=>u.cV⟩
def rT(a:Do AV):(a.map λc=>[c]).flatten=a:=by
 induction a with
 |nil=>rfl
 |cons c a b=>simp[b]
def OR.aol{Rd:bF}(h:OR Rd M o m (.nr b i))(y:∀c∈i,c.fz=true)(w:∀c∈i,c.one=true)(wr:In):OR Rd M o m (.arr b 1 (i.map λc=>[c]) wr):=by
 obtain⟨k,x⟩:=h;refine⟨λr z=>?_,by rw[rT];exact w,λ_=>k,?_⟩
 ·obtain⟨c,_,rfl⟩:=auD.1 z
  rfl
 ·rcases x with⟨rfl,e,f⟩|⟨a,t,v,n,e,f,p,q,s,g⟩
  ·exact .inl ⟨rfl,e,f⟩
  ·refine .inr ⟨a,t,v,n,by rw[auz];exact e,by rw[auz];exact f,p,q,by rw[s,avP],?_,by rw[k];exact auS _⟩
   rw[rT];exact⟨g.1,λj c u l A=>(g.2 j c u l A).Ed (y c (auI l))⟩
def OR.arX{Rd:bF}{g cs':Do AV}(e:cs'.length=g.length)(A:∀(j:Nat) c f,g[j]? =some c->cs'[j]? =some f->∀u,VR Rd (some M) c u->VR Rd (some M) f u)(h:OR Rd M o m (.nr b g)):OR Rd M o m (.nr b cs'):=by
 obtain⟨y,z⟩:=h;refine⟨y,?_⟩;rcases z with⟨rfl,i,k⟩|⟨a,w,x,r,i,k,s,t,v,l⟩
 ·exact .inl ⟨avq e,i,k⟩
 ·refine .inr ⟨a,w,x,r,by rw[e];exact i,by rw[e];exact k,s,t,v,⟨by rw[e];exact l.1,λj f u n q=>?_⟩⟩
  rw[e]at q;have p:j<g.length:=by rw[<-e];exact(aus.1 n).1
  exact A j _ f (auy p) n u (l.2 j _ u (auy p) q)
def RS.Ug{cs:Do AV}{l:Nat}
 (E:Hh P b=some (k,1,m,G)) (F:st.ev c=.ow l) (y:aZ st.h l=some (.nr k cs)) (H:st.ev e=.v (.int D B)) (p:0<=B) (n:B<cs.length):
 RS P ⟨dd,.indexAddr b c e,ty,pos,af,gd⟩ st (.pe l B.toNat 1 0):=λZ L f a w h=>by
 obtain⟨I,zv,q,r,N,O,s,_,_⟩:=cX E;have j:=h.ev c;rw[F]at j;have i:=h.ev e;rw[H]at i;have i:=i.bL;obtain⟨_,A⟩:=h.sr.ob _ _ y;rcases A with⟨z,R,_⟩|⟨g,o,M,x,C,S,X,V,U,W⟩
 ·subst z;simp at n;omega
 have v:a.eval c=.slice (some ⟨g,0,none⟩) cs.length o:=by
  generalize Q:a.eval c=u at j;cases j with
  |ow=>exact C
 refine⟨.pointer (some ⟨g,B.toNat*1+0,none⟩),.pe x,λJ Y=>?_⟩;have t:(⟨g,0,none⟩:Addr).add (B.toNat*I.size)=⟨g,B.toNat,none⟩:=by rw[s,ava,auZ,avP]
 simp[execOp,Instr.indexAt,i,asIntOf,auR q,v,p,n,cL J r,t]
def SR.J1(l:SR Z F M n o){c:Nat}(k:aZ n m=some (.nr b i))(f:M.bW m=some c)(a:Nat)
 (W:VR (bN Z F M n o) (some M) t y):
 SR Z F (M.cO m (some c) (M.sv m) 0) ((m,some (.nr b (i.set a t)))::n) (o.setCell ⟨c,a,none⟩ y)/\
 ∀h v w,bN Z F M n o h v w->bN Z F (M.cO m (some c) (M.sv m) 0) ((m,some (.nr b (i.set a t)))::n) (o.setCell ⟨c,a,none⟩ y) h v w:=by
 obtain⟨N,U⟩:=l.ob _ _ k;have s:=l.base _ _ _ k f;rcases U with⟨Y,G,_⟩|⟨g,C,p,E,V,H,Q,J,I,A⟩
 ·rw[G]at f;cases f
 obtain rfl:g=c:=aut (E.symm.trans f);refine l.uV m (some g) (M.sv m) 0 _ (l.ext.setCell s.1 _) (.inr ⟨f.symm,rfl⟩) d5 (λh r R=>ayc o _ _ _ (λL=>R _ k (by rw[f];exact auA some L.symm))) (λh r _=>?_) (λh v w ob ho r O X=>?_) (λRd x _ a0 S=>?_)
 ·obtain rfl:=aut r
  exact⟨s.1,by simp;exact s.2,.inl ⟨_,k,f⟩⟩
 ·rw[N]at O;omega
 ·obtain rfl:=aut S
  have z:∀j,(M.cO m (some g) (M.sv m) 0).bW j=M.bW j:=λj=>by by_cases u:j=m<;>simp[Env.cO,u,f]
  have B:∀j,(M.cO m (some g) (M.sv m) 0).sv j=M.sv j:=λj=>by by_cases u:j=m<;>simp[Env.cO,u]
  refine⟨Env.b9,.inr ⟨g,C,p.setIfInBounds a y,Env.bY,by rw[Env.dK,avM];exact V,by rw[avM];exact H,Q,ayd o g a p b y J,by simpa using I,?_⟩⟩;rw[avM,awN,axE];have q:LR (VR Rd (some (M.cO m (some g) (M.sv m) 0))) i (p.toList.take i.length):=⟨A.1,λe t y q D=>((A.2 e t y q D).mono x).iD rfl z B⟩;exact q.set a ((W.mono x).iD rfl z B)
def SS.J1{t l:EQ}{x y:If}{k i:Nat}{n:Do AV}{c:AV}{D:In}(Y:st.ev x=.pe k i 1 0)(r:aZ st.h k=some (.nr l n))(ht:Rq P t=some (D,1))(O:cellsOf (st.ev y)=some [c])
 (E:c.one=true) (W:oR st.h (st.ev y)=true) (X:oR st.h c=true) (hi:i<n.length) (G:K ⟨st.n,st.t,(k,some (.nr l (n.set i c)))::st.h⟩):
 SS P ⟨none,.store t x y,ty,pos,af,gd⟩ st K:=by
 intro w0 C e a w next Q h V
 obtain⟨B,hu,s⟩:=pP O (h.ev y) (h.oR W);have p:=h.ev x;rw[Y]at p;generalize J:a.eval x=u at p;cases p with
 | @pe _ _ _ _ _ b g=>
  obtain⟨td,ad,h2,F,_,a2⟩:=ir ht;obtain⟨v,rfl⟩:∃v,B=[v]:=by
   match B,s.1 with
   |[v],_=>exact⟨v,rfl⟩
  have A:VR (bN w0 C e st.h w) (some e) c v:=s.2 0 c v rfl rfl;have ab:v.oneCell'=true:=A.jI E λe' k' R S=>by cases R;exact h.oR X k' S
  obtain⟨hs,H⟩:=h.sr.J1 r g i A;obtain⟨a8,Z⟩:=h.sr.ob _ _ r;rcases Z with⟨aa,N,_⟩|⟨f,a3,m,L,ac,a4,hm,q,a6,a9⟩
  ·rw[N]at g;cases g
  obtain rfl:=aut (L.symm.trans g);have M:∀j,(e.cO k (some f) (e.sv k) 0).bW j=e.bW j:=λj=>by by_cases o:j=k<;>simp[Env.cO,o,g]
  have a0:∀j,(e.cO k (some f) (e.sv k) 0).sv j=e.sv j:=λj=>by by_cases o:j=k<;>simp[Env.cO,o]
  refine uf (w':=w.setCell ⟨f,i,none⟩ v) ?_ (V _ G _ _ _ ⟨h.n,h.d,hs,(h.tr.mono H).iD M a0⟩);have U:i<m.size:=bv
  have a5:w.cell? ⟨f,i,none⟩=some m[i]:=by
   rw[avu w f i m l (0,0) q];simp[U]
  have a7:=awR w f i m l q;have a1:(store ⟨f,i,none⟩ v).run P w=.ok () (w.setCell ⟨f,i,none⟩ v):=by
   cases v<;>simp_all[store,Sem.run,Value.oneCell']
  have I:(⟨f,i*1+0,none⟩:Addr).add 0=⟨f,i,none⟩:=by rw[ava];simp
  have z:(storeCells ⟨f,i*1+0,none⟩ [v] 0).run P w=.ok () (w.setCell ⟨f,i,none⟩ v):=by
   simp only[storeCells,auF,I,a1,auG,auJ]
  simp only[avP,avO]at z;simp[execOp,Instr.storeAt,Instr.sureAddr,J,storeVar,hu,cL w F,<-a2,z]
end
variable{P:Do (Do AV)}{d:Nat}
inductive Sc where
 |i (k:IntKind)
 |b
 |sl (r:Sc)
 |pr (x y:Sc)
 |u
@[reducible] def Sc.c9:Sc->Type
 |.i _=>Int
 |.b=>In
 |.sl r=>Do r.c9
 |.pr x y=>x.c9×y.c9
 |.u=>Unit
def Sc.w:Sc->Nat
 |.pr x y=>x.w+y.w
 |.u=>0
 |.i _=>1
 |.b=>1
 |.sl _=>1
def Sc.eqP:(a c:Sc)->At (PLift (a=c))
 |.i k,.i l=>if h:k=l then some ⟨by rw[h]⟩else none
 |.b,.b=>some ⟨rfl⟩
 |.sl r,.sl s=>match Sc.eqP r s with
  |some ⟨h⟩=>some ⟨by rw[h]⟩
  |none=>none
 |.pr x y,.pr z w=>match Sc.eqP x z with
  |some ⟨h⟩=>match Sc.eqP y w with
   |some ⟨g⟩=>some ⟨by rw[h,g]⟩
   |none=>none
  |none=>none
 |.u,.u=>some ⟨rfl⟩
 |_,_=>none
def eD(a c:Sc)(x:a.c9):At c.c9:=match Sc.eqP a c with
 |some ⟨h⟩=>some (h▸x)
 |none=>none
def dp{a c:Sc}{x:a.c9}{y:c.c9}(h:eD a c x=some y):∃e:a=c,y=e▸x:=by
 unfold eD at h;split at h
 ·rename_i e _
  cases h;exact⟨e,rfl⟩
 ·cases h
def bJ:(s:Sc)->s.c9->Do AV
 |.i k,x=>[.v (.int k x)]
 |.b,x=>[.v (.bool x)]
 |.sl r,a=>[.sl false r.w (List.map (bJ r) a)]
 |.pr x y,p=>bJ x p.1++bJ y p.2
 |.u,_=>[]
def encS:(s:Sc)->s.c9->AV
 |.i k,x=>.v (.int k x)
 |.b,x=>.v (.bool x)
 |.sl r,a=>.sl false r.w (List.map (bJ r) a)
 |.pr _ _,_=>.un
 |.u,_=>.un
def eW:∀(s:Sc) (x:s.c9),(bJ s x).length=s.w
 |.i _,_=>rfl
 |.b,_=>rfl
 |.sl _,_=>rfl
 |.pr x y,p=>by rw[bJ,auE,eW x,eW y];rfl
 |.u,_=>rfl
def oY:∀(s:Sc) (x:s.c9),∀c∈bJ s x,c.one=true
 |.i _,_,c,h=>by simp only[bJ,auN]at h;subst h;rfl
 |.b,_,c,h=>by simp only[bJ,auN]at h;subst h;rfl
 |.sl _,_,c,h=>by simp only[bJ,auN]at h;subst h;rfl
 |.pr x y,p,c,h=>by
  simp only[bJ,auC]at h;exact h.elim (oY x _ c) (oY y _ c)
 |.u,_,c,h=>by simp[bJ]at h
def J2:∀(s:Sc) (x:s.c9),∀c∈bJ s x,c.fz=true
 |.i _,_,c,h=>by simp only[bJ,auN]at h;subst h;rfl
 |.b,_,c,h=>by simp only[bJ,auN]at h;subst h;rfl
 |.sl _,_,c,h=>by simp only[bJ,auN]at h;subst h;rfl
 |.pr x y,p,c,h=>by
  simp only[bJ,auC]at h;exact h.elim (J2 x _ c) (J2 y _ c)
 |.u,_,c,h=>by simp[bJ]at h
inductive EV where
 |un
 |sc (s:Sc) (x:s.c9)
 |nil
 |ts (r:Sc) (xs:List r.c9)
 |v (x:Value)
 |ow (k:Nat)
 |pt (k o:Nat)
 |pe (k:Nat) (i:Int) (sz o:Nat)
 |sw (k:Nat) (l n:Int) (sz:Nat)
 |mp (k:Nat)
 |fp (cs:List EV)
 |ag (cs:List EV)
 |tu (cs:List EV)
 |cl (fn:Fn) (fs cs:List EV)
mutual
def enc:EV->AV
 |.un=>.un
 |.sc s x=>encS s x
 |.nil=>.sl true 0 []
 |.ts r e=>.sl true r.w (List.map (bJ r) e)
 |.v x=>.v x
 |.ow k=>.ow k
 |.pt k o=>.pt k o
 |.pe k i b o=>.pe k i.toNat b o
 |.sw k l n b=>.sw k l.toNat n.toNat b
 |.mp k=>.mp k
 |.fp a=>.fp (bS a)
 |.ag a=>.ag (bS a)
 |.tu a=>.tu (bS a)
 |.cl c d a=>.cl c (bS d) (bS a)
def bS:Do EV->Do AV
 |[]=>[]
 |c::a=>enc c::bS a
end
def dV:∀a:Do EV,bS a=a.map enc
 |[]=>rfl
 |c::a=>by rw[bS,dV a];rfl
def k7(a ds:Do EV):bS (a++ds)=bS a++bS ds:=by rw[dV,dV,dV,avh]
def e_(a:Do EV):(bS a).length=a.length:=by rw[dV,auz]
def rU:(s:Sc)->s.c9->Do EV
 |.i k,x=>[.sc (.i k) x]
 |.b,x=>[.sc .b x]
 |.sl r,a=>[.sc (.sl r) a]
 |.pr x y,p=>rU x p.1++rU y p.2
 |.u,_=>[]
def gL:∀(s:Sc) (x:s.c9),bS (rU s x)=bJ s x
 |.i _,_=>rfl
 |.b,_=>rfl
 |.sl _,_=>rfl
 |.pr x y,p=>by rw[rU,k7,gL x,gL y];rfl
 |.u,_=>rfl
def jd:(s:Sc)->s.c9->EV
 |.pr x y,p=>.ag (rU (.pr x y) p)
 |.u,p=>.ag []
 |.i k,x=>.sc (.i k) x
 |.b,x=>.sc .b x
 |.sl r,x=>.sc (.sl r) x
def Wk(c a:AV):Prop:=∀(Rd:bF) E u,VR Rd E c u->VR Rd E a u
def Wk.refl(c:AV):Wk c c:=λ_ _ _ h=>h
inductive oj:List AV->List AV->Prop
 |nil:oj [] []
 |cons {c c':AV} {cs cs':List AV} (h:Wk c c') (hs:oj cs cs'):oj (c::cs) (c'::cs')
def oj.refl:∀a:Do AV,oj a a
 |[]=>.nil
 |c::a=>.cons (Wk.refl c) (oj.refl a)
def oj.append{a c d e:Do AV}(h:oj a c)(k:oj d e):oj (a++d) (c++e):=by
 induction h with
 |nil=>exact k
 |cons h f b=>exact .cons h b
def oj.len(h:oj i v):v.length=i.length:=by
 induction h with
 |nil=>rfl
 |cons _ _ a=>simp[a]
def oj.get{a c:Do AV}(h:oj a c):∀(j:Nat) x,a[j]? =some x->∃y,c[j]? =some y/\Wk x y:=by
 induction h with
 |nil=>intro j x b;simp at b
 |cons h e d=>
  intro j x b;cases j with
  |zero=>simp at b;subst b;exact⟨_,rfl,h⟩
  |succ j=>exact d j x (by simpa using b)
def oj.lr(h:oj i v){Rd:bF}(b:LR (VR Rd Y) i G):LR (VR Rd Y) v G:=by
 refine⟨by rw[b.1,h.len],λj y u c e=>?_⟩;have a:j<i.length:=by
  have:=(aus.1 c).1;rw[h.len]at this;exact this
 obtain⟨g,d,f⟩:=h.get j _ (auy a);rw[c]at d;cases d;exact f _ _ _ (b.2 j _ u (auy a) e)
def Wk.tight:Wk (.sl true d h) (.sl false d h):=by
 intro Rd E u a;cases a with
 |sl k j c i g b e l f=>exact .sl k j c i g b e d5 f
def Wk.empty(h:E=false):Wk (.sl true d []) (.sl E m []):=by
 intro Rd a u h;cases h with
 |sl i l j g f b c k e=>exact .sl i d5 d5 g f b c (by simp[*]) e
def Wk.RC:Wk (.sl E d []) (.sl E m []):=by
 intro Rd a u h;cases h with
 |sl j l k i g b c e f=>exact .sl j d5 d5 i g b c e f
def Wk.ag{a b:Do AV}(h:oj a b):Wk (.ag a) (.ag b):=by
 intro Rd E u d;obtain⟨e,rfl,c⟩:=VR.e5 d;have:=h.lr c;exact .ag e this.1 this.2
def Wk.tu{a b:Do AV}(h:oj a b):Wk (.tu a) (.tu b):=by
 intro Rd E u d;obtain⟨e,rfl,c⟩:=VR.D9 d;have:=h.lr c;exact .tu e this.1 this.2
def Wk.clM{c:Fn}{d e a b:Do AV}(h:oj d e)(k:oj a b):Wk (.cl c d a) (.cl c e b):=by
 intro Rd E u n;cases n with
 |cl o p l m i j=>
  have f:=h.lr ⟨l,i⟩;have g:=k.lr ⟨m,j⟩;exact .cl o p f.1 g.1 f.2 g.2
inductive pW:List (List AV)->List (List AV)->Prop
 |nil:pW [] []
 |cons {r r':List AV} {rs rs':List (List AV)} (h:oj r r') (hs:pW rs rs'):pW (r::rs) (r'::rs')
def pW.flat(a:pW h P):oj h.flatten P.flatten:=by
 induction a with
 |nil=>exact .nil
 |cons a c b=>simpa using a.append b
def pW.len(a:pW h P):P.length=h.length:=by
 induction a with
 |nil=>rfl
 |cons _ _ b=>simp[b]
def pW.wid(a:pW h P)(c:∀r∈h,r.length=d):∀r∈P,r.length=d:=by
 induction a with
 |nil=>simp
 |cons a g f=>
  intro r b;rcases auT.1 b with rfl|b
  ·rw[a.len];exact c _ d5
  ·exact f (λx e=>c x (by simp[e])) r b
def pW.refl:∀a:Do (Do AV),pW a a
 |[]=>.nil
 |c::a=>.cons (oj.refl c) (pW.refl a)
def Wk.rows(a:pW h P)(i:∀x∈P.flatten,x.one=true):Wk (.sl E d h) (.sl E d P):=by
 intro Rd b u n;cases n with
 |sl c o p l k e f g j=>
  have m:LR (VR Rd none) h.flatten c:=⟨l,k⟩;have:=a.flat.lr m;rw[<-a.len];exact .sl c (a.wid o) i this.1 this.2 (by rw[a.len];exact e) f (by rw[a.len];exact g) j
def HY(s:Sc):EV->At s.c9
 |.sc a x=>eD a s x
 |.nil=>match s with
  |.sl r=>some (show Do r.c9 from [])
  |_=>none
 |.ts r b=>eD (.sl r) s b
 |_=>none
def RD{s:Sc}{c:EV}{x:s.c9}(h:HY s c=some x):Wk (enc c) (encS s x):=by
 cases c with
 |sc b y=>
  obtain⟨rfl,rfl⟩:=dp h;exact Wk.refl _
 |nil=>
  cases s with
  |sl r=>
   have a:x=(show Do r.c9 from []):=(aut h).symm;rw[a];exact Wk.empty rfl
  |_=>simp[HY]at h
 |ts r d=>
  obtain⟨rfl,rfl⟩:=dp h;exact Wk.tight
 |_=>simp[HY]at h
variable{A:EV}{J:Sc}{C W:a_}
def dc:(s:Sc)->s.c9->bC
 |.i k,x=>[.int k x]
 |.b,x=>[.bool x]
 |.sl _,_=>[undef]
 |.pr x y,p=>dc x p.1++dc y p.2
 |.u,_=>[]
def pX:(s:Sc)->s.c9->Id
 |.i k,x=>.int k x
 |.b,x=>.bool x
 |.sl _,_=>undef
 |.pr x y,p=>.agg (dc (.pr x y) p).toArray
 |.u,p=>.agg (dc .u p).toArray
def Sc.key:Sc->In
 |.i _=>true
 |.b=>true
 |.sl _=>false
 |.pr x y=>x.key && y.key
 |.u=>true
def iP:(s:Sc)->s.c9->s.c9->In
 |.i _,x,y=> @decide (@Eq Int x y) (Int.instDecidableEq x y)
 |.b,x,y=> @BEq.beq In _ x y
 |.sl _,_,_=>false
 |.pr a c,x,y=>iP a x.1 y.1 && iP c x.2 y.2
 |.u,_,_=>true
def fy:∀(s:Sc) (x y:s.c9),s.key=true->(iP s x y=true↔x=y)
 |.i _,x,y,_=>by simp[iP]
 |.b,x,y,_=>by simp[iP]
 |.sl _,x,y,h=>by simp[Sc.key]at h
 |.pr a c,x,y,h=>by
  simp only[Sc.key,aup]at h;obtain⟨b,d⟩:=x;obtain⟨f,g⟩:=y;simp only[iP,aup,fy a _ _ h.1,fy c _ _ h.2];constructor
  ·rintro⟨rfl,rfl⟩;rfl
  ·intro e;cases e;exact⟨rfl,rfl⟩
 |.u,x,y,_=>by simp[iP]
def Ay:∀(s:Sc) (x y:s.c9),(dc s x).length=(dc s y).length
 |.i _,_,_=>rfl
 |.b,_,_=>rfl
 |.sl _,_,_=>rfl
 |.pr a c,x,y=>by simp[dc,Ay a x.1 y.1,Ay c x.2 y.2]
 |.u,_,_=>rfl
def Az:∀(s:Sc) (x y:s.c9),s.key=true->dc s x=dc s y->x=y
 |.i _,x,y,_,h=>by simp[dc]at h;exact h
 |.b,x,y,_,h=>by simp[dc]at h;exact h
 |.sl _,_,_,h,_=>by simp[Sc.key]at h
 |.pr a c,x,y,h,e=>by
  simp only[Sc.key,aup]at h;simp only[dc]at e;obtain⟨b,d⟩:=List.append_inj e (Ay a _ _);exact axk (Az a _ _ h.1 b) (Az c _ _ h.2 d)
 |.u,_,_,_,_=>rfl
def Ew(s:Sc)(x y:s.c9)(h:s.key=true)(e:pX s x=pX s y):x=y:=by
 cases s with
 |i k=>simp[pX]at e;exact e
 |b=>simp[pX]at e;exact e
 |sl r=>simp[Sc.key]at h
 |pr a c=>
  simp only[pX,Value.agg.injEq]at e;exact Az _ _ _ h (by simpa using e)
 |u=>rfl
def bO(s:Sc){β:Type}:Do (s.c9×β)->s.c9->At β
 |[],_=>none
 |p::a,x=>cond (iP s p.1 x) (some p.2) (bO s a x)
def dW(s:Sc){β:Type}:Do (s.c9×β)->s.c9->β->Do (s.c9×β)
 |[],x,v=>[(x,v)]
 |p::a,x,v=>cond (iP s p.1 x) ((p.1,v)::a) (p::dW s a x v)
def ni(a b:Sc)(c:Do (a.c9×b.c9)):Do (Id×AV):=c.map λp=>(pX a p.1,enc (jd b p.2))
def oZ{a d:Sc}(c:a.key=true):∀(b:Do (a.c9×d.c9)) (x:a.c9),fj (ni a d b) (pX a x)=(bO a b x).map λv=>enc (jd d v)
 |[],_=>rfl
 |p::b,x=>by
  rw[ni,auL,fj,bO];by_cases h:p.1=x
  ·rw[auo (by rw[h]),(fy a _ _ c).2 h];rfl
  ·rw[aun (λe=>h (Ew a _ _ c e))]
   have:iP a p.1 x=false:=by
    cases f:iP a p.1 x with
    |false=>rfl
    |true=>exact absurd ((fy a _ _ c).1 f) h
   rw[this];exact oZ c b x
def RE(g:J.key=true)(z:a)(b c:J.c9):∀d:Do (J.c9×a),(bO J (dW J d c ((bO J d c).getD z)) b).getD z=(bO J d b).getD z:=by
 have i:∀{x y:J.c9},x≠y->iP J x y=false:=λ{x y} h=>by
  cases j:iP J x y with
  |false=>rfl
  |true=>exact absurd ((fy J _ _ g).1 j) h
 have l:∀(v:a) (d:Do (J.c9×a)),v=(bO J d c).getD z->(bO J (dW J d c v) b).getD z=(bO J d b).getD z:=by
  intro v d
  induction d with
  |nil=>
   intro e;simp only[dW,bO];by_cases h:c=b
   ·rw[(fy J _ _ g).2 h,e];rfl
   ·rw[i h];rfl
  |cons p d k=>
   intro e;simp only[bO]at e;simp only[dW];by_cases h:p.1=c
   ·rw[(fy J _ _ g).2 h]at e⊢
    simp only[auQ,bO]at e⊢;by_cases f:p.1=b
    ·rw[(fy J _ _ g).2 f,e];rfl
    ·rw[i f];rfl
   ·rw[i h]at e⊢
    simp only[auv,bO]at e⊢;by_cases f:p.1=b
    ·rw[(fy J _ _ g).2 f];rfl
    ·rw[i f];exact k e
 exactλd=>l _ d rfl
def Ex{a b:Sc}(d:a.key=true):∀(c:Do (a.c9×b.c9)) (x:a.c9) (v:b.c9),oh (ni a b c) (pX a x) (enc (jd b v))=ni a b (dW a c x v)
 |[],_,_=>rfl
 |p::c,x,v=>by
  rw[ni,auL,oh,dW];by_cases h:p.1=x
  ·rw[auo (by rw[h]),(fy a _ _ d).2 h];rfl
  ·rw[aun (λe=>h (Ew a _ _ d e))]
   have:iP a p.1 x=false:=by
    cases g:iP a p.1 x with
    |false=>rfl
    |true=>exact absurd ((fy a _ _ d).1 g) h
   rw[this];have f:=Ex d c x v;rw[ni]at f;rw[f];rfl
inductive dO where
 |box (t:TypeId) (cs:List EV)
 |arr (t:TypeId) (r:Sc) (xs:List r.c9) (wr:Bool)
 |mp (d:TypeDesc) (kc vc:Sc) (es:List (kc.c9×vc.c9))
 |nr (t:TypeId) (r:Sc) (xs:List (List r.c9)) (ho:JS)
 |qr (t:TypeId) (ho:bX) (sz:Nat) (xs:aX)
def Y1(r:Sc):Do r.c9->AV
 |[]=>.sl true 0 []
 |x::l=>.sl false r.w (List.map (bJ r) (x::l))
def nrH:bX->AV
 |some j=>.ow j
 |none=>.un
def wB(r:Sc)(a:Do (Do r.c9)):JS->Do AV
 |none=>a.map (Y1 r)
 |some (i,p)=>(a.map (Y1 r)).set i.toNat (nrH p)
def qrA(a:Nat):bX->Int->AV
 |some k,i=>.pe k i.toNat a 0
 |none,_=>.un
abbrev eS:=Do (Nat×At dO)
def bU:dO->Ob
 |.box t c=>.box t (bS c)
 |.arr t r a wr=>.arr t r.w (List.map (bJ r) a) wr
 |.mp d f h e=>.mp d (ni f h e)
 |.nr t r a b=>.nr t (wB r a b)
 |.qr t b g a=>.nr t (a.map (qrA g b))
def bs:eS->Hp
 |[]=>[]
 |(k,o)::h=>(k,o.map bU)::bs h
def fI:Do (Nat×EV)->Do (Nat×AV)
 |[]=>[]
 |(i,c)::t=>(i,enc c)::fI t
def cy:Do (Nat×EV)->Nat->EV
 |[],_=>.un
 |(j,c)::t,i=>cond (beq i j) c (cy t i)
def bx:eS->Nat->At dO
 |[],_=>none
 |(j,o)::t,i=>cond (beq i j) o (bx t i)
def iQ(h:¬d=m):beq d m=false:=by
 cases a:beq d m with
 |false=>rfl
 |true=>exact absurd (auu a) h
def cc:∀(t:Do (Nat×EV)) (i:Nat),bD (fI t) i=enc (cy t i)
 |[],_=>rfl
 |(j,c)::t,i=>by
  simp only[fI,bD,cy];by_cases h:i=j
  ·rw[auo h,h,auX];rfl
  ·rw[aun h,(iQ h),cc t i];rfl
def cz:∀(t:eS) (i:Nat),aZ (bs t) i=(bx t i).map bU
 |[],_=>rfl
 |(j,c)::t,i=>by
  simp only[bs,aZ,bx];by_cases h:i=j
  ·rw[auo h,h,auX];rfl
  ·rw[aun h,(iQ h),cz t i];rfl
def fa:∀a c:eS,bs (a++c)=bs a++bs c
 |[],c=>rfl
 |(k,o)::a,c=>by rw[avH,bs,fa a c];rfl
def HC(b:Nat->At dO)(c:a_)(h:Hp):Prop:=
 ∀k,c.contains k=true->∀t r a wr,b k=some (.arr t r a wr)->∃d,aZ h k=some (.arr t r.w (List.map (bJ r) a) d)
def CS(b:Nat->At dO)(c:eS):Prop:=∀k o,(k,o)∈c->∃t r a wr,b k=some (.arr t r a wr)/\o=some (.arr t r a false)
def HZ:∀{a:eS} {k:Nat},a.any (λp=>p.1==k)=true->∃o,(k,o)∈a/\aZ (bs a) k=o.map bU
 |[],k,h=>by simp at h
 |(j,o)::a,k,h=>by
  by_cases b:k=j
  ·subst b;exact⟨o,d5,by simp[bs,aZ]⟩
  ·simp only[awd,avm]at h
   rcases h with h|h
   ·exact absurd (by simpa using h) (λe:j=k=>b e.symm)
   ·obtain⟨f,c,d⟩:=HZ h
    exact⟨f,avt _ c,by rw[bs,aZ,aun b];exact d⟩
def Da(a:eS)(k:Nat):(bs a).any (λp=>p.1==k)=a.any (λp=>p.1==k):=by
 induction a with
 |nil=>rfl
 |cons p a b=>obtain⟨j,o⟩:=p;simp only[bs,awd,b]
def HC.put{a:Nat->At dO}{h:Hp}{d:eS}(i:HC a C h)(m:CS a d)(n:∀k,W.contains k=true->C.contains k=true):HC a W (bs d++h):=by
 intro k j t r p wr c;rw[db,Da];split
 ·rename_i f
  obtain⟨o,l,g⟩:=HZ f;obtain⟨s,q,u,wr2,b,e⟩:=m _ _ l;rw[c]at b;cases b;subst e;exact⟨false,g⟩
 ·exact i k (n k j) t r p wr c
def nD(b:Nat->At dO)(s:Sc):EV->At (s.c9×eS×a_)
 |.ow k=>match b k with
  |some (.arr t r a wr)=>match eD (.sl r) s a with
   |some y=>some (y,[(k,some (.arr t r a false))],[k])
   |none=>none
  |_=>none
 |c=>match HY s c with
  |some y=>some (y,[],[])
  |none=>none
def ahM(s:Sc)(x:s.c9):(encS s x).fz=true:=by
 cases s<;>rfl
def abz{x:J.c9}(h:HY J A=some x):(enc A).fz=true:=by
 cases A with
 |sc a y=>exact ahM _ _
 |nil=>rfl
 |ts r b=>rfl
 |_=>simp[HY]at h
def Ey(a:t.fz=true):hZ n t=some (n,t):=by
 cases t<;>first|(simp[AV.fz]at a;done)|(simp only[hZ,a,au2])
def J3{r:Hp×AV}(a:hZ n t=some r):jK n t=some r:=by
 cases t<;>first|(simp[hZ,AV.fz]at a;done)|(rw[jK];exact a;intro b n;cases n)
def abA{d:Nat->At dO}{h:Hp}{x:J.c9}{e:eS}(a:nD d J A=some (x,e,C))(i:HC d W h)(j:∀k,C.contains k=true->W.contains k=true):
 (∃f,hZ h (enc A)=some (bs e++h,f)/\Wk f (encS J x))/\CS d e:=by
 unfold nD at a;split at a
 ·rename_i k
  split at a
  ·rename_i t r p wr g
   split at a
   ·rename_i y c
    simp only[aur,auK]at a;obtain⟨rfl,rfl,rfl⟩:=a;obtain⟨rfl,rfl⟩:=dp c;obtain⟨n,l⟩:=i k (j k d5) t r _ wr g;refine⟨⟨.sl false r.w (List.map (bJ r) _),?_,Wk.refl _⟩,?_⟩
    ·simp only[enc,hZ,l];rfl
    ·intro m o b
     simp only[auN,auK]at b;obtain⟨rfl,rfl⟩:=b;exact⟨t,r,_,wr,g,rfl⟩
   ·cases a
  ·cases a
 ·split at a
  ·rename_i y c
   simp only[aur,auK]at a;obtain⟨rfl,rfl,rfl⟩:=a;exact⟨⟨_,Ey (abz c),RD c⟩,λk o b=>by cases b⟩
  ·cases a
def iE(e:Nat->At dO):(s:Sc)->Do EV->At (s.c9×Do EV×eS×a_)
 |.pr x y,d=>match iE e x d with
  |some (a,h,os1,l)=>match iE e y h with
   |some (b,i,j,us2)=>some ((a,b),i,j++os1,l++us2)
   |none=>none
  |none=>none
 |.u,d=>some ((),d,[],[])
 |.i k,c::d=>match nD e (.i k) c with
  |some (a,f,g)=>some (a,d,f,g)
  |none=>none
 |.b,c::d=>match nD e .b c with
  |some (a,f,g)=>some (a,d,f,g)
  |none=>none
 |.sl r,c::d=>match nD e (.sl r) c with
  |some (a,f,g)=>some (a,d,f,g)
  |none=>none
 |_,[]=>none
def Hx{h f g:Hp}{d ds e ds1:Do AV}(a:iO h d=some (f,e))(b:iO f ds=some (g,ds1)):iO h (d++ds)=some (g,e++ds1):=by
 induction d generalizing h e with
 |nil=>simp only[iO,aur,auK]at a;obtain⟨rfl,rfl⟩:=a;simpa using b
 |cons c d k=>
  simp only[iO]at a;split at a
  ·rename_i n l i
   split at a
   ·rename_i o m j
    simp only[aur,auK]at a;obtain⟨rfl,rfl⟩:=a;rw[avH,iO,i];simp only[k j,avH]
   ·cases a
  ·cases a
def wC{h b:Hp}(a:hZ h t=some (b,S)):iO h [t]=some (b,[S]):=by
 simp only[iO,a]
def o0(b:Nat->At dO)(s:Sc):EV->At (s.c9×eS×a_)
 |.ag f=>match s with
  |.pr x y=>match iE b (.pr x y) f with
   |some (a,[],d,e)=>some (a,d,e)
   |_=>none
  |.u=>match iE b .u f with
   |some (a,[],d,e)=>some (a,d,e)
   |_=>none
  |_=>none
 |c=>match s with
  |.pr _ _=>none
  |.u=>none
  |.i k=>nD b (.i k) c
  |.b=>nD b .b c
  |.sl r=>nD b (.sl r) c
variable{U:Int}{u:St}{I:String}{L:iC}{K:dm}{O:fH}
structure bu where
 ty:Option (Bool×Nat):=none
 el:Option (TypeId×Nat×Nat×bC):=none
 kz:Bool:=false
 bo:Bool:=false
 ar:Option (Nat×TypeId×Nat):=none
 fd:List (Nat×Bool×Nat):=[]
 pl:Option (bC×bI):=none
 ze:Option bC:=none
 mp:Option (TypeDesc×Value):=none
 co:Option Sc:=none
 kv:Option (Sc×Sc):=none
 ik:Option IntKind:=none
 eq:Option Sc:=none
 sg:Bool:=false
 nf:Bool:=false
 zv:Option Value:=none
def abB(P:Fd)(t:EQ)(s:Sc):Prop:=s.key=true/\∀(x y:s.c9) (w:GE),(Op.equal t (.agg (dc s x).toArray) (.agg (dc s y).toArray)).run P w=.ok (iP s x y) w/\
 ∀c a b,(eqGuard c t a b (.agg (dc s x).toArray) (.agg (dc s y).toArray)).run P w=.ok () w
def zvT(P:Fd)(t:EQ):At Id:=(P.info? t).bind λi=>i.zero
structure gG(P:Program)(T:TypeId->bu):Prop where
 ty:∀t x,(T t).ty=some x->Rq P t=some x
 el:∀t x,(T t).el=some x->Hh P t=some x
 kz:∀t,(T t).kz=true->kz P t=true
 bo:∀t,(T t).bo=true->P.underlying t=some .bool
 ar:∀t x,(T t).ar=some x->arA P t=some x
 fd:∀t f x,(T t).fd[f]? =some x->fdA P t f=some x
 pl:∀t z l,(T t).pl=some (z,l)->∃f,plA P t=some (z,f)/\∀(i:Nat) p,l[i]? =some p->f i=some p
 ze:∀t x,(T t).ze=some x->BF P t=some x
 mp:∀t x,(T t).mp=some x->mapA P t=some x
 ik:∀t k,(T t).ik=some k->P.underlying t=some (.int k)
 eq:∀t s,(T t).eq=some s->abB P t s
 sg:∀t,(T t).sg=true->P.underlying t=some .string
 nf:∀t,(T t).nf=true->∃ms,P.underlying t=some (.interface ms)
 zv:∀t x,(T t).zv=some x->zvT P t=some x
def aW{α β:Type}(o:At α)(f:α->At β):At β:=match o with
 |some x=>f x
 |none=>none
def bq{α β:Type}{o:At α}{f:α->At β}{y:β}(h:aW o f=some y):∃x,o=some x/\f x=some y:=by
 cases o with
 |none=>cases h
 |some x=>exact⟨x,rfl,h⟩
def bA{x y:At a}{r:a}(h:cond E x y=some r):(E=true/\x=some r)\/(E=false/\y=some r):=by
 cases E with
 |true=>exact .inl ⟨rfl,h⟩
 |false=>exact .inr ⟨rfl,h⟩
def aY{x:At a}{r:a}(h:cond E x none=some r):E=true/\x=some r:=by
 cases E with
 |true=>exact⟨rfl,h⟩
 |false=>cases h
def cvE:Id->EV
 |.int k x=>.sc (.i k) x
 |.bool x=>.sc .b x
 |.slice none 0 0=>.nil
 |x=>.v x
def Uh(v:Id):enc (cvE v)=lS v:=by
 unfold cvE;split
 ·rfl
 ·rfl
 ·rfl
 ·rename_i b c a
  unfold lS;split
  ·exact absurd rfl (a)
  ·rfl
def MJ(z:bC):bS (z.map cvE)=z.map lS:=by
 rw[dV,avE];exact avi λv _=>Uh v
def eE(ev:Nat->EV):If->EV
 |.tmp i=>ev i
 |.const v=>cvE v
 |.global _=>.un
 |.func f=>.v (.func (.func f) #[] #[])
def Sk(ev:Nat->EV)(a:St):Prop:=∀i,ev i=.un\/bD a.t i=enc (ev i)
def Sk.x{ev:Nat->EV}{a:St}(h:Sk ev a)(x:If):eE ev x=.un\/a.ev x=enc (eE ev x):=by
 cases x with
 |tmp i=>exact h i
 |const v=>exact .inr (Uh v).symm
 |global g=>exact .inl rfl
 |func f=>exact .inr rfl
def Sk.is{ev:Nat->EV}(h:Sk ev u){x:If}(a:eE ev x=A)(b:A≠.un):u.ev x=enc A:=by
 rcases h.x x with h|h
 ·exact absurd (a.symm.trans h) b
 ·rw[h,a]
def Hk(hg:Nat->At dO)(b:a_)(a:St):Prop:=∀k,b.contains k=true->aZ a.h k=(hg k).map bU
def Hk.at{hg:Nat->At dO}(h:Hk hg C u)(a:C.contains d=true){o:dO}(b:hg d=some o):aZ u.h d=some (bU o):=by rw[h d a,b];rfl
def Hk.hc{hg:Nat->At dO}(h:Hk hg C u):HC hg C u.h:=λk a t r c wr b=>⟨wr,h.at a b⟩
inductive Fr where
 |no
 |one (d:Nat)
 |bW (B:Nat)
def Fr.p:Fr->Nat->In
 |.no=>ffB
 |.one d=>λk=>k==d
 |.bW B=>mg B
structure rV(fr:Fr)(st:St):Prop where
 t:∀x,(bD st.t x).f_ fr.p=true
 h:∀k ob,aZ st.h k=some ob->ob.f_ fr.p=true
 k:∀k,fr.p k=true->aZ st.h k=none
def FS(P:Fd)(o:Oper)(n:Nat)(ev:Nat->EV)(hg:Nat->At dO)(c:EV)(b:eS)(d:a_)(a:Fr):Prop:=
 ∀st:St,st.n=n->Sk ev st->Hk hg d st->rV a st->SS P o st λs=>s=⟨st.n,jM o.dst (enc c) st.t,bs b++st.h⟩
def Rm(P:Fd)(f:Op)(ev:Nat->EV)(hg:Nat->At dO)(c:EV)(i:a_):Prop:=
 ∀(a:St) (d:iC) (h:EQ) (g:String) (b:dm) (e:fH),Sk ev a->Hk hg i a->RS P ⟨d,f,h,g,b,e⟩ a (enc c)
def FS.read{P:Fd}{a:Op}{n:Nat}{ev:Nat->EV}{hg:Nat->At dO}{c:EV}{b:a_}{d:Nat}{l:EQ}{j:String}{e:dm}{f:fH}
 (h:Rm P a ev hg c b) (m:d<n):FS P ⟨some d,a,l,j,e,f⟩ n ev hg c [] b .no:=by
 intro k p i g o;exact SS.read (h k _ _ _ _ _ i g) bv rfl
def RF(a b:Int):q8:=if b=0 then none else some (a.tmod b)
def RG(a b:Int):q8:=if b=0 then none else some (a.tdiv b)
def akt:{f:BinOp->IntKind->Int->Int->Int//f=bits}:=Classical.choice ⟨⟨bits,rfl⟩⟩
def Ez(c:BinOp)(k:IntKind)(a b:Int):Int:=akt.1 c k a b
def J4(c:BinOp)(k:IntKind)(a b:Int):Ez c k a b=bits c k a b:=by rw[Ez,akt.2]
def ba(b:Do a)(i:Int):At a:=if 0<=i then b[i.toNat]? else none
def eJ{b:Do a}{x:a}(h:ba b B=some x):0<=B/\b[B.toNat]? =some x:=by
 unfold ba at h;split at h
 ·exact⟨by assumption,h⟩
 ·cases h
def nk(e:BinOp)(k:IntKind)(c b:Int)(d:EV->At a):At a:=
 match e with
 |.add=>d (.sc (.i k) (k.wrap (c+b)))
 |.sub=>d (.sc (.i k) (k.wrap (c - b)))
 |.mul=>d (.sc (.i k) (k.wrap (c*b)))
 |.rem=>aW (RF c b) λz=>d (.sc (.i k) z)
 |.quo=>aW (RG c b) λz=>d (.sc (.i k) (k.wrap z))
 |.lss=>d (.sc .b (decide (c<b)))
 |.leq=>d (.sc .b (decide (c<=b)))
 |.gtr=>d (.sc .b (decide (b<c)))
 |.geq=>d (.sc .b (decide (b<=c)))
 |.eql=>d (.sc .b (decide (c=b)))
 |.neq=>d (.sc .b (!decide (c=b)))
 |.and=>d (.sc (.i k) (Ez .and k c b))
 |.or=>d (.sc (.i k) (Ez .or k c b))
 |.xor=>d (.sc (.i k) (Ez .xor k c b))
 |.andNot=>d (.sc (.i k) (Ez .andNot k c b))
 |_=>none
def RH(k:IntKind)(a b:Int):q8:=if b<0 then none else some (k.wrap (a*2^(min b.toNat k.bits)))
def abC(k:IntKind)(a b:Int):q8:=if b<0 then none else some (a.fdiv (2^(min b.toNat k.bits)))
def RI:(s:Sc)->Do EV->At (s.c9×Do EV)
 |.pr x y,c=>match RI x c with
  |some (a,d)=>match RI y d with
   |some (b,e)=>some ((a,b),e)
   |none=>none
  |none=>none
 |.u,c=>some ((),c)
 |.i k,.sc s x::c=>match eD s (.i k) x with
  |some a=>some (a,c)
  |none=>none
 |.b,.sc s x::c=>match eD s .b x with
  |some a=>some (a,c)
  |none=>none
 |_,_=>none
def abD(T:EQ->bu)(e:BinOp)(t:EQ)(c b:EV)(k:EV->At a):At a:=
 match c with
 |.sc (.i d) x=>match b with
  |.sc (.i h) y=>match e with
   |.shl=>aW (RH d x y) λz=>k (.sc (.i d) z)
   |.shr=>aW (abC d x y) λz=>k (.sc (.i d) z)
   |_=>match eD (.i h) (.i d) y with
    |some z=>nk e d x z k
    |none=>none
  |_=>none
 |.ag f=>match b with
  |.ag g=>match(T t).eq with
   |some s=>match RI s f with
    |some (x,[])=>match RI s g with
     |some (y,[])=>match e with
      |.eql=>k (.sc .b (iP s x y))
      |.neq=>k (.sc .b (!(iP s x y)))
      |_=>none
     |_=>none
    |_=>none
   |none=>none
  |_=>none
 |.sc .b x=>match b with
  |.sc .b y=>match e with
   |.eql=>cond (T t).bo (k (.sc .b (@BEq.beq In _ x y))) none
   |.neq=>cond (T t).bo (k (.sc .b (!(@BEq.beq In _ x y)))) none
   |_=>none
  |_=>none
 |_=>none
def alq(d:UnOp)(b:EV)(k:EV->At a):At a:=
 match d with
 |.not=>match b with
  |.sc .b x=>k (.sc .b (!x))
  |_=>none
 |.neg=>match b with
  |.sc (.i c) x=>k (.sc (.i c) (c.wrap (0 - x)))
  |_=>none
 |_=>none
def abE(hg:Nat->At dO)(b:EV)(k:EV->a_->At a):At a:=
 match b with
 |.sc (.sl r) c=>k (.sc (.i .i64) ((@List.length r.c9 c:Nat):Int)) []
 |.ts r c=>k (.sc (.i .i64) ((@List.length r.c9 c:Nat):Int)) []
 |.nil=>k (.sc (.i .i64) ((0:Nat):Int)) []
 |.ow j=>match hg j with
  |some (.arr _ r c _)=>k (.sc (.i .i64) ((@List.length r.c9 c:Nat):Int)) [j]
  |some (.qr _ _ _ c)=>k (.sc (.i .i64) ((@List.length Int c:Nat):Int)) [j]
  |_=>none
 |_=>none
def RJ(T:EQ->bu)(hg:Nat->At dO)(t:EQ)(b:EV)(k:EV->a_->At a):At a:=
 match b with
 |.mp j=>match hg j with
  |some (.mp d e f c)=>match(T t).mp with
   |some _=>k (.sc (.i .i64) ((@List.length (e.c9×f.c9) c:Nat):Int)) [j]
   |none=>none
  |_=>none
 |_=>none
def mD:Do a->In
 |[]=>true
 |_::_=>false
def AA(h:(!(beq b D_))=true):b≠D_:=λe=>by rw[e,auX]at h;cases h
def Db(hg:Nat->At dO)(p:EV)(m:Nat)(k:Do EV->a_->At a):At a:=
 match p with
 |.fp c=>cond (Nat.ble m c.length) (k (c.take m) []) none
 |.pt j o=>match hg j with
  |some (.box t c)=>cond (!(beq t D_) && Nat.ble (o+m) c.length) (k ((c.drop o).take m) [j]) none
  |_=>none
 |.pe j i d o=>match hg j with
  |some (.arr _ r b _)=>cond (beq d r.w && Nat.ble (o+m) d) (aW (ba b i) λx=>k (((rU r x).drop o).take m) [j]) none
  |some (.nr _ r b e)=>cond (beq d 1 && beq o 0 && beq m 1) (match e with
   |none=>aW (ba b i) λx=>cond (mD x) (k [.nil] [j]) (k [.sc (.sl r) x] [j])
   |some (f,p)=>cond (decide (i.toNat=f.toNat)) (match p with
    |some q=>aW (ba b i) λ_=>k [.ow q] [j]
    |none=>none) (aW (ba b i) λx=>cond (mD x) (k [.nil] [j]) (k [.sc (.sl r) x] [j]))) none
  |some (.qr _ e s b)=>cond (beq d 1 && beq o 0 && beq m 1) (match e with
   |some q=>aW (ba b i) λx=>k [.pe q x s 0] [j]
   |none=>none) none
  |_=>none
 |_=>none
def Ui:In->Do EV->At EV
 |true,a=>some (.ag a)
 |false,[c]=>some c
 |false,_=>none
def RK(T:EQ->bu)(hg:Nat->At dO)(t:EQ)(p:EV)(k:EV->a_->At a):At a:=
 match(T t).ty with
 |some (b,m)=>Db hg p m λd e=>match Ui b d with
  |some c=>k c e
  |none=>none
 |none=>none
def J5:EV->Nat->At EV
 |.pt k o,f=>some (.pt k (o+f))
 |.pe k i b o,f=>some (.pe k i b (o+f))
 |.fp a,f=>some (.fp (a.drop f))
 |_,_=>none
def J6(T:EQ->bu)(hg:Nat->At dO)(t:EQ)(c b:EV)(k:EV->a_->At a):At a:=
 match b with
 |.sc (.i _) i=>match c with
  |.sc (.sl r) f=>match(T t).el with
   |some (_,d,_,_)=>cond (beq d r.w && Nat.blt 0 d) (aW (ba (show Do r.c9 from f) i) λx=>k (.fp (rU r x)) []) none
   |none=>none
  |.ts r f=>match(T t).el with
   |some (_,d,_,_)=>cond (beq d r.w && Nat.blt 0 d) (aW (ba f i) λx=>k (.fp (rU r x)) []) none
   |none=>none
  |.ow j=>match hg j with
   |some (.arr g r f _)=>match(T t).el with
    |some (e,d,_,_)=>cond (beq d r.w && beq e g) (aW (ba f i) λ_=>k (.pe j i d 0) [j]) none
    |none=>none
   |some (.nr g r f _)=>match(T t).el with
    |some (e,d,_,_)=>cond (beq d 1 && beq e g) (aW (ba f i) λ_=>k (.pe j i 1 0) [j]) none
    |none=>none
   |some (.qr g _ _ f)=>match(T t).el with
    |some (e,d,_,_)=>cond (beq d 1 && beq e g) (aW (ba f i) λ_=>k (.pe j i 1 0) [j]) none
    |none=>none
   |_=>none
  |.pt j o=>match(T t).ar with
   |some (n,_,d)=>match hg j with
    |some (.arr _ r f _)=>cond (beq o 0 && beq d r.w) (aW (ba (List.range n) i) λ_=>aW (ba f i) λ_=>k (.pe j i d 0) [j]) none
    |_=>aW (ba (List.range n) i) λm=>k (.pt j (o+m*d)) []
   |none=>none
  |.fp h=>match(T t).ar with
   |some (n,_,d)=>aW (ba (List.range n) i) λm=>k (.fp (h.drop (m*d))) []
   |none=>none
  |_=>none
 |_=>none
def abF(T:EQ->bu)(t:EQ)(g:Nat)(b:EV)(k:EV->a_->At a):At a:=
 match b with
 |.sc (.i _) i=>match YQ abm g with
  |some (c,l)=>match(T t).ar with
   |some (n,_,d)=>cond (beq d 1) (aW (ba (List.range n) i) λ_=>aW (ba l i) λx=>k (.fp [.sc (.i c) x]) []) none
   |none=>none
  |none=>none
 |_=>none
def J7(T:EQ->bu)(t:EQ)(f:Nat)(b:EV)(k:EV->At a):At a:=
 match b with
 |.ag e=>match(T t).fd[f]? with
  |some (d,true,m)=>cond (Nat.ble (d+m) e.length) (k (.ag ((e.drop d).take m))) none
  |some (d,false,m)=>cond (Nat.ble (d+m) e.length) (match e[d]? with
   |some c=>k c
   |none=>none) none
  |none=>none
 |_=>none
def om:EV->At (Do EV)
 |.ag a=>some a
 |c=>cond (AV.one (enc c)) (some [c]) none
def AB{d:Do EV}(h:om A=some d):cellsOf (enc A)=some (bS d):=by
 have f:∀a:AV,a.one=true->(∀l,a≠.ag l)->cellsOf a=some [a]:=by
  intro a b c;cases a<;>first|(simp[AV.one]at b;done)|(simp only[cellsOf,b,au2])
 cases A with
 |ag l=>simp only[om,aur]at h;subst h;rfl
 |_=>
  simp only[om]at h;obtain⟨b,c⟩:=aY h;simp only[aur]at c;subst c;refine f _ b λl e=>?_;rw[e]at b;simp[AV.one]at b
def owE(hg:Nat->At dO):EV->In
 |.ow k=>match hg k with
  |some (.arr ..)=>true
  |some (.nr ..)=>true
  |some (.qr ..)=>true
  |_=>false
 |_=>true
def owU:EV->a_
 |.ow k=>[k]
 |_=>[]
def J8{hg:Nat->At dO}(h:owE hg A=true)(b:Hk hg C u)(c:∀k,(owU A).contains k=true->C.contains k=true):oR u.h (enc A)=true:=by
 cases A with
 |ow k=>
  simp only[owE]at h;split at h
  ·rename_i t r d wr a
   have:=b.at (c k (by simp[owU])) a;simp only[enc,oR,this,bU]
  ·rename_i t r d e a
   have:=b.at (c k (by simp[owU])) a;simp only[enc,oR,this,bU]
  ·rename_i t e f d a
   have:=b.at (c k (by simp[owU])) a;simp only[enc,oR,this,bU]
  ·cases h
 |sc s x=>cases s<;>rfl
 |_=>rfl
def EA(ev:Nat->EV)(hg:Nat->At dO):xj->At (Do (Nat×Do EV)×a_)
 |[]=>some ([],[])
 |(i,x)::b=>match om (eE ev x)with
  |some a=>cond (owE hg (eE ev x)) (match EA ev hg b with
   |some (r,us)=>some ((i,a)::r,owU (eE ev x)++us)
   |none=>none) none
  |none=>none
def o2(a:Do EV)(o:Nat):Do EV->Do EV
 |[]=>a
 |x::b=>o2 (a.set o x) (o+1) b
def o5(a:Do EV)(o:Nat)(x:EV):bS (a.set o x)=(bS a).set o (enc x):=by
 rw[dV,dV,awl]
def pY:∀(b a:Do EV) (o:Nat),bS (o2 a o b)=setCells (bS a) o (bS b)
 |[],a,o=>rfl
 |x::b,a,o=>by rw[o2,pY b,o5];rfl
def MK(c:bI)(a:Do EV):Do (Nat×Do EV)->At (Do EV)
 |[]=>some a
 |(i,d)::e=>match c[i]? with
  |some (b,size)=>cond (beq d.length size && Nat.ble (b+size) a.length) (MK c (o2 a b d) e) none
  |none=>none
def wD{f g:Nat->Mi}(h:∀i p,f i=some p->g i=some p):∀{α:Type} {c:Do (Nat×Do α)} {b r:Do α},gD f b c=some r->gD g b c=some r
 |_,[],b,r,a=>a
 |_,(i,l)::c,b,r,a=>by
  simp only[gD]at a⊢;split at a
  ·cases a
  ·rename_i j k e
   rw[h _ _ e];simp only;split at a
   ·rename_i d
    rw[auo d];exact wD h a
   ·cases a
def ahO:Do (Nat×Do EV)->Do (Nat×Do AV)
 |[]=>[]
 |(i,x)::r=>(i,bS x)::ahO r
def ML{e:bI}:∀{f:Do (Nat×Do EV)} {a b:Do EV},MK e a f=some b->gD (λi=>e[i]?) (bS a) (ahO f)=some (bS b)
 |[],a,b,h=>by simp only[MK,aur]at h;subst h;rfl
 |(i,p)::n,a,b,h=>by
  simp only[MK]at h;split at h
  ·rename_i m o l
   obtain⟨c,k⟩:=aY h;simp only[aup]at c;have g:=auu c.1;have j:=auw c.2;have d:=ML k;rw[pY]at d;simp only[ahO,gD,l,e_];rw[auo ⟨g,j⟩];exact d
  ·cases h
def H2{ev:Nat->EV}{hg:Nat->At dO}{b:St}{p:a_}(o:Sk ev b)(m:Hk hg p b):∀{d:xj} {r:Do (Nat×Do EV)} {f:a_},EA ev hg d=some (r,f)->(∀k,f.contains k=true->p.contains k=true)->
 rN b d=some (ahO r)/\ug b d=true
 |[],r,f,h,j=>by simp only[EA,aur,auK]at h;obtain⟨rfl,rfl⟩:=h;exact⟨rfl,rfl⟩
 |(i,x)::d,r,f,h,j=>by
  simp only[EA]at h;split at h
  ·rename_i w g
   obtain⟨q,c⟩:=aY h;split at c
   ·rename_i y z s
    simp only[aur,auK]at c;obtain⟨rfl,rfl⟩:=c;obtain⟨u,v⟩:=H2 o m s (λk a=>j k (by simp at a⊢;exact .inr a));have t:b.ev x=enc (eE ev x):=o.is rfl (λe=>by rw[e]at g;simp[om,enc,AV.one]at g);have l:=AB g;have n:=J8 q m (λk a=>j k (by simp at a⊢;exact .inl a));rw[<-t]at l n;refine⟨?_,?_⟩
    ·simp only[rN,l,u];rfl
    ·simp only[ug,n,v];rfl
   ·cases c
  ·cases h
def J9(T:EQ->bu)(ev:Nat->EV)(hg:Nat->At dO)(t:EQ)(c:xj)(k:EV->a_->At a):At a:=
 match(T t).pl with
 |some (z,l)=>match EA ev hg c with
  |some (d,e)=>match MK l (z.map cvE) d with
   |some b=>k (.ag b) e
   |none=>none
  |none=>none
 |none=>none
section
variable{P:Fd}{T:EQ->bu}{ev:Nat->EV}{hg:Nat->At dO}
def RS.arZ{a d:In}(f:P.underlying k=some .bool)(g:u.ev c=.v (.bool a))(h:u.ev e=.v (.bool d)):
 RS P ⟨L,.binOp .neq k c e H,b,I,K,O⟩ u (.v (.bool (!(a==d)))):=
 RS.bin g h (λw=>by simp[eqGuard]) λw=>run_neq_bool w k a d f
def RS.Uj{a:BinOp}(g:a=.and\/a=.or\/a=.xor\/a=.andNot)(d:u.ev c=.v (.int D B))(f:u.ev e=.v (.int D U)):
 RS P ⟨L,.binOp a k c e H,b,I,K,O⟩ u (.v (.int D (Ez a D B U))):=by
 rw[J4];rcases g with rfl|rfl|rfl|rfl
 ·exact RS.bin d f (λw=>by simp[eqGuard]) λw=>by simp[binOp_and,intBits_and]
 ·exact RS.bin d f (λw=>by simp[eqGuard]) λw=>by simp[binOp_or,intBits_or]
 ·exact RS.bin d f (λw=>by simp[eqGuard]) λw=>by simp[binOp_xor,intBits_xor]
 ·exact RS.bin d f (λw=>by simp[eqGuard]) λw=>by simp[binOp_andNot,intBits_andNot]
def RS.shl{d l:IntKind}{a f z:Int}(g:RH d a f=some z)(i:u.ev c=.v (.int d a))(j:u.ev e=.v (.int l f)):
 RS P ⟨L,.binOp .shl k c e H,b,I,K,O⟩ u (.v (.int d z)):=by
 unfold RH at g;split at g
 ·cases g
 ·rename_i h
  cases g;exact RS.bin i j (λw=>by simp[eqGuard]) λw=>by simp[binOp_shl,Op.shift,h]
def RS.shr{d l:IntKind}{a f z:Int}(g:abC d a f=some z)(i:u.ev c=.v (.int d a))(j:u.ev e=.v (.int l f)):
 RS P ⟨L,.binOp .shr k c e H,b,I,K,O⟩ u (.v (.int d z)):=by
 unfold abC at g;split at g
 ·cases g
 ·rename_i h
  cases g;exact RS.bin i j (λw=>by simp[eqGuard]) λw=>by simp[binOp_shr,Op.shift,h]
def RS.xw(h:RS P Q u t)(f:Wk t S):RS P Q u S:=λg b e a w hg=>by
 obtain⟨v,c,d⟩:=h g b e a w hg;exact⟨v,f _ _ _ c,d⟩
def Wk.un{c:AV}:Wk c .un:=λ_ _ _ _=>.un
def RS.conv{a d n:IntKind}(l:P.underlying k=some (.int n))(g:P.underlying H=some (.int d))(m:u.ev c=.v (.int a B)):
 RS P ⟨L,.convert k H c,b,I,K,O⟩ u (.v (.int d (d.wrap B))):=λr p e q w h=>by
 have f:=h.ev c;rw[m]at f;refine⟨_,.v,λo _=>?_⟩;have j:=f.bL;have i:P.intKind H=d:=by simp[Program.intKind,g]
 have:=run_convert_int o k H a B (by rw[l];rfl) (by rw[i];exact g);rw[i]at this;simp only[execOp,j,auF,this,auG,auJ]
def RS.neg(f:u.ev c=.v (.int D B)):
 RS P ⟨L,.unOp .neg k c,b,I,K,O⟩ u (.v (.int D (D.wrap (0 - B)))):=λl g e i w h=>by
 have a:=h.ev c;rw[f]at a;refine⟨_,.v,λj _=>?_⟩;have d:=a.bL;simp only[execOp,d,unary_neg,Op.intArith,auF,auJ,auG]
def ahP{w:BinOp}{x:EV->At a}{r:a}(h:nk w D B U x=some r)(y:eE ev c=.sc (.i D) B)(A:eE ev e=.sc (.i D) U):
 ∃g,Rm P (.binOp w b c e k) ev hg g []/\x g=some r:=by
 have m:∀i,Sk ev i->i.ev c=.v (.int D B):=λi j=>j.is y d9;have n:∀i,Sk ev i->i.ev e=.v (.int D U):=λi j=>j.is A d9;cases w with
 |add=>exact⟨_,λi d q p l o j s=>RS.add (m i j) (n i j),h⟩
 |sub=>exact⟨_,λi d q p l o j s=>RS.sub (m i j) (n i j),h⟩
 |mul=>exact⟨_,λi d q p l o j s=>RS.mul (m i j) (n i j),h⟩
 |lss=>exact⟨_,λi d q p l o j s=>RS.lss (m i j) (n i j),h⟩
 |leq=>exact⟨_,λi d q p l o j s=>RS.leq (m i j) (n i j),h⟩
 |gtr=>exact⟨_,λi d q p l o j s=>RS.gtr (m i j) (n i j),h⟩
 |geq=>exact⟨_,λi d q p l o j s=>RS.geq (m i j) (n i j),h⟩
 |eql=>exact⟨_,λi d q p l o j s=>RS.eql (m i j) (n i j),h⟩
 |and=>exact⟨_,λi d q p l o j s=>RS.Uj (.inl rfl) (m i j) (n i j),h⟩
 |or=>exact⟨_,λi d q p l o j s=>RS.Uj (.inr (.inl rfl)) (m i j) (n i j),h⟩
 |xor=>exact⟨_,λi d q p l o j s=>RS.Uj (.inr (.inr (.inl rfl))) (m i j) (n i j),h⟩
 |andNot=>exact⟨_,λi d q p l o j s=>RS.Uj (.inr (.inr (.inr rfl))) (m i j) (n i j),h⟩
 |neq=>
  refine⟨_,λi d q p l o j s=>?_,h⟩;have:=RS.neq (P:=P) (d:=d) (ty:=q) (pos:=p) (af:=l) (gd:=o) (t:=b) (t2:=k) (m i j) (n i j);rw[decide_not]at this;exact this
 |rem=>
  simp only[nk]at h;obtain⟨z,t,v⟩:=bq h;unfold RF at t;split at t
  ·cases t
  ·rename_i u
   cases t;exact⟨_,λi d q p l o j s=>RS.rem (m i j) (n i j) u,v⟩
 |quo=>
  simp only[nk]at h;obtain⟨z,t,v⟩:=bq h;unfold RG at t;split at t
  ·cases t
  ·rename_i u
   cases t;exact⟨_,λi d q p l o j s=>RS.quo (m i j) (n i j) u,v⟩
 |_=>cases h
def AD:∀(s:Sc) {b rest:Do EV} {x:s.c9},RI s b=some (x,rest)->s.key=true->∃f,b=f++rest/\bS f=bJ s x
 |.pr a c,b,rest,x,h,d=>by
  simp only[Sc.key,aup]at d;simp only[RI]at h;split at h
  ·rename_i o m g
   split at h
   ·rename_i vb n i
    simp only[aur,auK]at h;obtain⟨rfl,rfl⟩:=h;obtain⟨p,rfl,j⟩:=AD a g d.1;obtain⟨q,rfl,l⟩:=AD c i d.2;exact⟨p++q,d5,by rw[k7,j,l];rfl⟩
   ·cases h
  ·cases h
 |.u,b,rest,x,h,d=>by
  simp only[RI,aur,auK]at h;obtain⟨-,rfl⟩:=h;exact⟨[],rfl,rfl⟩
 |.i k,b,rest,x,h,d=>by
  cases b with
  |nil=>simp[RI]at h
  |cons c b=>
   cases c with
   |sc s y=>
    simp only[RI]at h;split at h
    ·rename_i z e
     simp only[aur,auK]at h;obtain⟨rfl,rfl⟩:=h;obtain⟨rfl,rfl⟩:=dp e;exact⟨[_],rfl,rfl⟩
    ·cases h
   |_=>simp[RI]at h
 |.b,b,rest,x,h,d=>by
  cases b with
  |nil=>simp[RI]at h
  |cons c b=>
   cases c with
   |sc s y=>
    simp only[RI]at h;split at h
    ·rename_i z e
     simp only[aur,auK]at h;obtain⟨rfl,rfl⟩:=h;obtain⟨rfl,rfl⟩:=dp e;exact⟨[_],rfl,rfl⟩
    ·cases h
   |_=>simp[RI]at h
 |.sl r,b,rest,x,h,d=>by simp[Sc.key]at d
def LR.dc{Rd:bF}{E:At Env}:∀(s:Sc) (x:s.c9) {b:bC},s.key=true->LR (VR Rd E) (bJ s x) b->b=dc s x
 |.i k,x,b,_,h=>by
  obtain⟨d,e⟩:=h
  match b,d with
  |[u],_=>exact auA (λz=>[z]) (e 0 _ _ rfl rfl).bL
 |.b,x,b,_,h=>by
  obtain⟨d,e⟩:=h
  match b,d with
  |[u],_=>exact auA (λz=>[z]) (e 0 _ _ rfl rfl).bL
 |.u,x,b,_,h=>avq h.1
 |.sl r,x,b,f,_=>by simp[Sc.key]at f
 |.pr a c,x,b,f,h=>by
  simp only[Sc.key,aup]at f;have j:b.length=(bJ a x.1).length+(bJ c x.2).length:=by rw[h.1];simp[bJ]
  have d:=h.take (bJ a x.1).length;have e:=h.drop (bJ a x.1).length;simp only[bJ,awr,List.drop_left]at d e;have g:=LR.dc a x.1 f.1 d;have i:=LR.dc c x.2 f.2 e;rw[<-awf (bJ a x.1).length b,g,i];rfl
def RS.aku{x y:J.c9}(d:abB P k J)(o:u.ev c=.ag (bJ J x))(p:u.ev e=.ag (bJ J y)):
 RS P ⟨L,.binOp .eql k c e H,b,I,K,O⟩ u (.v (.bool (iP J x y)))/\RS P ⟨L,.binOp .neq k c e H,b,I,K,O⟩ u (.v (.bool (!(iP J x y)))):=by
 refine⟨λv m a n w h=>?_,λv m a n w h=>?_⟩
 all_goals
  have i:=h.ev c;have j:=h.ev e;rw[o]at i;rw[p]at j;obtain⟨z,f,q⟩:=VR.e5 i;obtain⟨A,g,r⟩:=VR.e5 j;rw[LR.dc J x d.1 q]at f;rw[LR.dc J y d.1 r]at g;refine⟨_,.v,λl _=>?_⟩;have s:=(d.2 x y l).1;have t:=(d.2 x y l).2;simp only[execOp,f,g,auF,t,auG,binOp,s,auJ]
def abG(C:gG P T){E:BinOp}{i:EV->At a}{r:a}(h:abD T E b (eE ev c) (eE ev e) i=some r):
 ∃g,Rm P (.binOp E b c e k) ev hg g []/\i g=some r:=by
 unfold abD at h;split at h
 ·rename_i Q j n
  split at h
  ·rename_i R l o
   split at h
   ·obtain⟨z,u,D⟩:=bq h
    exact⟨_,λw d x v p q m t=>RS.shl u (m.is n d9) (m.is o d9),D⟩
   ·obtain⟨z,u,D⟩:=bq h
    exact⟨_,λw d x v p q m t=>RS.shr u (m.is n d9) (m.is o d9),D⟩
   ·split at h
    ·rename_i z u
     obtain⟨f,rfl⟩:=dp u;cases f;exact ahP h n o
    ·cases h
  ·cases h
 ·rename_i N n
  split at h
  ·rename_i O o
   split at h
   ·rename_i s m
    split at h
    ·rename_i S J
     split at h
     ·rename_i U K
      have y:=C.eq _ _ m;obtain⟨L,F,H⟩:=AD s J y.1;obtain⟨M,G,I⟩:=AD s K y.1;simp only[au_]at F G;subst F G;split at h
      ·refine⟨_,λw d x v p q m t=>(RS.aku y ?_ ?_).1,h⟩
       ·rw[m.is n d9,enc,H]
       ·rw[m.is o d9,enc,I]
      ·refine⟨_,λw d x v p q m t=>(RS.aku y ?_ ?_).2,h⟩
       ·rw[m.is n d9,enc,H]
       ·rw[m.is o d9,enc,I]
      ·cases h
     ·cases h
    ·cases h
   ·cases h
  ·cases h
 ·rename_i j n
  split at h
  ·rename_i l o
   split at h
   ·obtain⟨A,B⟩:=aY h
    exact⟨_,λw d x v p q m t=>RS.arT (C.bo _ A) (m.is n d9) (m.is o d9),B⟩
   ·obtain⟨A,B⟩:=aY h
    exact⟨_,λw d x v p q m t=>RS.arZ (C.bo _ A) (m.is n d9) (m.is o d9),B⟩
   ·cases h
  ·cases h
 ·cases h
def ahQ{l:UnOp}{k:EV->At a}{r:a}(h:alq l (eE ev c) k=some r):∃f,Rm P (.unOp l b c) ev hg f []/\k f=some r:=by
 unfold alq at h;split at h
 ·split at h
  ·rename_i g i
   exact⟨_,λq d s p m n j o=>RS.not (j.is i d8),h⟩
  ·cases h
 ·split at h
  ·rename_i t g i
   exact⟨_,λq d s p m n j o=>RS.neg (j.is i d8),h⟩
  ·cases h
 ·cases h
def abH(m:gG P T){k:EV->a_->At a}{r:a}(o:X[0]? =some b)(n:(T b).kz=true)(h:abE hg (eE ev c) k=some r):
 ∃f y,Rm P (.call ⟨.builtin .len, #[c],X⟩) ev hg f y/\k f y=some r:=by
 unfold abE at h;split at h
 ·rename_i x w i
  refine⟨_,_,λt d u s p q g l=>RS.len (m.kz _ n) o ?_,h⟩;rw[g.is i d8];simp only[enc,encS,rG,auz]
 ·rename_i x w i
  refine⟨_,_,λt d u s p q g l=>RS.len (m.kz _ n) o ?_,h⟩;rw[g.is i d8];simp only[enc,encS,rG,auz]
 ·rename_i i
  refine⟨_,_,λt d u s p q g l=>RS.len (m.kz _ n) o ?_,h⟩;rw[g.is i d8];rfl
 ·rename_i j i
  split at h
  ·rename_i z x w wr v
   refine⟨_,_,λt d u s p q g l=>RS.len (m.kz _ n) o ?_,h⟩;rw[g.is i d8];simp only[enc,rG,l.at d5 v,bU,auz]
  ·rename_i z A B w v
   refine⟨_,_,λt d u s p q g l=>RS.len (m.kz _ n) o ?_,h⟩;rw[g.is i d8];simp only[enc,rG,l.at d5 v,bU,auz]
  ·cases h
 ·cases h
def Y2(q:gG P T){k:EV->a_->At a}{r:a}(w:X[0]? =some b)(h:RJ T hg b (eE ev c) k=some r):
 ∃f l,Rm P (.call ⟨.builtin .len, #[c],X⟩) ev hg f l/\k f l=some r:=by
 unfold RJ at h;split at h
 ·rename_i j x
  split at h
  ·rename_i d i m g t
   split at h
   ·rename_i tz u
    obtain⟨C,z⟩:=tz;refine⟨_,_,λA o B y n p v s=>?_,h⟩;have:=RS.arW (P:=P) (st:=A) (dd:=o) (ty:=B) (pos:=y) (af:=n) (gd:=p) (k:=j) (es:=ni i m g) w (q.mp _ _ u) (v.is x d8) (s.at d5 t);rw[show(ni i m g).length=g.length by simp[ni]]at this;exact this
   ·cases h
  ·cases h
 ·cases h
def o6(a:Do EV)(m:Nat):bS (a.take m)=(bS a).take m:=by rw[dV,dV,awJ]
def mh(a:Do EV)(m:Nat):bS (a.drop m)=(bS a).drop m:=by rw[dV,dV,awZ]
def RL{k:Do EV->a_->At a}{r:a}(h:Db hg A m k=some r):
 ∃v u,(∀f g,(∀x,u.contains x=true->g.contains x=true)->Hk hg g f->lK f (enc A) m=some (bS v))/\k v u=some r:=by
 unfold Db at h;split at h
 ·rename_i v
  obtain⟨b,e⟩:=aY h;refine⟨_,_,λf g p l=>?_,e⟩;simp only[enc,lK,e_];rw[auo (auw b),o6]
 ·rename_i j o
  split at h
  ·rename_i t v w
   obtain⟨b,e⟩:=aY h;refine⟨_,_,λf g p l=>?_,e⟩;simp only[enc,lK,l.at (p j d5) w,bU,e_];simp only[aup]at b;rw[auo ⟨AA b.1,auw b.2⟩,o6,mh]
  ·cases h
 ·rename_i j i K o
  split at h
  ·rename_i t C z wr w
   obtain⟨b,e⟩:=aY h;obtain⟨x,d,n⟩:=bq e;simp only[aup]at b;have D:=auu b.1;have E:=auw b.2;obtain⟨H,d⟩:=eJ d;refine⟨_,_,λf g p l=>?_,n⟩;simp only[enc,lK,l.at (p j d5) w,bU,auM,d,avz,eW];rw[auo ⟨bv,D.symm⟩,o6,mh,gL]
  ·rename_i t C z I w
   obtain⟨b,e⟩:=aY h;simp only[aup]at b;have D:=auu b.1.1;have E:=auu b.1.2;have G:=auu b.2;have look:∀{u:a_} {c:EV},(wB C z I)[i.toNat]? =some (enc c)->u.contains j=true->∀f g,(∀x,u.contains x=true->g.contains x=true)->Hk hg g f->lK f (enc (.pe j i K o)) m=some (bS [c]):=λF N f g p l=>by
    simp only[enc,lK,l.at (p j N) w,bU,F];rw[auo ⟨D,E,G⟩];rfl
   have plain:∀{k:Do EV->a_->At a},(∀x,z[i.toNat]? =some x->(wB C z I)[i.toNat]? =some (Y1 C x))->(aW (ba z i) λx=>cond (mD x) (k [.nil] [j]) (k [.sc (.sl C) x] [j]))=some r->
    ∃v u,(∀f g,(∀x,u.contains x=true->g.contains x=true)->Hk hg g f->lK f (enc (.pe j i K o)) m=some (bS v))/\k v u=some r:=λ{k} M h=>by
    obtain⟨x,d,n⟩:=bq h;obtain⟨H,d⟩:=eJ d;have F:=M x d;cases x with
    |nil=>exact⟨_,_,look (c:=.nil) F d5,n⟩
    |cons y O=>exact⟨_,_,look (c:=.sc (.sl C) (y::O)) F d5,n⟩
   split at e
   ·refine plain (λx d=>?_) e
    simp only[wB,auM,d,avz]
   ·rename_i J A
    rcases bA e with⟨B,e⟩|⟨B,e⟩
    ·cases A with
     |some q=>
      obtain⟨x,d,n⟩:=bq e;obtain⟨H,d⟩:=eJ d;have B:i.toNat=J.toNat:=avo B;refine⟨_,_,look (c:=.ow q) ?_ d5,n⟩;have L:i.toNat<z.length:=(aus.1 d).1;simp only[wB,<-B,enc,nrH];rw[ay8 (by simpa using L)]
     |none=>cases e
    ·refine plain (λx d=>?_) e
     have B:¬i.toNat=J.toNat:=aww B;simp only[wB];rw[axN bv,auM,d];rfl
  ·rename_i t I s z w
   obtain⟨b,e⟩:=aY h;simp only[aup]at b;have D:=auu b.1.1;have E:=auu b.1.2;have G:=auu b.2;split at e
   ·rename_i q
    obtain⟨x,d,n⟩:=bq e;obtain⟨H,d⟩:=eJ d;refine⟨_,_,λf g p l=>?_,n⟩;simp only[enc,lK,l.at (p j d5) w,bU,auM,d,avz];rw[auo ⟨D,E,G⟩];rfl
   ·cases e
  ·cases h
 ·cases h
def MM{a:Do EV}(h:Ui E a=some A):abp E (bS a)=some (enc A):=by
 unfold Ui at h;split at h
 ·cases h;rfl
 ·cases h;rfl
 ·cases h
def Y3(n:gG P T){k:EV->a_->At a}{r:a}(h:RK T hg b (eE ev c) k=some r):∃f g,Rm P (.load b c) ev hg f g/\k f g=some r:=by
 unfold RK at h;split at h
 ·rename_i v m s
  obtain⟨w,g,l,i⟩:=RL h;split at i
  ·rename_i f o
   refine⟨f,g,λj d z y u x q p=>RS.xt ?_,i⟩;have t:j.ev c=enc (eE ev c):=q.is rfl (λe=>by rw[e]at h;simp[Db]at h);simp only[xt,n.ty _ _ s,t,l j g (λ_ h=>h) p];exact MM o
  ·cases i
 ·cases h
def Y4{p q:EV}(h:J5 p d=some q):gJ (enc p) d=some (enc q):=by
 unfold J5 at h;split at h
 ·cases h;rfl
 ·cases h;rfl
 ·cases h;simp only[enc,gJ,mh]
 ·cases h
def pZ(h:ba (List.range d) B=some m):0<=B/\B<d/\m=B.toNat:=by
 obtain⟨e,a⟩:=eJ h;obtain⟨b,c⟩:=aus.1 a;simp at b c;omega
def RM(H:gG P T){k:EV->a_->At a}{r:a}(h:J6 T hg b (eE ev c) (eE ev e) k=some r):∃l U,Rm P (.indexAddr b c e) ev hg l U/\k l U=some r:=by
 unfold J6 at h;split at h
 ·rename_i Y i I
  split at h
  ·rename_i M G w
   split at h
   ·rename_i f J O z v
    obtain⟨p,D⟩:=aY h;obtain⟨g,q,u⟩:=bq D;obtain⟨t,q⟩:=eJ q;simp only[aup]at p;have y:=auu p.1;have A:0<J:=auw p.2;refine⟨_,_,λK d F E B C s x=>?_,u⟩;have:=RS.T6 (P:=P) (d:=d) (ty:=F) (pos:=E) (af:=B) (gd:=C) (H.el _ _ v) (by rw[y];exact s.is w d9) (s.is I d9) t (by rw[auM,q];rfl) A;rw[enc,gL];exact this
   ·cases h
  ·rename_i M G w
   split at h
   ·rename_i f J O z v
    obtain⟨p,D⟩:=aY h;obtain⟨g,q,u⟩:=bq D;obtain⟨t,q⟩:=eJ q;simp only[aup]at p;have y:=auu p.1;have A:0<J:=auw p.2;refine⟨_,_,λK d F E B C s x=>?_,u⟩;have:=RS.T6 (P:=P) (d:=d) (ty:=F) (pos:=E) (af:=B) (gd:=C) (H.el _ _ v) (by rw[y];exact s.is w d9) (s.is I d9) t (by rw[auM,q];rfl) A;rw[enc,gL];exact this
   ·cases h
  ·rename_i j w
   split at h
   ·rename_i S M G wr N
    split at h
    ·rename_i f J O z v
     obtain⟨p,D⟩:=aY h;obtain⟨g,q,u⟩:=bq D;obtain⟨t,q⟩:=eJ q;simp only[aup]at p;have y:=auu p.1;have A:=auu p.2;have R:=(aus.1 q).1;refine⟨_,_,λK d F E B C s x=>?_,u⟩;refine RS.ahH (rows:=List.map (bJ M) G) (wr:=wr) (H.el _ _ v) (s.is w d9) ?_ (s.is I d9) t (by rw[auz];omega);rw[x.at d5 N,y,A];rfl
    ·cases h
   ·rename_i S M G L N
    split at h
    ·rename_i f J O z v
     obtain⟨p,D⟩:=aY h;obtain⟨g,q,u⟩:=bq D;obtain⟨t,q⟩:=eJ q;simp only[aup]at p;have y:=auu p.1;have A:=auu p.2;subst y;subst A;have R:=(aus.1 q).1;refine⟨_,_,λK d F E B C s x=>?_,u⟩;refine RS.Ug (cs:=wB M G L) (H.el _ _ v) (s.is w d9) ?_ (s.is I d9) t ?_
     ·rw[x.at d5 N];rfl
     ·have:(wB M G L).length=G.length:=by
       unfold wB;split<;>simp
      rw[this];omega
    ·cases h
   ·rename_i S L V G N
    split at h
    ·rename_i f J O z v
     obtain⟨p,D⟩:=aY h;obtain⟨g,q,u⟩:=bq D;obtain⟨t,q⟩:=eJ q;simp only[aup]at p;have y:=auu p.1;have A:=auu p.2;subst y;subst A;have R:=(aus.1 q).1;refine⟨_,_,λK d F E B C s x=>?_,u⟩;refine RS.Ug (cs:=G.map (qrA V L)) (H.el _ _ v) (s.is w d9) ?_ (s.is I d9) t ?_
     ·rw[x.at d5 N];rfl
     ·rw[auz];omega
    ·cases h
   ·cases h
  ·rename_i j o w
   split at h
   ·rename_i n f J v
    split at h
    ·obtain⟨Q,h⟩:=aY h
     obtain⟨g,q,h⟩:=bq h;obtain⟨m,X,u⟩:=bq h;obtain⟨t,p,rfl⟩:=pZ q;simp only[aup]at Q;have L:=auu Q.1;subst L;exact⟨_,_,λK d F E B C s x=>RS.RA (H.ar _ _ v) (s.is I d9) t p (s.is w d9),u⟩
    ·obtain⟨g,q,u⟩:=bq h
     obtain⟨t,p,rfl⟩:=pZ q;exact⟨_,_,λK d F E B C s x=>RS.xn (H.ar _ _ v) (s.is I d9) t p (by rw[s.is w d9];rfl),u⟩
   ·cases h
  ·rename_i W w
   split at h
   ·rename_i n f J v
    obtain⟨g,q,u⟩:=bq h;obtain⟨t,p,rfl⟩:=pZ q;refine⟨_,_,λK d F E B C s x=>RS.xn (H.ar _ _ v) (s.is I d9) t p ?_,u⟩;rw[s.is w d9];simp only[enc,gJ,mh]
   ·cases h
  ·cases h
 ·cases h
def VR.als{Rd:bF}(h:VR Rd Y (.fp i) y)(c:i[0]? =some t):VR Rd Y (.fp [t]) y:=by
 cases h with
 |fp d g f e=>
  cases d with
  |nil=>
   have:=(aus.1 c).1;simp at g;omega
  |cons v d=>
   refine VR.fp [v] rfl (λj l k a b=>?_) (λj k a=>?_)
   ·cases j with
    |zero=>simp at a b;subst a;subst b;exact f 0 _ _ c rfl
    |succ j=>simp at a
   ·cases j with
    |zero=>simp at a;subst a;exact e 0 _ rfl
    |succ j=>simp at a
def RS.imp'{P:Fd}(h:RS P Q u t)(d:∀Rd E b,VR Rd E t b->VR Rd E S b):RS P Q u S:=λi c e a w hg=>by
 obtain⟨v,g,f⟩:=h i c e a w hg;exact⟨v,d _ _ _ g,f⟩
def abI(v:gG P T){k:EV->a_->At a}{r:a}(h:abF T b d (eE ev c) k=some r):∃f s,Rm P (.indexAddr b (.global d) c) ev hg f s/\k f s=some r:=by
 unfold abF at h;split at h
 ·rename_i K i F
  split at h
  ·rename_i G l z
   split at h
   ·rename_i n e N y
    obtain⟨m,o⟩:=aY h;have m:=auu m;subst m;obtain⟨g,w,o⟩:=bq o;obtain⟨t,B,rfl⟩:=pZ w;obtain⟨x,p,A⟩:=bq o;obtain⟨_,p⟩:=eJ p;refine⟨_,_,λM j O L H I C J=>?_,A⟩;refine RS.imp' (RS.xn (q:=.fp ((l.map λx=>AV.v (.int G x)).drop (i.toNat*1))) (v.ar _ _ y) (C.is F d8) t B ?_) λRd E u D=>?_
    ·simp only[St.ev,gA,z,gJ]
    ·exact D.als (by rw[avK,avO,avP,auM,p];rfl)
   ·cases h
  ·cases h
 ·cases h
def RN(o:gG P T){k:EV->At a}{r:a}(h:J7 T b d (eE ev c) k=some r):∃f,Rm P (.field b c d) ev hg f []/\k f=some r:=by
 unfold J7 at h;split at h
 ·rename_i z p
  split at h
  ·rename_i v m l
   obtain⟨j,i⟩:=aY h;refine⟨_,λx g y w q s n u=>RS.field (o.fd _ _ _ l) (n.is p d8) (by rw[e_];exact auw j) (.inl ⟨rfl,?_⟩),i⟩;simp only[enc,o6,mh]
  ·rename_i v m l
   obtain⟨j,i⟩:=aY h;split at i
   ·rename_i f t
    refine⟨_,λx g y w q s n u=>RS.field (o.fd _ _ _ l) (n.is p d8) (by rw[e_];exact auw j) (.inr ⟨rfl,?_⟩),i⟩;rw[dV,auM,t];rfl
   ·cases i
  ·cases h
 ·cases h
def RP(n:gG P T){k:EV->a_->At a}{r:a}{i:D8}(h:J9 T ev hg b i.toList k=some r):∃c e,Rm P (.build b i) ev hg c e/\k c e=some r:=by
 unfold J9 at h;split at h
 ·rename_i z l q
  split at h
  ·rename_i B e u
   split at h
   ·rename_i x o
    refine⟨_,_,λC d D A w y v p=>?_,h⟩;obtain⟨j,m⟩:=H2 v p u λ_ h=>h;have g:=ML o;rw[MJ]at g;obtain⟨f,s,t⟩:=n.pl _ _ _ q;exact RS.build s j m (wD t g)
   ·cases h
  ·cases h
 ·cases h
def zeroV:(s:Sc)->s.c9
 |.i _=>(0:Int)
 |.b=>false
 |.sl r=>([]:Do r.c9)
 |.pr x y=>(zeroV x,zeroV y)
 |.u=>()
def rI:Sc->bC->At bC
 |.i k,a=>match a with
  |.int l n::r=>if k=l/\n=0 then some r else none
  |_=>none
 |.b,a=>match a with
  |.bool c::r=>cond c none (some r)
  |_=>none
 |.sl _,a=>match a with
  |.slice none 0 0::r=>some r
  |_=>none
 |.pr x y,a=>match rI x a with
  |some b=>rI y b
  |none=>none
 |.u,a=>some a
def nE:∀(s:Sc) {b rest:bC},rI s b=some rest->∃d,b=d++rest/\oj (d.map lS) (bJ s (zeroV s))/\d.all Value.oneCell'=true/\d.all (λv=>(lS v).one)=true
 |.i k,b,rest,h=>by
  simp only[rI]at h;split at h
  ·split at h
   ·rename_i f
    cases h;obtain⟨rfl,rfl⟩:=f;exact⟨[_],rfl,.cons (Wk.refl (.v (.int _ 0))) .nil,rfl,rfl⟩
   ·cases h
  ·cases h
 |.b,b,rest,h=>by
  simp only[rI]at h;split at h
  ·rename_i c m
   cases c with
   |true=>cases h
   |false=>
    cases h;exact⟨[_],rfl,.cons (Wk.refl (.v (.bool false))) .nil,rfl,rfl⟩
  ·cases h
 |.sl r,b,rest,h=>by
  simp only[rI]at h;split at h
  ·cases h
   exact⟨[_],rfl,.cons (Wk.empty rfl) .nil,rfl,rfl⟩
  ·cases h
 |.pr a c,b,rest,h=>by
  simp only[rI]at h;split at h
  ·rename_i l e
   obtain⟨p,rfl,p1,p2,p3⟩:=nE a e;obtain⟨q,rfl,g,i,j⟩:=nE c h;refine⟨p++q,d5,?_,by simp only[ayy,p2,i];rfl,by simp only[ayy,p3,j];rfl⟩;rw[avh];exact p1.append g
  ·cases h
 |.u,b,rest,h=>by
  simp only[rI,aur]at h;subst h;exact⟨[],rfl,.nil,rfl,rfl⟩
def alu(s:Sc)(z:Id):In:=match s with
 |.pr x y=>match z with
  |.agg a=>match rI (.pr x y) a.toList with
   |some []=>true
   |_=>false
  |_=>false
 |.u=>match z with
  |.agg a=>match rI .u a.toList with
   |some []=>true
   |_=>false
  |_=>false
 |.i k=>match z with
  |.agg _=>false
  |z=>match rI (.i k) [z]with
   |some []=>true
   |_=>false
 |.b=>match z with
  |.agg _=>false
  |z=>match rI .b [z]with
   |some []=>true
   |_=>false
 |.sl r=>match z with
  |.agg _=>false
  |z=>match rI (.sl r) [z]with
   |some []=>true
   |_=>false
def oj.single(h:oj [t] [S]):Wk t S:=by
 cases h with
 |cons h _=>exact h
def Uk(h:alu J y=true):Wk (Mf y) (enc (jd J (zeroV J))):=by
 have one:∀{J:Sc} {y:Id} {c:AV},rI J [y]=some []->bJ J (zeroV J)=[c]->Wk (lS y) c:=by
  intro J y c h j;obtain⟨g,a,b,_⟩:=nE J h;rw[au_]at a;subst a;rw[j]at b;exact b.single
 have f:∀{y:Id},(∀i,y≠.agg i)->Mf y=lS y:=by
  intro y d;unfold Mf;split
  ·exact absurd rfl (d _)
  ·rfl
 unfold alu at h;split at h
 ·split at h
  ·split at h
   ·rename_i a
    obtain⟨g,b,e,_⟩:=nE _ a;rw[au_]at b;simp only[Mf,jd,enc,gL,b];exact Wk.ag e
   ·cases h
  ·cases h
 ·split at h
  ·split at h
   ·rename_i a
    obtain⟨g,b,e,_⟩:=nE _ a;rw[au_]at b;simp only[Mf,jd,enc,b];exact Wk.ag e
   ·cases h
  ·cases h
 ·split at h
  ·cases h
  ·rename_i d
   split at h
   ·rename_i a
    rw[f d];exact one a rfl
   ·cases h
 ·split at h
  ·cases h
  ·rename_i d
   split at h
   ·rename_i a
    rw[f d];exact one a rfl
   ·cases h
 ·split at h
  ·cases h
  ·rename_i d
   split at h
   ·rename_i a
    rw[f d];exact one a rfl
   ·cases h
def k8(d:TypeDesc)(s:Sc):In:=match s with
 |.i k=>match d with
  |.int l=>decide (k=l)
  |_=>false
 |.b=>match d with
  |.bool=>true
  |_=>false
 |.pr (.i .i64) (.i .i64)=>match d with
  |.tuple ⟨[]⟩=>true
  |_=>false
 |_=>false
def rW(h:k8 j J=true)(x:J.c9):k4 j (pX J x)/\J.key=true:=by
 unfold k8 at h;split at h
 ·split at h
  ·exact⟨by simpa[pX,k4,MapKept.IsKey]using h,rfl⟩
  ·cases h
 ·split at h
  ·exact⟨trivial,rfl⟩
  ·cases h
 ·split at h
  ·exact⟨⟨x.1,x.2,rfl⟩,rfl⟩
  ·cases h
 ·cases h
def J_:(s:Sc)->EV->At s.c9
 |.pr a b,c=>match c with
  |.ag d=>match RI (.pr a b) d with
   |some (x,[])=>some x
   |_=>none
  |_=>none
 |.i k,c=>HY (.i k) c
 |.b,c=>HY .b c
 |.sl _,_=>none
 |.u,_=>none
def o8(T:EQ->bu)(hg:Nat->At dO)(t:EQ)(c b:EV)(h:In)(k:EV->a_->At a):At a:=
 match c with
 |.mp j=>match hg j with
  |some (.mp d e f g)=>match(T t).mp with
   |some (i,z)=>match J_ e b with
    |some x=>cond (k8 d e && k8 i e && alu f z) (cond h (k (.tu [jd f ((bO e g x).getD (zeroV f)),.sc .b (bO e g x).isSome]) [j]) (k (jd f ((bO e g x).getD (zeroV f))) [j])) none
    |none=>none
   |none=>none
  |_=>none
 |_=>none
def o9{d b:TypeDesc}(h:k8 d J=true)(a:k8 b J=true):d=b:=by
 unfold k8 at h a;split at h
 ·split at h
  ·simp only at a
   split at a
   ·have c:=avo h
    have e:=avo a;rw[<-c,<-e]
   ·cases a
  ·cases h
 ·split at h
  ·simp only at a
   split at a
   ·rfl
   ·cases a
  ·cases h
 ·split at h
  ·simp only at a
   split at a
   ·rfl
   ·cases a
  ·cases h
 ·cases h
def Ul{s:Sc}{x:s.c9}(b:(match s with
 |.i _=>true
 |.b=>true
 |_=>false)=true) (a:HY s A=some x):enc A=.v (pX s x):=by
 have e:encS s x=.v (pX s x):=by cases s<;>simp at b<;>rfl
 rw[<-e];cases A with
 |sc c y=>obtain⟨rfl,rfl⟩:=dp a;rfl
 |nil=>cases s<;>simp[HY]at a b
 |ts r d=>obtain⟨rfl,rfl⟩:=dp a;simp at b
 |_=>simp[HY]at a
def xB{x:J.c9}(h:k8 j J=true)(c:J_ J A=some x):∀(Rd:bF) E u,VR Rd E (enc A) u->u=pX J x:=by
 intro Rd E u d;cases J with
 |i k=>rw[Ul (s:=.i k) rfl c]at d;exact d.bL
 |b=>rw[Ul (s:=.b) rfl c]at d;exact d.bL
 |sl r=>cases c
 |u=>cases c
 |pr a o=>
  have f:=(rW h x).2;simp only[J_]at c;split at c
  ·rename_i p
   split at c
   ·rename_i y m
    cases c;obtain⟨q,e,g⟩:=AD _ m f;rw[au_]at e;subst e;simp only[enc,g]at d;obtain⟨s,l,n⟩:=VR.e5 d;rw[l,LR.dc _ _ f n];rfl
   ·cases c
  ·cases c
def MN(D:gG P T){k:EV->a_->At a}{r:a}(h:o8 T hg b (eE ev c) (eE ev e) E k=some r):∃i L,Rm P (.lookup b c e E) ev hg i L/\k i L=some r:=by
 unfold o8 at h;split at h
 ·rename_i j I
  split at h
  ·rename_i d m B s F
   split at h
   ·rename_i U z H
    split at h
    ·rename_i g o
     obtain⟨C,O⟩:=aY h;simp only[aup]at C;obtain⟨⟨n,M⟩,N⟩:=C;have Q:=o9 n M;subst Q;obtain⟨J,K⟩:=rW n g;have R:=Uk N;have G:eE ev e≠.un:=λf=>by rw[f]at o;cases m<;>simp[J_,HY]at o
     have look:Wk ((fj (ni m B s) (pX m g)).getD (Mf z)) (enc (jd B ((bO m s g).getD (zeroV B)))):=by
      rw[oZ K];cases bO m s g with
      |none=>exact R
      |some v=>exact Wk.refl _
     rcases bA O with⟨x,u⟩|⟨x,u⟩
     ·refine⟨_,_,λS q A y p t l w=>?_,u⟩
      rw[x];have:=RS.abx (P:=P) (dd:=q) (ty:=A) (pos:=y) (af:=p) (gd:=t) (D.mp _ _ H) (l.is I d9) (w.at d5 F) (by rw[l.is rfl G];exact xB n o) J;refine this.xw (Wk.tu (.cons look (.cons ?_ .nil)));rw[oZ K,Option.isSome_map];exact Wk.refl _
     ·refine⟨_,_,λS q A y p t l w=>?_,u⟩
      rw[x];exact(RS.lookup (P:=P) (dd:=q) (ty:=A) (pos:=y) (af:=p) (gd:=t) (D.mp _ _ H) (l.is I d9) (w.at d5 F) (by rw[l.is rfl G];exact xB n o) J).xw look
    ·cases h
   ·cases h
  ·cases h
 ·cases h
def Ka(F:gG P T){k:EV->a_->At a}{r:a}(h:o8 T hg b (eE ev c) (eE ev e) false k=some r):∃j d i l m f,hg j=some (.mp d i l m)/\i.key=true/\k (jd l ((bO i m f).getD (zeroV l))) [j]=some r/\
 ∀(o:St) (n:Do (i.c9×l.c9)) (q:iC) (x:EQ) (w:String) (p:dm) (t:fH),Sk ev o->(bO i n f).getD (zeroV l)=(bO i m f).getD (zeroV l)->aZ o.h j=some (bU (.mp d i l n))->RS P ⟨q,.lookup b c e false,x,w,p,t⟩ o (enc (jd l ((bO i m f).getD (zeroV l)))):=by
 unfold o8 at h;split at h
 ·rename_i j M
  split at h
  ·rename_i d i l m I
   split at h
   ·rename_i Q z L
    split at h
    ·rename_i f u
     obtain⟨y,E⟩:=aY h;simp only[aup]at y;obtain⟨⟨s,C⟩,D⟩:=y;have G:=o9 s C;subst G;obtain⟨O,B⟩:=rW s f;have N:=Uk D;have J:eE ev e≠.un:=λg=>by rw[g]at u;cases i<;>simp[J_,HY]at u
     refine⟨j,d,i,l,m,f,I,B,E,λo n q x w p t A H K=>?_⟩;have look:Wk ((fj (ni i l n) (pX i f)).getD (Mf z)) (enc (jd l ((bO i m f).getD (zeroV l)))):=by
      rw[oZ B,<-H];cases bO i n f with
      |none=>exact N
      |some v=>exact Wk.refl _
     exact(RS.lookup (P:=P) (dd:=q) (ty:=x) (pos:=w) (af:=p) (gd:=t) (F.mp _ _ L) (A.is M (by intro g;cases g)) K (by rw[A.is rfl J];exact xB s u) O).xw look
    ·cases h
   ·cases h
  ·cases h
 ·cases h
def ex2(c b:EV)(k:IntKind->Int->Int->At a):At a:=match c with
 |.sc (.i d) x=>match b with
  |.sc (.i e) y=>match eD (.i e) (.i d) y with
   |some z=>k d x z
   |none=>none
  |_=>none
 |_=>none
def abJ{k:IntKind->Int->Int->At a}{r:a}(h:ex2 (eE ev c) (eE ev e) k=some r):∃g d b,eE ev c=.sc (.i g) d/\eE ev e=.sc (.i g) b/\k g d b=some r:=by
 unfold ex2 at h;split at h
 ·rename_i m d i
  split at h
  ·rename_i n b j
   split at h
   ·rename_i z l
    obtain⟨f,rfl⟩:=dp l;cases f;exact⟨m,d,b,i,j,h⟩
   ·cases h
  ·cases h
 ·cases h
def Kb(T:EQ->bu)(ev:Nat->EV)(hg:Nat->At dO)(b:Builtin)(d:gp)(f:hX)(k:EV->a_->At a):At a:=
 match b with
 |.len=>match d with
  |⟨[x]⟩=>match f[0]? with
   |some t=>cond (T t).kz (abE hg (eE ev x) k) (RJ T hg t (eE ev x) k)
   |none=>none
  |_=>none
 |.min=>match d with
  |⟨[x,y]⟩=>ex2 (eE ev x) (eE ev y) λe c b=>k (.sc (.i e) (if b<c then b else c)) []
  |_=>none
 |.max=>match d with
  |⟨[x,y]⟩=>ex2 (eE ev x) (eE ev y) λe c b=>k (.sc (.i e) (if b>c then b else c)) []
  |_=>none
 |_=>none
def ahR(s:ByteArray)(i:Int):q8:=ba (s.data.toList.map λb:UInt8=>(b.toNat:Int)) i
def exR(T:EQ->bu)(ev:Nat->EV)(hg:Nat->At dO)(u:Op)(k:EV->a_->At a):At a:=
 match u with
 |.move x=>k (eE ev x) []
 |.assign x=>k (eE ev x) []
 |.pick c x y=>match eE ev c with
  |.sc .b b=>cond b (k (eE ev x) []) (k (eE ev y) [])
  |_=>none
 |.load t x=>RK T hg t (eE ev x) k
 |.binOp o t x y _=>abD T o t (eE ev x) (eE ev y) λc=>k c []
 |.unOp o _ x=>alq o (eE ev x) λc=>k c []
 |.convert s t x=>match eE ev x with
  |.sc (.i _) n=>match(T s).ik with
   |some _=>match(T t).ik with
    |some d=>k (.sc (.i d) (d.wrap n)) []
    |none=>none
   |none=>none
  |_=>none
 |.fieldAddr t x f=>match(T t).fd[f]? with
  |some (p,_,m)=>cond (Nat.blt 0 m) (match J5 (eE ev x) p with
   |some q=>k q []
   |none=>none) none
  |none=>none
 |.field t x f=>J7 T t f (eE ev x) λc=>k c []
 |.indexAddr t (.global g) y=>abF T t g (eE ev y) k
 |.indexAddr t x y=>J6 T hg t (eE ev x) (eE ev y) k
 |.extract x i=>match eE ev x with
  |.tu z=>match z[i]? with
   |some c=>k c []
   |none=>none
  |_=>none
 |.build t v=>J9 T ev hg t v.toList k
 |.lookup t x y r=>o8 T hg t (eE ev x) (eE ev y) r k
 |.nilCheck x=>cond (nnA (enc (eE ev x))) (k (eE ev x) []) none
 |.makeFunc j l h=>k (.cl j (l.toList.map (eE ev)) (h.toList.map (eE ev))) []
 |.call ⟨.builtin b,e,w⟩=>Kb T ev hg b e w k
 |.index t (.const (.string s)) y=>match eE ev y with
  |.sc (.i _) i=>cond (T t).sg (aW (ahR s i) λb=>k (.sc (.i .u8) b) []) none
  |_=>none
 |_=>none
def RS.EB{P:Fd}{s:ByteArray}(r:P.underlying k=some .string)(t:u.ev c=.v (.int D B))(i:ba (s.data.toList.map λU:UInt8=>(U.toNat:Int)) B=some U):
 RS P ⟨L,.index k (.const (.string s)) c,b,I,K,O⟩ u (.v (.int .u8 U)):=λy v e a w h=>by
 have d:=h.ev c;rw[t]at d;have d:=d.bL;obtain⟨g,f⟩:=eJ i;rw[auM]at f;obtain⟨q,n,rfl⟩:=auY.1 f;have o:s[B.toNat]? =some q:=by
  obtain⟨m,l⟩:=aus.1 n;have p:B.toNat<s.size:=by simpa using m
  rw[getElem?_pos s B.toNat p];exact auA some l
 refine⟨_,.v,λx _=>?_⟩;have j:a.eval (.const (.string s))=.string s:=rfl;simp[execOp,Instr.index,d,j,asIntOf,auR r,g,o]
def RQ(p:gG P T){k:EV->a_->At a}{r:a}{b:Builtin}{n:gp}(h:Kb T ev hg b n X k=some r):∃c s,Rm P (.call ⟨.builtin b,n,X⟩) ev hg c s/\k c s=some r:=by
 unfold Kb at h;split at h
 ·split at h
  ·rename_i x
   split at h
   ·rename_i t q
    rcases bA h with⟨o,i⟩|⟨o,i⟩
    ·exact abH p q o i
    ·exact Y2 p q i
   ·cases h
  ·cases h
 ·split at h
  ·rename_i x y
   obtain⟨z,f,b,j,l,m⟩:=abJ h;exact⟨_,_,λB d C A u v g w=>RS.min2 (g.is j d8) (g.is l d8),m⟩
  ·cases h
 ·split at h
  ·rename_i x y
   obtain⟨z,f,b,j,l,m⟩:=abJ h;exact⟨_,_,λB d C A u v g w=>RS.max2 (g.is j d8) (g.is l d8),m⟩
  ·cases h
 ·cases h
def Sk.wk(a:Sk ev u)(x:If):Wk (u.ev x) (enc (eE ev x)):=by
 rcases a.x x with h|h
 ·rw[h];exact Wk.un
 ·rw[h];exact Wk.refl _
def Sk.wks{c:St}(b:Sk ev c):∀a:nA,oj (a.map c.ev) (a.map (enc∘eE ev))
 |[]=>.nil
 |x::a=>.cons (b.wk x) (b.wks a)
def alv(l:gG P T){k:EV->a_->At a}{r:a}{D:Op}(h:exR T ev hg D k=some r):∃c E,Rm P D ev hg c E/\k c E=some r:=by
 unfold exR at h;split at h
 ·exact⟨_,_,λu d v t o p f s=>(RS.move _).xw (f.wk _),h⟩
 ·exact⟨_,_,λu d v t o p f s=>(RS.assign _).xw (f.wk _),h⟩
 ·split at h
  ·rename_i c x y _ b B
   rcases bA h with⟨z,A⟩|⟨z,A⟩
   ·subst z
    exact⟨_,_,λu d v t o p f s=>(RS.aoe (f.is B d8) rfl).xw (f.wk _),A⟩
   ·subst z
    exact⟨_,_,λu d v t o p f s=>(RS.aof (f.is B d8) rfl).xw (f.wk _),A⟩
  ·cases h
 ·exact Y3 l h
 ·obtain⟨c,g,j⟩:=abG l h
  exact⟨c,_,g,j⟩
 ·obtain⟨c,g,j⟩:=ahQ h
  exact⟨c,_,g,j⟩
 ·split at h
  ·rename_i n w
   split at h
   ·rename_i N F
    split at h
    ·rename_i K G
     exact⟨_,_,λu d v t o p f s=>RS.conv (l.ik _ _ F) (l.ik _ _ G) (f.is w d8),h⟩
    ·cases h
   ·cases h
  ·cases h
 ·split at h
  ·rename_i O L m H
   obtain⟨g,j⟩:=aY h;split at j
   ·rename_i q C
    have M:0<m:=auw g;refine⟨_,_,λu d v t o p f s=>RS.fieldAddr (l.fd _ _ _ H) bv ?_,j⟩;rw[f.is rfl (λe=>by rw[e]at C;simp[J5]at C)];exact Y4 C
   ·cases j
  ·cases h
 ·obtain⟨c,g,j⟩:=RN l h
  exact⟨c,_,g,j⟩
 ·exact abI l h
 ·exact RM l h
 ·split at h
  ·rename_i Q w
   split at h
   ·rename_i c B
    refine⟨_,_,λu d v t o p f s=>RS.extract (f.is w d8) ?_,h⟩;rw[dV,auM,B];rfl
   ·cases h
  ·cases h
 ·exact RP l h
 ·exact MN l h
 ·rename_i x
  obtain⟨g,j⟩:=aY h;refine⟨_,_,λu d v t o p f s=>?_,j⟩;have I:eE ev x≠.un:=λe=>by rw[e]at g;simp[enc,nnA]at g
  have w:=f.is (x:=x) rfl I;rw[<-w];exact RS.nilCheck (by rw[w];exact g)
 ·exact⟨_,_,λu d v t o p f s=>RS.makeFunc.xw (by
   rw[enc,dV,dV,avE,avE];exact Wk.clM (f.wks _) (f.wks _)),h⟩
 ·exact RQ l h
 ·split at h
  ·rename_i K i J
   obtain⟨g,j⟩:=aY h;obtain⟨b,z,A⟩:=bq j;exact⟨_,_,λu d v t o p f s=>RS.EB (l.sg _ g) (f.is J d8) z,A⟩
  ·cases h
 ·cases h
end
def BH{e:Nat}:∀(a:Do (Do AV)) (i o:Nat) (r:Do AV) (c:AV),(∀r∈a,r.length=e)->a[i]? =some r->o<e->(a.set i (r.set o c)).flatten=a.flatten.set (i*e+o) c
 |[],i,o,r,c,_,h,_=>by simp at h
 |q::a,0,o,r,c,b,h,f=>by
  simp at h;subst h;have:=b q d5;simp only[axl,au4,awQ,auZ];rw[ay9 _ _ bv]
 |q::a,i+1,o,r,c,b,h,f=>by
  have g:=b q d5;have k:=BH a i o r c (λx j=>b x (by simp[j])) (by simpa using h) f;simp only[ayz,au4];rw[k,axO _ _ (by rw[g,au6];omega),g];congr 2;rw[au6];omega
def RR{a o:Nat}(e:∀i∈h,i.length=m)(b:h[a]? =some i)(f:o<m):a*m+o<h.flatten.length:=by
 rw[er e];have c:=(aus.1 b).1;have:(a+1)*m<=h.length*m:=awC _ c;rw[au6]at this;omega
section
variable{P:Fd}
def Ga.rM{B:Bs}{p:bF}{k b:Nat}{t:EQ}{f:Nat}{i:Nat}:∀(xs:Do AV) (A:bC) (o:Nat) {st:St} {e:Env} {a:Act} {w:GE} {g:Do (Do AV)} {r:Do AV} (h:Ga B p e st a w) (G:aZ st.h k=some (.arr t f g true)) (F:e.bW k=some b)
 (n:g[i]? =some r) (l:LR (VR (bN B p e st.h w) none) xs A) (E:∀c∈xs,c.one=true) (N:o+xs.length<=f) (m:Nat) (z:Nat) (O:z+m=i*f+o),
 ∃H J D,(storeCells ⟨b,z,none⟩ A m).run P w=.ok () J/\Ga B p H ⟨st.n,st.t,D⟩ a J/\aZ D k=some (.arr t f (g.set i (setCells r o xs)) true)/\(∀j,j≠k->aZ D j=aZ st.h j)/\∀j,H.bW j=e.bW j
 |[],[],o,st,e,a,w,g,r,h,G,F,n,l,E,N,m,z,O=>by
  refine⟨e,w,st.h,rfl,h,?_,λ_ _=>rfl,λ_=>rfl⟩;rw[G,setCells];have:g.set i r=g:=by
   obtain⟨M,rfl⟩:=aus.1 n;exact awm M
  rw[this]
 |x::xs,u::A,o,st,e,a,w,g,r,h,G,F,n,l,E,N,m,z,O=>by
  have W:VR (bN B p e st.h w) none x u:=l.2 0 x u rfl rfl;have a4:LR (VR (bN B p e st.h w) none) xs A:=⟨by simpa using l.1,λj c v L R=>l.2 (j+1) c v (by simpa using L) (by simpa using R)⟩;obtain⟨I,ah,am,aa⟩:=h.sr.ob _ _ G;simp only[auP]at N;have a9:=I r (auI n);have a0:=BH g i o r x I n bv;have a6:=RR I n (o:=o) bv;obtain⟨M,ap⟩:=aus.1 n;have ae:∀q∈g.set i (r.set o x),q.length=f:=λq Q=>by
   rcases aw4 Q with Q|rfl
   ·exact I q Q
   ·simpa using a9
  obtain⟨hs,S⟩:=h.sr.rM (rows':=g.set i (r.set o x)) G F (i*f+o) W (E x d5) d5 ae a0 a6;have U:∀j,(e.cO k (some b) (e.sv k) 0).bW j=e.bW j:=λj=>by by_cases y:j=k<;>simp[Env.cO,y,F]
  have ac:∀j,(e.cO k (some b) (e.sv k) 0).sv j=e.sv j:=λj=>by by_cases y:j=k<;>simp[Env.cO,y]
  have hg:Ga B p (e.cO k (some b) (e.sv k) 0) ⟨st.n,st.t,(k,some (.arr t f (g.set i (r.set o x)) true))::st.h⟩ a (w.setCell ⟨b,i*f+o,none⟩ u):=⟨h.n,h.d,hs,(h.tr.mono S).iD U ac⟩;obtain⟨H,J,D,ab,a1,a3,a2,Z⟩:=Ga.rM (i:=i) xs A (o+1) hg bf Env.bY (r:=r.set o x) (by rw[avs];simp[M]) (a4.imp λ_ _ R=>R.mono S) (λc L=>E c (by simp[L])) bv (m+1) z bv;refine⟨H,J,D,?_,a1,?_,λj y=>by rw[a2 j y,bc y],λj=>by rw[Z j,U j]⟩
  ·have X:(⟨b,z,none⟩:Addr).add m=⟨b,i*f+o,none⟩:=by rw[ava,O]
   rcases aa with⟨a8,_⟩|⟨C,ag,s,Y,aq,ai,hm,V,ak,a5,an⟩
   ·rw[a8]at n;simp at n
   obtain rfl:=aut (Y.symm.trans F);have a7:i*f+o<s.size:=by
    have:=a5.1;rw[au8]at this;have h2:s.toList.length=s.size:=d5
    omega
   have aj:w.cell? ⟨C,i*f+o,none⟩=some s[i*f+o]:=by
    rw[avu w C _ s t (0,0) V];simp[a7]
   have al:=awR w C (i*f+o) s t V;have ao:u.oneCell'=true:=W.jI (E x d5) (λe k he=>by cases he);have ad:(store ⟨C,i*f+o,none⟩ u).run P w=.ok () (w.setCell ⟨C,i*f+o,none⟩ u):=by
    cases u<;>simp_all[store,Sem.run,Value.oneCell']
   simp only[storeCells,auF,X,ad,auG];exact ab
  ·rw[a3,ayA];rfl
 |[],u::A,_,_,_,_,_,_,_,_,_,_,_,l,_,_,_,_,_=>by have:=l.1;simp at this
 |x::xs,[],_,_,_,_,_,_,_,_,_,_,_,l,_,_,_,_,_=>by have:=l.1;simp at this
variable{st:St}{d:Nat}{ty:EQ}{pos:String}{af:dm}{gd:fH}{K:St->Prop}
def SS.abK{t r:EQ}{x y:If}{k c g o:Nat}{l:Hp}{n:Nat}(O:st.ev x=.pe k c g o)(L:jK st.h (st.ev y)=some (l,S))(I:aZ l k=some (.arr r g h true))(U:h[c]? =some i)
 (X:Rq P t=some (E,n)) (m:cellsOf S=some v) (M:v.length=n) (a0:v.all AV.one=true) (a3:o+n<=g) (C:K ⟨st.n,st.t,(k,some (.arr r g (h.set c (setCells i o v)) true))::l⟩):
 SS P ⟨none,.store t x y,ty,pos,af,gd⟩ st K:=by
 intro w0 a2 e a w next Q f N
 obtain⟨e1,a1,Z⟩:=rO f.sr (f.ev y) L;have s:=f.cP a1;obtain⟨A,Y,z⟩:=xq m Z;have q:=s.ev x;have R:(St.mk st.n st.t l).ev x=.pe k c g o:=by
  cases x<;>exact O
 rw[R]at q;generalize D:a.eval x=u at q;cases q with
 | @pe _ _ _ _ _ b F=>
  obtain⟨td,j,g2,B,_,rfl⟩:=ir X;obtain⟨e',w',h',V,G,J,H,_⟩:=Ga.rM (P:=P) v A o s I F U z (λS m=>auO.1 a0 S m) bv 0 (c*g+o) rfl;refine uf (w':=w') ?_ (N _ C _ _ _ (G.k5 (λj=>by
   by_cases p:j=k
   ·subst p;rw[bf];exact J.symm
   ·rw[bc p];exact(H j p).symm)))
  have W:A.length=j.size:=by rw[z.1];exact M
  simp[execOp,Instr.storeAt,Instr.sureAddr,D,storeVar,Y,cL w B,W,V]
def OR.xC{Rd:bF}{k:Nat}{j rows':Do (Do AV)}{wr:In}(e:pW j rows')(y:∀c∈rows'.flatten,c.one=true)(h:OR Rd M o m (.arr b k j wr)):OR Rd M o m (.arr b k rows' wr):=by
 obtain⟨l,z,n,p⟩:=h;refine⟨e.wid l,y,n,?_⟩;rcases p with⟨rfl,f,g⟩|⟨a,w,x,q,f,g,r,s,t,u,v⟩
 ·cases e
  exact .inl ⟨rfl,f,g⟩
 ·have i:=e.flat.len
  exact .inr ⟨a,w,x,q,by rw[e.len];exact f,by rw[e.len];exact g,r,s,t,by rw[i];exact e.flat.lr u,by rw[i];exact v⟩
def bQ.ahS{A:Do (Nat×AV)}{k:Nat}{o p:Ob}{h:Hp}(H:∀Rd e w,OR Rd e w k o->OR Rd e w k p):bQ P ⟨m,A,(k,some o)::h⟩ ⟨m,A,(k,some p)::h⟩:=by
 intro B x e a w c;have i:∀j,(∃ob,aZ ((k,some o)::h) j=some ob)↔∃ob,aZ ((k,some p)::h) j=some ob:=λj=>by
  by_cases g:j=k
  ·subst g;simp[aZ]
  ·simp[aZ,g]
 have y:∀b t u,bN B x e ((k,some o)::h) w b t u↔bN B x e ((k,some p)::h) w b t u:=λb t u=>by
  unfold bN;refine and_congr Iff.rfl (and_congr Iff.rfl ⟨λs j ob f l=>?_,λs j ob f l=>?_⟩)
  ·obtain⟨n,r⟩:=(i j).2 ⟨ob,f⟩
   exact s j n r l
  ·obtain⟨n,r⟩:=(i j).1 ⟨ob,f⟩
   exact s j n r l
 refine⟨e,c.n,c.d,⟨c.sr.ext,c.sr.kg,λj ob f=>?_,λj ob b f l=>?_,λj z ob n b F G C D=>?_,c.sr.rL⟩,c.tr.mono λb o u=>(y b o u).1⟩
 ·refine OR.mono (λb o u=>(y b o u).1) ?_
  by_cases g:j=k
  ·subst g
   rw[bf]at f;cases f;exact H _ _ _ (c.sr.ob j o bf)
  ·rw[bc g]at f
   exact c.sr.ob j ob (by rw[bc g];exact f)
 ·obtain⟨v,q⟩:=(i j).2 ⟨ob,f⟩
  exact c.sr.base j v b q l
 ·obtain⟨v,q⟩:=(i j).2 ⟨ob,F⟩
  obtain⟨I,E⟩:=(i z).2 ⟨n,G⟩;exact c.sr.inj j z v I b q E C D
def bQ.xC{n:Nat}{e:Do (Nat×AV)}{k:Nat}{t:EQ}{b:Nat}{a rows':Do (Do AV)}{wr:In}{h:Hp}(g:pW a rows')(f:∀c∈rows'.flatten,c.one=true):
 bQ P ⟨n,e,(k,some (.arr t b a wr))::h⟩ ⟨n,e,(k,some (.arr t b rows' wr))::h⟩:=bQ.ahS λ_ _ _ h=>h.xC g f
def bQ.wkT{f:Do (Nat×AV)}{i:Nat}(g:Wk t S):bQ P ⟨m,(i,t)::f,n⟩ ⟨m,(i,S)::f,n⟩:=by
 intro k h e a w b;refine⟨e,b.n,b.d,b.sr,λj=>?_⟩;have:=b.tr j;by_cases c:j=i
 ·subst c
  simp only[bD,au2]at this⊢;exact g _ _ _ this
 ·simp only[bD,c,avf]at this⊢
  exact this
end
variable{R:iB}
def jk{hg:Nat->At dO}{h:Hp}{x:J.c9}{l:eS}(b:nD hg J A=some (x,l,C))(g:HC hg W h)(j:∀k,C.contains k=true->W.contains k=true)(i:J.w=1/\∀y:J.c9,bJ J y=[encS J y]):
 (∃e,hZ h (enc A)=some (bs l++h,e)/\e.one=true/\oj [e] (bJ J x))/\CS hg l:=by
 obtain⟨⟨e,c,m⟩,o⟩:=abA b g j;refine⟨⟨e,c,?_,by rw[i.2];exact .cons m .nil⟩,o⟩;unfold nD at b;split at b
 ·rename_i k
  split at b
  ·rename_i t r z wr s
   split at b
   ·rename_i y f
    simp only[aur,auK]at b;obtain⟨rfl,rfl,rfl⟩:=b;obtain⟨B,v⟩:=g k (j k d5) t r _ wr s;simp only[enc,hZ,v,aur,auK]at c;rw[<-c.2];rfl
   ·cases b
  ·cases b
 ·split at b
  ·rename_i y f
   rw[Ey (abz f)]at c;simp only[aur,auK]at c;rw[<-c.2];clear c m o b g j;cases A with
   |sc w D=>
    obtain⟨rfl,rfl⟩:=dp f;have:=i.1;cases w with
    |pr a q=>
     have p:=oY (.pr a q) (zeroV (.pr a q)) .un (by rw[i.2];simp[encS]);cases p
    |u=>simp[Sc.w]at this
    |_=>rfl
   |nil=>rfl
   |ts r z=>rfl
   |_=>simp[HY]at f
  ·cases b
def um{hg:Nat->At dO}:∀(s:Sc) {h:Hp} {l rest:Do EV} {x:s.c9} {g:eS} {i j:a_} (b:iE hg s l=some (x,rest,g,i)) (e:HC hg j h) (f:∀k,i.contains k=true->j.contains k=true),
 (∃C z,l=C++rest/\iO h (bS C)=some (bs g++h,z)/\oj z (bJ s x)/\z.all AV.one=true)/\CS hg g
 |.pr a c,h,l,rest,x,g,i,j,b,e,f=>by
  simp only[iE]at b;split at b
  ·rename_i R z A B m
   split at b
   ·rename_i vb N O Q E
    simp only[aur,auK]at b;obtain⟨rfl,rfl,rfl,rfl⟩:=b;obtain⟨⟨K,p1,rfl,F,L,H⟩,D⟩:=um a m e (λk u=>f k (by simp at u⊢;exact .inl u));obtain⟨⟨q0,q1,rfl,G,M,I⟩,J⟩:=um c E (e.put D λk h=>h) (λk u=>f k (by simp at u⊢;exact .inr u));refine⟨⟨K++q0,p1++q1,d5,?_,L.append M,by rw[ayy,H,I];rfl⟩,λk o p=>?_⟩
    ·rw[k7,fa,auV]
     exact Hx F G
    ·rcases auC.1 p with p|p
     ·exact J k o p
     ·exact D k o p
   ·cases b
  ·cases b
 |.u,h,l,rest,x,g,i,j,b,e,f=>by
  simp only[iE,aur,auK]at b;obtain⟨-,rfl,rfl,rfl⟩:=b;exact⟨⟨[],[],rfl,rfl,.nil,rfl⟩,λk o p=>by cases p⟩
 |.i k,h,[],rest,x,g,i,j,b,e,f=>by simp[iE]at b
 |.b,h,[],rest,x,g,i,j,b,e,f=>by simp[iE]at b
 |.sl r,h,[],rest,x,g,i,j,b,e,f=>by simp[iE]at b
 |.i k,h,c::l,rest,x,g,i,j,b,e,f=>by
  simp only[iE]at b;split at b
  ·rename_i a A B m
   simp only[aur,auK]at b;obtain⟨rfl,rfl,rfl,rfl⟩:=b;obtain⟨⟨q,t,v,y⟩,w⟩:=jk m e f ⟨rfl,λ_=>rfl⟩;exact⟨⟨[c],[q],rfl,wC t,y,by simp[v]⟩,w⟩
  ·cases b
 |.b,h,c::l,rest,x,g,i,j,b,e,f=>by
  simp only[iE]at b;split at b
  ·rename_i a A B m
   simp only[aur,auK]at b;obtain⟨rfl,rfl,rfl,rfl⟩:=b;obtain⟨⟨q,t,v,y⟩,w⟩:=jk m e f ⟨rfl,λ_=>rfl⟩;exact⟨⟨[c],[q],rfl,wC t,y,by simp[v]⟩,w⟩
  ·cases b
 |.sl r,h,c::l,rest,x,g,i,j,b,e,f=>by
  simp only[iE]at b;split at b
  ·rename_i a A B m
   simp only[aur,auK]at b;obtain⟨rfl,rfl,rfl,rfl⟩:=b;obtain⟨⟨q,t,v,y⟩,w⟩:=jk m e f ⟨rfl,λ_=>rfl⟩;exact⟨⟨[c],[q],rfl,wC t,y,by simp[v]⟩,w⟩
  ·cases b
def rX(h:t.one=true):cellsOf t=some [t]:=by
 cases t<;>first|(simp[AV.one]at h;done)|simp only[cellsOf,h,au2]
def BI{hg:Nat->At dO}{h:Hp}{x:J.c9}{q:eS}(a:o0 hg J A=some (x,q,C))(l:HC hg W h)(m:∀k,C.contains k=true->W.contains k=true):
 (∃b r,jK h (enc A)=some (bs q++h,b)/\cellsOf b=some r/\oj r (bJ J x)/\r.all AV.one=true)/\CS hg q:=by
 unfold o0 at a;split at a
 ·rename_i v
  split at a
  ·split at a
   ·rename_i y t u p
    simp only[aur,auK]at a;obtain⟨rfl,rfl,rfl⟩:=a;obtain⟨⟨s,i,j,c,e,o⟩,f⟩:=um _ p l m;simp only[au_]at j;subst j;exact⟨⟨.ag i,i,by simp only[enc,jK,c],rfl,e,o⟩,f⟩
   ·cases a
  ·split at a
   ·rename_i y t u p
    simp only[aur,auK]at a;obtain⟨-,rfl,rfl⟩:=a;obtain⟨⟨s,i,j,c,e,o⟩,f⟩:=um _ p l m;simp only[au_]at j;subst j;exact⟨⟨.ag i,i,by simp only[enc,jK,c],rfl,e,o⟩,f⟩
   ·cases a
  ·cases a
 ·split at a
  ·cases a
  ·cases a
  ·obtain⟨⟨b,c,g,e⟩,f⟩:=jk a l m ⟨rfl,λ_=>rfl⟩
   exact⟨⟨b,[b],J3 c,rX g,e,by simp[g]⟩,f⟩
  ·obtain⟨⟨b,c,g,e⟩,f⟩:=jk a l m ⟨rfl,λ_=>rfl⟩
   exact⟨⟨b,[b],J3 c,rX g,e,by simp[g]⟩,f⟩
  ·obtain⟨⟨b,c,g,e⟩,f⟩:=jk a l m ⟨rfl,λ_=>rfl⟩
   exact⟨⟨b,[b],J3 c,rX g,e,by simp[g]⟩,f⟩
structure Src where
 r:Sc
 xs:List r.c9
 tt:Bool
 os:eS
 us:a_
def H3(hg:Nat->At dO):EV->At Src
 |.sc (.sl r) a=>some ⟨r,a,false,[],[]⟩
 |.ts r a=>some ⟨r,a,true,[],[]⟩
 |.ow j=>match hg j with
  |some (.arr t r a _)=>some ⟨r,a,false,[(j,some (.arr t r a false))],[j]⟩
  |_=>none
 |_=>none
def xD{hg:Nat->At dO}{h:Hp}{s:Src}(a:H3 hg A=some s)(g:HC hg C h)(i:∀k,s.us.contains k=true->C.contains k=true):
 hZ h (enc A)=some (bs s.os++h,.sl s.tt s.r.w (List.map (bJ s.r) s.xs))/\CS hg s.os/\A≠.un:=by
 unfold H3 at a;split at a
 ·simp only[aur]at a;subst a
  exact⟨rfl,λk o b=>(by cases b),by intro e;cases e⟩
 ·simp only[aur]at a;subst a
  exact⟨rfl,λk o b=>(by cases b),by intro e;cases e⟩
 ·rename_i j
  split at a
  ·rename_i t r f wr c
   simp only[aur]at a;subst a;obtain⟨m,l⟩:=g j (i j d5) t r f wr c;refine⟨?_,?_,by intro e;cases e⟩
   ·simp only[enc,hZ,l];rfl
   ·intro k o b
    simp only[auN,auK]at b;obtain⟨rfl,rfl⟩:=b;exact⟨t,r,f,wr,c,rfl⟩
  ·cases a
 ·cases a
def iR(b:Do a)(l h:Int):At (Do a):=if 0<=l/\l<=h/\h<=b.length then some ((b.take h.toNat).drop l.toNat)else none
def MO(b:Do a)(l h m:Int):At (Do a):=if 0<=l/\l<=h/\h<=m/\m<=b.length then some ((b.take h.toNat).drop l.toNat)else none
def rJ(ev:Nat->EV)(x:If):q8:=match eE ev x with
 |.sc (.i _) i=>some i
 |_=>none
def jN{ev:Nat->EV}{x:If}(h:rJ ev x=some B)(a:Sk ev u):∃k,u.ev x=.v (.int k B):=by
 unfold rJ at h;split at h
 ·rename_i k c b
  cases h;exact⟨k,a.is b d8⟩
 ·cases h
def EC:If->If->In
 |.tmp i,.tmp j=>beq i j
 |.const (.int _ a),.const (.int _ b)=>decide (a=b)
 |_,_=>false
def alw:iB->If->In
 |some x,y=>EC x y
 |none,_=>false
def AE{ev:Nat->EV}(h:EC c e=true)(b:rJ ev c=some B)(a:rJ ev e=some U):B=U:=by
 unfold EC at h;split at h
 ·have:=auu h
  subst this;rw[b]at a;exact aut a
 ·simp[rJ,eE,cvE]at b a h
  rw[<-b,<-a,h]
 ·cases h
def loE(ev:Nat->EV):iB->q8
 |none=>some 0
 |some x=>rJ ev x
def hiE(ev:Nat->EV)(n:Nat):iB->q8
 |none=>some (n:Int)
 |some x=>rJ ev x
def abL{ev:Nat->EV}(h:loE ev R=some B)(c:Sk ev u)(a:0<=B):rH u 0 R=some B.toNat:=by
 cases R with
 |none=>simp only[loE,aur]at h;subst h;rfl
 |some x=>
  obtain⟨k,b⟩:=jN (x:=x) h c;simp only[rH,b,a,au2]
def abM{ev:Nat->EV}{n:Nat}(h:hiE ev n R=some B)(c:Sk ev u)(a:0<=B):rH u n R=some B.toNat:=by
 cases R with
 |none=>simp only[hiE,aur]at h;subst h;simp[rH]
 |some x=>
  obtain⟨k,b⟩:=jN (x:=x) h c;simp only[rH,b,a,au2]
def Kc(T:EQ->bu)(ev:Nat->EV)(hg:Nat->At dO)(t:EQ)(x:If)(f c g:iB)(k:EV->eS->a_->At a):At a:=
 match H3 hg (eE ev x)with
 |some s=>match(T t).el with
  |some (_,i,_,_)=>cond (beq i s.r.w) (match loE ev f with
   |some l=>match hiE ev s.xs.length c with
    |some h=>match g with
     |none=>aW (iR s.xs l h) λb=>k (cond (s.tt && c.isNone) (.ts s.r b) (.sc (.sl s.r) b)) s.os s.us
     |some m=>cond (alw c m) (match rJ ev m with
      |some _=>aW (iR s.xs l h) λb=>k (.ts s.r b) s.os s.us
      |none=>none) (match c with
      |none=>none
      |some _=>match rJ ev m with
       |some e=>aW (MO s.xs l h e) λb=>cond (decide (h=e)) (k (.ts s.r b) s.os s.us) none
       |none=>none)
    |none=>none
   |none=>none) none
  |none=>none
 |none=>none
section
variable{P:Fd}{T:EQ->bu}{ev:Nat->EV}{hg:Nat->At dO}{n d:Nat}{ty:EQ}{pos:String}{af:dm}{gd:fH}
def SS.l4{c a b:St}(h:SS P Q c λs=>s=a)(e:bQ P a b):SS P Q c λs=>s=b:=h.mono λs f=>by subst f;exact⟨_,e,rfl⟩
def RT(R:gG P T){k:EV->eS->a_->At a}{r:a}{G u A:iB}(x:d<n)(h:Kc T ev hg b c G u A k=some r):
 ∃f L M,FS P ⟨some d,.slice b c G u A,ty,pos,af,gd⟩ n ev hg f L M .no/\k f L M=some r:=by
 unfold Kc at h;split at h
 ·rename_i s Z
  split at h
  ·rename_i e sz a0 z S
   obtain⟨J,v⟩:=aY h;clear h;have hw:=auu J;clear J;subst hw;have h:=v;clear v;split at h
   ·rename_i l U
    split at h
    ·rename_i o C
     have H:∀(m:q8) (B:Do s.r.c9) (f:EV),(0<=l/\l<=o/\o<=s.xs.length)->B=(s.xs.take o.toNat).drop l.toNat->(∀j,m=some j->o<=j/\j<=s.xs.length)->(∀st,Sk ev st->mxA st A=some (m.map Int.toNat))->(A.isSome=true->u.isSome=true)->
      Wk (wx s.tt (List.map (bJ s.r) s.xs) s.r.w l.toNat o.toNat (m.map Int.toNat)) (enc f)->FS P ⟨some d,.slice b c G u A,ty,pos,af,gd⟩ n ev hg f s.os s.us .no:=by
      intro m B f t i V Y X F st hn q Q hf;obtain⟨N,h2,O⟩:=xD Z Q.hc λ_ h=>h;have hx:=q.is rfl O;have:=SS.slice (P:=P) (ty:=ty) (pos:=pos) (af:=af) (gd:=gd) (d:=d) (h':=bs s.os++st.h) (tt:=s.tt) (rows:=List.map (bJ s.r) s.xs) (l:=l.toNat) (h:=o.toNat) (m:=m.map Int.toNat) (K:=λs'=>s'=⟨st.n,(d,wx s.tt (List.map (bJ s.r) s.xs) s.r.w l.toNat o.toNat (m.map Int.toNat))::st.t,bs s.os++st.h⟩)
       (R.el _ _ S) (by rw[hx];exact N) (abL U q t.1) (by rw[auz];exact abM C q bv) (Y st q) X bv (by rw[auz];omega) (by
        intro y hy;obtain⟨j,w,rfl⟩:=auY.1 hy;have:=V j w;rw[auz];omega) bv rfl
      exact this.l4 (bQ.wkT F)
     have I:∀g:In,AV.sl g s.r.w (((List.map (bJ s.r) s.xs).take o.toNat).drop l.toNat)=.sl g s.r.w (List.map (bJ s.r) ((s.xs.take o.toNat).drop l.toNat)):=λg=>by
      rw[<-awJ,<-awZ]
     split at h
     ·obtain⟨B,i,p⟩:=bq h
      unfold iR at i;split at i
      ·rename_i t
       cases i;refine⟨_,_,_,H none _ _ t rfl d5 (λst q=>rfl) d5 ?_,p⟩;unfold wx;rw[I];simp only[awk,wu,auz];cases a2:s.tt with
       |false=>
        simp only[ayB];exact Wk.refl _
       |true=>
        cases u with
        |none=>
         simp only[hiE,aur]at C;subst C;simp only[auB,axP,ayC,Option.isNone_none];exact Wk.refl _
        |some y=>
         simp only[ayC,Option.isNone_some];cases a1:o.toNat==s.xs.length with
         |true=>exact Wk.tight
         |false=>exact Wk.refl _
      ·cases i
     ·rename_i m
      rcases bA h with⟨D,h⟩|⟨D,h⟩
      ·split at h
       ·rename_i j w
        obtain⟨B,i,p⟩:=bq h;unfold iR at i;split at i
        ·rename_i t
         cases i;have W:j=o:=by
          cases u with
          |none=>cases D
          |some y=>exact(AE D C w).symm
         subst W;refine⟨_,_,_,H (some j) _ _ t rfl (by rintro y ⟨⟩;omega) (λst q=>?_) (λ_=>by cases u with|none=>cases D|some y=>rfl) ?_,p⟩
         ·obtain⟨kk,E⟩:=jN w q
          have v:0<=j:=bv
          simp[mxA,rH,E,v]
         ·unfold wx
          rw[I];simp only[avz,wu,axP];exact Wk.refl _
        ·cases i
       ·cases h
      ·split at h
       ·cases h
       ·rename_i y
        split at h
        ·rename_i j w
         obtain⟨B,i,p⟩:=bq h;unfold MO at i;split at i
         ·rename_i t
          cases i;have mk:=λf F=>H (some j) _ f ⟨t.1,t.2.1,bv⟩ rfl (by rintro y ⟨⟩;omega) (λst q=>by
           obtain⟨kk,E⟩:=jN w q;have v:0<=j:=bv
           simp[mxA,rH,E,v]) (λ_=>rfl) F
          rcases bA p with⟨x,p⟩|⟨x,p⟩
          ·refine⟨_,_,_,mk (.ts s.r _) ?_,p⟩
           have x:o=j:=by simpa using x
           subst x;unfold wx;rw[I];simp only[avz,wu,axP];exact Wk.refl _
          ·cases p
         ·cases i
        ·cases h
    ·cases h
   ·cases h
  ·cases h
 ·cases h
end
def rV.x{d:Nat}{a:St}(b:rV (.one d) a)(x:If):(a.ev x).f_ (λk=>k==d)=true:=by
 cases x with
 |tmp i=>exact b.t i
 |const v=>show(lS v).f_ _=true;unfold lS;split<;>rfl
 |global g=>show(gA g).f_ _=true;unfold gA;split<;>rfl
 |func f=>rfl
def MP(h:cellsOf t=some i)(a:t.f_ V=true):AV.mu V i=true:=by
 cases t with
 |ag l=>simp only[cellsOf,aur]at h;subst h;simpa[AV.f_]using a
 |_=>
  simp only[cellsOf]at h;split at h
  ·simp only[aur]at h;subst h;simp[AV.mu,a]
  ·cases h
def p6{d:Nat}:∀{a:Do AV},AV.mu (λk=>k==d) a=true->a.map (AV.kill d)=a
 |[],_=>rfl
 |c::a,h=>by
  simp only[AV.mu,aup]at h;rw[auL,oW h.1,p6 h.2]
def rY{hg:Nat->At dO}(d:Nat):∀{os:eS} {h:Hp},CS hg os->bw d (bs os++h)=bs os++bw d h
 |[],h,_=>rfl
 |(k,o)::os,h,a=>by
  obtain⟨t,r,f,wr,e,rfl⟩:=a k o d5;have c:=rY d (os:=os) (h:=h) λk o b=>a k o (by simp[b]);simp only[bs,avH,bw,c];rfl
def ahT(p:Nat->In)(v:Id):(lS v).f_ p=true:=by unfold lS;split<;>rfl
def MQ(p:Nat->In):∀z:bC,AV.mu p (z.map lS)=true
 |[]=>rfl
 |v::z=>by simp only[auL,AV.mu,ahT,MQ p z];rfl
def rK(a:Int)(b:Nat):bX:=if 0<=a/\b*a.toNat<=140737488355328/\a.toNat<=maxLen then some a.toNat else none
def eo(b:Nat)(c ys:Do a):At (Do a):=if(c.length+ys.length)*b<=140737488355328/\c.length+ys.length<=maxLen then some (c++ys)else none
def p_:Do a->In
 |[]=>true
 |_::_=>false
def AF(ev:Nat->EV)(hg:Nat->At dO)(r:Sc):Nat->xj->At (Do r.c9×eS×a_)
 |_,[]=>some ([],[],[])
 |j,(i,x)::b=>cond (beq i j) (match o0 hg r (eE ev x)with
  |some (v,os,c)=>match AF ev hg r (j+1) b with
   |some (e,a,us2)=>some (v::e,a++os,c++us2)
   |none=>none
  |none=>none) none
def abN(T:EQ->bu)(ev:Nat->EV)(hg:Nat->At dO)(d:Nat)(t:EQ)(g:Nat)(c:xj)(k:EV->eS->a_->Fr->At a):At a:=
 match g with
 |0=>match c with
  |[]=>match(T t).el with
   |some (_,b,_,_)=>cond (Nat.blt 0 b) (k .nil [] [] .no) none
   |none=>none
  |_=>none
 |m+1=>match(T t).el with
  |some (e,b,_,_)=>match(T t).co with
   |some r=>match AF ev hg r 0 c with
    |some (f,h,i)=>cond (beq b r.w && beq f.length (m+1) && Nat.ble ((m+1)*b) 16777216 && Nat.blt 0 b) (k (.ow d) ((d,some (.arr e r f true))::h) i (.one d)) none
    |none=>none
   |none=>none
  |none=>none
def RU(T:EQ->bu)(ev:Nat->EV)(hg:Nat->At dO)(d:Nat)(t:EQ)(f:Nat)(h:xj)(k:EV->eS->a_->Fr->At a):At a:=
 match f with
 |0=>none
 |m+1=>match(T t).el with
  |some (e,b,_,_)=>match(T t).co with
   |some r=>match AF ev hg r 0 h with
    |some (c,g,i)=>cond (beq b r.w && beq c.length (m+1) && Nat.ble ((m+1)*b) 16777216 && Nat.blt 0 b) (k (.ts r c) g i .no) none
    |none=>none
   |none=>none
  |none=>none
def ED(T:EQ->bu)(ev:Nat->EV)(hg:Nat->At dO)(d:Nat)(t:EQ)(x y:If)(k:EV->eS->a_->Fr->At a):At a:=
 match(T t).el with
 |some (e,h,b,_)=>match H3 hg (eE ev y)with
  |some s=>cond (beq h s.r.w && Nat.blt 0 h) (match eE ev x with
   |.nil=>aW (eo b [] s.xs) λc=>k (.ow d) ((d,some (.arr e s.r c true))::s.os) s.us (.one d)
   |.ts r f=>match eD (.sl r) (.sl s.r) f with
    |some g=>cond (p_ s.xs) none (aW (eo b (show Do s.r.c9 from g) s.xs) λc=>k (.ow d) ((d,some (.arr e s.r c true))::s.os) s.us (.one d))
    |none=>none
   |.ow j=>match hg j with
    |some (.arr i r f wr)=>match eD (.sl r) (.sl s.r) f with
     |some g=>cond (beq e i && !(s.us.contains j) && !(beq d j)) (aW (eo b (show Do s.r.c9 from g) s.xs) λc=>k (.ow d) ((d,some (.arr e s.r c wr))::(j,none)::s.os) (j::s.us) (.one d)) none
     |none=>none
    |_=>none
   |_=>none) none
  |none=>none
 |none=>none
def Y5(s:Sc)(c:EV):At s.c9:=match s with
 |.i k=>match c with
  |.sc b x=>eD b (.i k) x
  |_=>none
 |.b=>match c with
  |.sc b x=>eD b .b x
  |_=>none
 |.pr a e=>match c with
  |.ag f=>cond (Sc.key (.pr a e)) (match RI (.pr a e) f with
   |some (x,[])=>some x
   |_=>none) none
  |_=>none
 |_=>none
def Um{x:J.c9}(h:Y5 J A=some x):enc A=enc (jd J x)/\(enc A).fz=false\/enc A=enc (jd J x)/\(enc A).fz=true:=by
 have:enc A=enc (jd J x):=by
  unfold Y5 at h;split at h
  ·split at h
   ·obtain⟨rfl,rfl⟩:=dp h;rfl
   ·cases h
  ·split at h
   ·obtain⟨rfl,rfl⟩:=dp h;rfl
   ·cases h
  ·split at h
   ·obtain⟨e,a⟩:=aY h
    split at a
    ·rename_i j f
     cases a;obtain⟨g,b,c⟩:=AD _ f e;rw[au_]at b;subst b;simp only[enc,jd,c,gL]
    ·cases a
   ·cases h
  ·cases h
 cases i:(enc A).fz with
 |true=>exact .inr ⟨this,rfl⟩
 |false=>exact .inl ⟨this,rfl⟩
def H4{h:Hp}:∀{cs:Do AV},(∀c∈cs,c.fz=true)->iO h cs=some (h,cs)
 |[],_=>rfl
 |c::cs,a=>by
  have e:=H4 (h:=h) (cs:=cs) λc b=>a c (by simp[b]);simp only[iO,Ey (a c d5),e]
def EE{h:Hp}(s:Sc)(x:s.c9):jK h (enc (jd s x))=some (h,enc (jd s x)):=by
 cases s with
 |pr a b=>
  simp only[jd,enc,gL,jK,H4 (J2 (.pr a b) x)]
 |_=>rfl
def rZ(hg:Nat->At dO)(c:EV):(r:Sc)->r.c9->Nat->Nat->At (r.c9×eS×a_)
 |.pr a b2,x,o,m=>cond (beq o 0 && beq m (a.w+b2.w)) (o0 hg (.pr a b2) c) (cond (Nat.blt o a.w) (match rZ hg c a x.1 o m with
  |some (y,b,e)=>some ((y,x.2),b,e)
  |none=>none) (match rZ hg c b2 x.2 (o - a.w) m with
  |some (y,b,e)=>some ((x.1,y),b,e)
  |none=>none))
 |.i k,_,o,m=>cond (beq o 0 && beq m 1) (o0 hg (.i k) c) none
 |.b,_,o,m=>cond (beq o 0 && beq m 1) (o0 hg .b c) none
 |.sl r,_,o,m=>cond (beq o 0 && beq m 1) (o0 hg (.sl r) c) none
 |.u,_,_,_=>none
def h9:∀(xs a b:Do AV) (o:Nat),o+xs.length<=a.length->setCells (a++b) o xs=setCells a o xs++b
 |[],a,b,o,h=>rfl
 |x::xs,a,b,o,h=>by
  simp only[auP]at h;simp only[setCells];rw[ay9 _ _ bv];exact h9 xs _ b (o+1) d7
def fA:∀(c a b:Do AV) (o:Nat),a.length<=o->setCells (a++b) o c=a++setCells b (o - a.length) c
 |[],a,b,o,h=>rfl
 |x::c,a,b,o,h=>by
  simp only[setCells];rw[axO _ _ h,fA c a _ (o+1) bv];congr 2;omega
def qa:∀(b a:Do AV),b.length=a.length->setCells a 0 b=b
 |[],[],_=>rfl
 |x::b,y::a,h=>by
  simp only[setCells,axl];have:=fA b [x] a 1 d5;simp only[avW,avp,axm,auZ]at this⊢;rw[this,qa b a (by simpa using h)]
def ahU{hg:Nat->At dO}{h:Hp}(K:HC hg C h):∀(r:Sc) (x:r.c9) (o m:Nat) {y:r.c9} {j:eS} {q:a_},rZ hg A r x o m=some (y,j,q)->(∀k,q.contains k=true->C.contains k=true)->
 (∃p e,jK h (enc A)=some (bs j++h,p)/\cellsOf p=some e/\e.all AV.one=true/\e.length=m/\o+m<=r.w/\oj (setCells (bJ r x) o e) (bJ r y))/\CS hg j:=by
 have B:∀(r:Sc) (x:r.c9) (o m:Nat) {y:r.c9} {j:eS} {q:a_},beq o 0=true->beq m r.w=true->o0 hg r A=some (y,j,q)->(∀k,q.contains k=true->C.contains k=true)->
  (∃p e,jK h (enc A)=some (bs j++h,p)/\cellsOf p=some e/\e.all AV.one=true/\e.length=m/\o+m<=r.w/\oj (setCells (bJ r x) o e) (bJ r y))/\CS hg j:=by
  intro r x o m y j q c f L l;have c:=auu c;have f:=auu f;subst c f;obtain⟨⟨p,e,v,w,t,z⟩,E⟩:=BI L K l;have J:e.length=r.w:=by rw[<-t.len,eW]
  refine⟨⟨p,e,v,w,z,J,bv,?_⟩,E⟩;rw[qa e _ (by rw[eW];exact J)];exact t
 intro r
 induction r with
 |pr a U N O=>
  intro x o m y j q g l;simp only[rZ]at g;rcases bA g with⟨c,f⟩|⟨c,f⟩
  ·simp only[aup]at c
   exact B _ x o m c.1 c.2 f l
  ·rcases bA f with⟨H,s⟩|⟨H,s⟩
   ·split at s
    ·rename_i S Q R I
     simp only[aur,auK]at s;obtain⟨rfl,rfl,rfl⟩:=s;obtain⟨⟨p,e,v,w,t,z,E,F⟩,G⟩:=N x.1 o m I l;refine⟨⟨p,e,v,w,t,z,by simp only[Sc.w];omega,?_⟩,G⟩;simp only[bJ];rw[h9 _ _ _ _ (by rw[eW];omega)];exact F.append (oj.refl _)
    ·cases s
   ·split at s
    ·rename_i S Q R I
     simp only[aur,auK]at s;obtain⟨rfl,rfl,rfl⟩:=s;have V:a.w<=o:=by
      cases D:Nat.blt o a.w with
      |true=>rw[D]at H;cases H
      |false=>
       have:¬o<a.w:=λM=>by
        have:=ayD M;rw[show Nat.blt o a.w=Nat.ble (o+1) a.w from rfl]at D;rw[this]at D;cases D
       omega
     obtain⟨⟨p,e,v,w,t,z,E,F⟩,G⟩:=O x.2 (o - a.w) m I l;refine⟨⟨p,e,v,w,t,z,by simp only[Sc.w];omega,?_⟩,G⟩;simp only[bJ];rw[fA _ _ _ _ (by rw[eW];omega),eW];exact(oj.refl _).append F
    ·cases s
 |i k=>
  intro x o m y j q g l;simp only[rZ]at g;obtain⟨c,f⟩:=aY g;simp only[aup]at c;exact B _ x o m c.1 c.2 f l
 |b=>
  intro x o m y j q g l;simp only[rZ]at g;obtain⟨c,f⟩:=aY g;simp only[aup]at c;exact B _ x o m c.1 c.2 f l
 |sl r W=>
  intro x o m y j q g l;simp only[rZ]at g;obtain⟨c,f⟩:=aY g;simp only[aup]at c;exact B _ x o m c.1 c.2 f l
 |u=>
  intro x o m y j q g l;simp[rZ]at g
def abO:JS->Int->In
 |none,_=>true
 |some (a,_),i=>decide (i.toNat=a.toNat)
def Kd(T:EQ->bu)(ev:Nat->EV)(hg:Nat->At dO)(t:EQ)(x y:If)(k:eS->a_->At a):At a:=
 match(T t).ty with
 |some (_,m)=>match eE ev x with
  |.pt j o=>match hg j with
   |some (.box c e)=>match om (eE ev y)with
    |some xs=>cond (!(beq c D_) && beq xs.length m && Nat.ble (o+m) e.length && (bS xs).all AV.one && owE hg (eE ev y) && xs.all (owE hg)) (k [(j,some (.box c (o2 e o xs)))] (j::owU (eE ev y)++xs.flatMap owU)) none
    |none=>none
   |_=>none
  |.pe j i f o=>match hg j with
   |some (.arr c r xs true)=>cond (beq f r.w) (aW (ba xs i) λb=>match rZ hg (eE ev y) r b o m with
    |some (h,q,g)=>cond (g.contains j) none (k ((j,some (.arr c r (xs.set i.toNat h) true))::q) (j::g))
    |none=>none) none
   |some (.nr c r xs l)=>cond (beq f 1 && beq o 0 && beq m 1) (match eE ev y with
    |.ow p=>match hg p with
     |some (.arr _ _ _ _)=>cond (abO l i) (aW (ba xs i) λ_=>k [(j,some (.nr c r xs (some (i,some p))))] [j,p]) none
     |_=>none
    |_=>none) none
   |_=>none
  |_=>none
 |none=>none
def xE(T:EQ->bu)(ev:Nat->EV)(hg:Nat->At dO)(t:EQ)(x y v:If)(k:eS->a_->At a):At a:=
 match eE ev x with
 |.mp j=>match hg j with
  |some (.mp d e f g)=>match(T t).mp with
   |some (h,_)=>match J_ e (eE ev y)with
    |some c=>match Y5 f (eE ev v)with
     |some b=>cond (k8 d e && k8 h e) (k [(j,some (.mp d e f (dW e g c b)))] [j]) none
     |none=>none
    |none=>none
   |none=>none
  |_=>none
 |_=>none
def alx:bC->In
 |[.slice none 0 0]=>true
 |_=>false
def EF(T:EQ->bu)(ev:Nat->EV)(d:Nat)(t:EQ)(x y:If)(k:EV->eS->a_->Fr->At a):At a:=
 match(T t).el with
 |some (e,f,b,z)=>match(T t).co with
  |some (.sl r)=>cond (beq f 1 && EC x y && alx z) (match rJ ev x with
   |some c=>match rJ ev y with
    |some _=>aW (rK c b) λm=>k (.ow d) [(d,some (.nr e r (replicate m ([]:Do r.c9)) none))] [] (.one d)
    |none=>none
   |none=>none) none
  |_=>none
 |none=>none
def abP(T:EQ->bu)(ev:Nat->EV)(hg:Nat->At dO)(t:EQ)(j o:Nat)(e c f:iB)(k:EV->a_->At a):At a:=
 match(T t).ar with
 |some (n,_,b)=>match hg j with
  |some (.arr _ r g _)=>cond (beq o 0 && beq b r.w && f.isNone && Nat.ble n 1000000) (match loE ev e with
   |some l=>match hiE ev n c with
    |some h=>aW (iR (replicate n ()) l h) λ_=>k (.sw j l (h - l) b) [j]
    |none=>none
   |none=>none) none
  |_=>none
 |none=>none
def Y6(r:Sc):Nat->bC->In
 |0,z=>z.isEmpty
 |n+1,z=>match rI r z with
  |some a=>Y6 r n a
  |none=>false
def exM(T:EQ->bu)(ev:Nat->EV)(hg:Nat->At dO)(d:Nat)(w:Op)(k:EV->eS->a_->Fr->At a):At a:=
 match w with
 |.box t x=>match om (eE ev x)with
  |some u=>cond (!(beq t D_) && owE hg (eE ev x)) (k (.pt d 0) [(d,some (.box t u))] (owU (eE ev x)) (.one d)) none
  |none=>none
 |.alloc t=>cond (!(beq t D_)) (match(T t).ze with
  |some z=>match(T t).ar with
   |some (n,_,g)=>cond (Nat.ble n 3) (k (.pt d 0) [(d,some (.box t (z.map cvE)))] [] (.one d)) (match(T t).co with
    |some r=>cond (beq g r.w && Y6 r n z && Nat.ble n 1000000) (k (.pt d 0) [(d,some (.arr t r (replicate n (zeroV r)) true))] [] (.one d)) none
    |none=>none)
   |none=>k (.pt d 0) [(d,some (.box t (z.map cvE)))] [] (.one d)
  |none=>none) none
 |.makeSlice t x y=>match(T t).el with
  |some (e,g,b,z)=>match(T t).co with
   |some r=>cond (beq g r.w && Nat.blt 0 g && EC x y) (match rI r z with
    |some []=>match rJ ev x with
     |some f=>match rJ ev y with
      |some _=>aW (rK f b) λm=>k (.ow d) [(d,some (.arr e r (replicate m (zeroV r)) true))] [] (.one d)
      |none=>none
     |none=>none
    |_=>none) none
   |none=>none
  |none=>none
 |.makeMap t none=>match(T t).mp with
  |some (s,_)=>match(T t).kv with
   |some (l,D)=>cond (k8 s l) (k (.mp d) [(d,some (.mp s l D []))] [] (.one d)) none
   |none=>none
  |none=>none
 |.slice t x p i q=>match eE ev x with
  |.pt j o=>abP T ev hg t j o p i q λc h=>k c [] h .no
  |_=>Kc T ev hg t x p i q λc A h=>k c A h .no
 |.buildSlice t v B=>abN T ev hg d t v B.toList k
 |.call ⟨.builtin .append,⟨[x,y]⟩,⟨[t,C]⟩⟩=>cond (beq t C) (ED T ev hg d t x y k) none
 |_=>none
section
variable{P:Fd}{T:EQ->bu}{ev:Nat->EV}{hg:Nat->At dO}{n d:Nat}{ty:EQ}{pos:String}{af:dm}{gd:fH}
def FS.box{t:EQ}{x:If}{b:Do EV}(o:t≠D_)(p:d<n)(c:om (eE ev x)=some b)(l:owE hg (eE ev x)=true):
 FS P ⟨some d,.box t x,ty,pos,af,gd⟩ n ev hg (.pt d 0) [(d,some (.box t b))] (owU (eE ev x)) (.one d):=by
 intro a q m j g;have i:a.ev x=enc (eE ev x):=m.is rfl (λe=>by rw[e]at c;simp[om,enc,AV.one]at c);have f:=AB c;rw[<-i]at f;have k:=p6 (MP f (g.x x));have:=SS.box (P:=P) (t:=t) (ty:=ty) (pos:=pos) (af:=af) (gd:=gd) (d:=d) (K:=λs=>s=⟨a.n,jM (some d) (.pt d 0) (c8 d a.t),bs [(d,some (.box t b))]++bw d a.h⟩) o f (by rw[i];exact J8 l j λ_ h=>h) bv (by rw[k];rfl);exact SS.fresh g.t g.h this
def FS.alloc(c:gG P T){t:EQ}{z:bC}(f:t≠D_)(i:d<n)(g:(T t).ze=some z):
 FS P ⟨some d,.alloc t,ty,pos,af,gd⟩ n ev hg (.pt d 0) [(d,some (.box t (z.map cvE)))] [] (.one d):=by
 intro a j l h b;have e:=p6 (MQ (λk=>k==d) z);have:=SS.alloc (P:=P) (st:=a) (t:=t) (ty:=ty) (pos:=pos) (af:=af) (gd:=gd) (d:=d) (K:=λs=>s=⟨a.n,jM (some d) (.pt d 0) (c8 d a.t),bs [(d,some (.box t (z.map cvE)))]++bw d a.h⟩) f (c.ze _ _ g) bv (by rw[e];simp only[bs,Option.map,bU,MJ];rfl);exact SS.fresh b.t b.h this
def pW.rep{a c:Do AV}(h:oj a c):∀m,pW (replicate m a) (replicate m c)
 |0=>.nil
 |m+1=>.cons h (pW.rep h m)
def eO(r:Sc)(e:Do r.c9):∀c∈(List.map (bJ r) e).flatten,c.one=true:=by
 intro c a;obtain⟨l,b,a⟩:=awn.1 a;obtain⟨x,_,rfl⟩:=auD.1 b;exact oY r x c a
def FS.make(w:gG P T){t e:EQ}{x y:If}{g b:Nat}{z:bC}{r:Sc}{a:Int}{m:Nat}(J:d<n)(A:(T t).el=some (e,g,b,z))(B:g=r.w)(v:0<g)(F:rI r z=some [])(D:rJ ev x=some a)(E:rJ ev y=some a)(c:rK a b=some m):
 FS P ⟨some d,.makeSlice t x y,ty,pos,af,gd⟩ n ev hg (.ow d) [(d,some (.arr e r (replicate m (zeroV r)) true))] [] (.one d):=by
 intro f L o I l;unfold rK at c;split at c
 ·rename_i k
  cases c;obtain⟨O,i,p,q,u⟩:=nE r F;rw[au_]at i;subst i;obtain⟨M,G⟩:=jN D o;obtain⟨N,H⟩:=jN E o;have j:((a.toNat:Nat):Int)=a:=bv
  have:=SS.make (P:=P) (t:=t) (ty:=ty) (pos:=pos) (af:=af) (gd:=gd) (d:=d) (n:=a.toNat) (K:=λs=>s=⟨f.n,jM (some d) (.ow d) (c8 d f.t),[(d,some (.arr e g (replicate a.toNat (z.map lS)) true))]++bw d f.h⟩) (w.el _ _ A) (by rw[j];exact G) (by rw[j];exact H) k.2.1 k.2.2 q u v bv rfl;refine(SS.fresh l.t l.h this).l4 ?_;subst B;have C:=pW.rep p a.toNat;refine bQ.xC (h:=f.h) (rows':=List.map (bJ r) (replicate a.toNat (zeroV r))) ?_ (eO r _);rw[ayE];exact C
 ·cases c
def xF(c:AV):∀m:Nat,(replicate m [c]).flatten=replicate m c
 |0=>rfl
 |m+1=>by rw[avT,au4,xF c m];rfl
def ahW(h:alx G=true):G=[.slice none 0 0]:=by
 unfold alx at h;split at h
 ·rfl
 ·cases h
def MS(G:gG P T){k:EV->eS->a_->Fr->At a}{r:a}(S:d<n)(h:EF T ev d b c e k=some r):
 ∃g C D t,FS P ⟨some d,.makeSlice b c e,ty,pos,af,gd⟩ n ev hg g C D t/\k g C D t=some r:=by
 unfold EF at h;split at h
 ·rename_i g X i z H
  split at h
  ·rename_i N R
   obtain⟨u,j⟩:=aY h;simp only[aup]at u;obtain⟨⟨p,E⟩,q⟩:=u;have p:=auu p;have q:=ahW q;subst p;subst q;split at j
   ·rename_i f v
    split at j
    ·rename_i O w
     obtain⟨m,l,I⟩:=bq j;obtain rfl:=AE E v w;refine⟨_,_,_,_,λo U B Q A=>?_,I⟩;unfold rK at l;split at l
     ·rename_i y
      cases l;obtain⟨V,L⟩:=jN v B;obtain⟨W,M⟩:=jN w B;have x:((f.toNat:Nat):Int)=f:=bv
      have:=SS.make (P:=P) (t:=b) (ty:=ty) (pos:=pos) (af:=af) (gd:=gd) (d:=d) (n:=f.toNat) (K:=λs=>s=⟨o.n,jM (some d) (.ow d) (c8 d o.t),[(d,some (.arr g 1 (replicate f.toNat ([Value.slice none 0 0].map lS)) true))]++bw d o.h⟩) (G.el _ _ H) (by rw[x];exact L) (by rw[x];exact M) y.2.1 y.2.2 rfl rfl bv bv rfl;refine(SS.fresh A.t A.h this).l4 ?_;refine bQ.ahS (h:=o.h) λRd e0 Y J=>?_;have:=J.alo;have F:(replicate f.toNat ([Value.slice none 0 0].map lS)).flatten=wB N (replicate f.toNat []) none:=by
       show(replicate f.toNat [AV.sl true 0 []]).flatten=_;rw[xF,wB,ayE];rfl
      rw[F]at this;exact this
     ·cases l
    ·cases j
   ·cases j
  ·cases h
 ·cases h
def Un{r:Sc}:∀{n:Nat} {z:bC},Y6 r n z=true->∃a:Do bC,a.length=n/\a.flatten=z/\pW (a.map (List.map lS)) (replicate n (bJ r (zeroV r)))/\∀y∈a,y.all (λv=>(lS v).one)=true
 |0,z,h=>by
  have:z=[]:=by simpa[Y6]using h
  subst this;exact⟨[],rfl,rfl,.nil,λy b=>(by cases b)⟩
 |n+1,z,h=>by
  simp only[Y6]at h;split at h
  ·rename_i o k
   obtain⟨l,rfl,c,m,e⟩:=nE r k;obtain⟨a,f,g,i,j⟩:=Un h;refine⟨l::a,by simp[f],by simp[g],?_,λy b=>?_⟩
   ·rw[auL,avT]
    exact .cons c i
   ·rcases auT.1 b with rfl|b
    ·exact e
    ·exact j y b
  ·cases h
def FS.Eu(A:gG P T){t:EQ}{z:bC}{m e:Nat}{r:Sc}(Q:d<n)(L:(T t).ze=some z)(o:e=r.w)(B:Y6 r m z=true)(R:m<=1000000):
 FS P ⟨some d,.alloc t,ty,pos,af,gd⟩ n ev hg (.pt d 0) [(d,some (.arr t r (replicate m (zeroV r)) true))] [] (.one d):=by
 intro g S I O l;obtain⟨i,p,u,k,w⟩:=Un B;have E:(i.map (List.map lS)).flatten=z.map lS:=by rw[<-u,List.map_flatten]
 have F:∀q∈i.map (List.map lS),q.length=e:=by
  have N:∀{a c:Do (Do AV)},pW a c->(∀x∈c,x.length=e)->∀x∈a,x.length=e:=by
   intro a c C
   induction C with
   |nil=>intro _ x b;cases b
   |cons h I M=>
    intro f x b;rcases auT.1 b with rfl|b
    ·rw[<-h.len];exact f _ d5
    ·exact M (λy j=>f y (by simp[j])) x b
  refine N k λx b=>?_;rw[ay2 b,eW,o]
 have G:∀c∈(i.map (List.map lS)).flatten,c.one=true:=by
  intro c f;obtain⟨q,H,D⟩:=awn.1 f;obtain⟨y,j,rfl⟩:=auD.1 H;obtain⟨v,J,rfl⟩:=auD.1 D;exact auO.1 (w y j) v J
 have:=SS.Eu (P:=P) (t:=t) (ty:=ty) (pos:=pos) (af:=af) (gd:=gd) (d:=d) (K:=λs=>s=⟨g.n,jM (some d) (.pt d 0) (c8 d g.t),[(d,some (.arr t e (i.map (List.map lS)) true))]++bw d g.h⟩) (A.ze _ _ L) F (by rw[auz,p]) E G (by unfold maxLen;omega) bv rfl;refine(SS.fresh l.t l.h this).l4 ?_;subst o;refine bQ.xC (h:=g.h) (rows':=List.map (bJ r) (replicate m (zeroV r))) ?_ (eO r _);rw[ayE];exact k
def abQ(C:gG P T){k:EV->a_->At a}{r:a}{j o:Nat}{z y u:iB}(H:eE ev c=.pt j o)(h:abP T ev hg b j o z y u k=some r):
 ∃f A,Rm P (.slice b c z y u) ev hg f A/\k f A=some r:=by
 unfold abP at h;split at h
 ·rename_i n e O G
  split at h
  ·rename_i J N Q wr M
   obtain⟨x,g⟩:=aY h;clear h;simp only[aup]at x;obtain⟨⟨⟨i,K⟩,m⟩,v⟩:=x;have i:=auu i;subst i;have m:u=none:=by simpa using m
   subst m;have v:=auw v;split at g
   ·rename_i l F
    split at g
    ·rename_i p D
     obtain⟨q,s,E⟩:=bq g;refine⟨_,_,λI d ty pos af gd t L=>?_,E⟩;unfold iR at s;split at s
     ·rename_i w
      rw[axn]at w;have:=RS.aln (P:=P) (st:=I) (dd:=d) (ty:=ty) (pos:=pos) (af:=af) (gd:=gd) (C.ar _ _ G) (t.is H d8) (abL F t w.1) (abM D t bv) (l:=l.toNat) (h:=p.toNat) bv bv (by unfold maxLen;omega);have B:(p - l).toNat=p.toNat - l.toNat:=bv
      simp only[enc,B];exact this
     ·cases s
    ·cases g
   ·cases g
  ·cases h
 ·cases h
def FS.makeMap(e:gG P T){t:EQ}{b:TypeDesc}{z:Id}{g h:Sc}(j:d<n)(f:(T t).mp=some (b,z)):
 FS P ⟨some d,.makeMap t none,ty,pos,af,gd⟩ n ev hg (.mp d) [(d,some (.mp b g h []))] [] (.one d):=by
 intro a k l i c;have:=SS.makeMap (P:=P) (t:=t) (ty:=ty) (pos:=pos) (af:=af) (gd:=gd) (d:=d) (K:=λs=>s=⟨a.n,jM (some d) (.mp d) (c8 d a.t),[(d,some (.mp b []))]++bw d a.h⟩) (e.mp _ _ f) bv rfl;exact SS.fresh c.t c.h this
def AG{b ys e:Do a}(h:eo m b ys=some e):(b.length+ys.length)*m<=140737488355328/\b.length+ys.length<=maxLen/\e=b++ys:=by
 unfold eo at h;split at h
 ·rename_i c
  cases h;exact⟨c.1,c.2,rfl⟩
 ·cases h
def MT(S:gG P T){k:EV->eS->a_->Fr->At a}{r:a}(hd:d<n)(h:ED T ev hg d b c e k=some r):
 ∃g Z us W,FS P ⟨some d,.call ⟨.builtin .append, #[c,e], #[b,b]⟩,ty,pos,af,gd⟩ n ev hg g Z us W/\k g Z us W=some r:=by
 unfold ED at h;split at h
 ·rename_i f N l z U
  split at h
  ·rename_i s L
   obtain⟨R,t⟩:=aY h;clear h;simp only[aup]at R;have y:=auu R.1;have Q:0<N:=auw R.2;split at t
   ·rename_i H
    obtain⟨zs,I,w⟩:=bq t;obtain⟨C,D,rfl⟩:=AG I;refine⟨_,_,_,_,?_,w⟩;intro st X x A v;obtain⟨E,F,G⟩:=xD L A.hc λ_ h=>h;have:=SS.HU (P:=P) (t:=b) (x:=c) (y:=e) (ty:=ty) (pos:=pos) (af:=af) (gd:=gd) (d:=d) (K:=λJ=>J=⟨st.n,jM (some d) (.ow d) (c8 d st.t),((d,some (.arr f N (List.map (bJ s.r) s.xs) true))::bs s.os)++bw d st.h⟩)
     (S.el _ _ U) (x.is H d9) (by rw[x.is rfl G,y];exact E) Q (by rw[auz];simpa using D) (by rw[auz];simpa using C) bv (by rw[rY d F];rfl)
    have o:=SS.fresh v.t v.h this;rw[y]at o;exact o
   ·rename_i r' B H
    split at t
    ·rename_i a7 m
     obtain⟨O,rfl⟩:=dp m;cases O;rcases bA t with⟨_,o⟩|⟨Y,o⟩
     ·cases o
     obtain⟨zs,I,w⟩:=bq o;obtain⟨C,D,rfl⟩:=AG I;refine⟨_,_,_,_,?_,w⟩;intro st X x A v;obtain⟨E,F,G⟩:=xD L A.hc λ_ h=>h;have a1:0<s.xs.length:=by
      cases a5:s.xs with
      |nil=>rw[a5]at Y;cases Y
      |cons i aS=>simp
     have:=SS.ME (P:=P) (t:=b) (x:=c) (y:=e) (ty:=ty) (pos:=pos) (af:=af) (gd:=gd) (d:=d) (rows:=List.map (bJ s.r) B) (K:=λJ=>J=⟨st.n,jM (some d) (.ow d) (c8 d st.t),((d,some (.arr f N (List.map (bJ s.r) B++List.map (bJ s.r) s.xs) true))::bs s.os)++bw d st.h⟩)
      (S.el _ _ U) (by rw[x.is H d9,y];rfl) (by rw[x.is rfl G,y];exact E) (by rw[auz];exact a1) Q (by simp only[auz];exact D) (by simp only[auz];exact C) bv (by rw[rY d F];rfl)
     have o:=SS.fresh v.t v.h this;rw[y,<-avh]at o;exact o
    ·cases t
   ·rename_i j H
    split at t
    ·rename_i e' r' B wr hj
     split at t
     ·rename_i a7 m
      obtain⟨O,rfl⟩:=dp m;cases O;obtain⟨q,o⟩:=aY t;simp only[aup,avC]at q;obtain⟨⟨V,q2⟩,M⟩:=q;have V:=auu V;subst V;have M:d≠j:=λf=>by rw[f,auX]at M;cases M
      obtain⟨zs,I,w⟩:=bq o;obtain⟨C,D,rfl⟩:=AG I;refine⟨_,_,_,_,?_,w⟩;intro st X x A v;have a4:∀k,s.us.contains k=true->(j::s.us).contains k=true:=λk w=>by simp at w⊢;exact .inr w
      obtain⟨E,F,G⟩:=xD L A.hc a4;have a0:aZ (bs s.os++st.h) j=some (.arr f s.r.w (List.map (bJ s.r) B) wr):=by
       rw[db,Da];have a2:s.os.any (λp=>p.1==j)=false:=by
        have a6:∀g,H3 hg g=some s->∀p∈s.os,s.us.contains p.1=true:=by
         intro g m p u;unfold H3 at m;split at m
         ·simp only[aur]at m;rw[<-m]at u;cases u
         ·simp only[aur]at m;rw[<-m]at u;cases u
         ·split at m
          ·simp only[aur]at m
           rw[<-m]at u⊢;simp at u;simp[u]
          ·cases m
         ·cases m
        cases ha:s.os.any (λp=>p.1==j)with
        |false=>rfl
        |true=>
         obtain⟨p,u,a3⟩:=av6.1 ha;have:=a6 _ L p u;rw[show p.1=j by simpa using a3]at this;rw[this]at q2;cases q2
       rw[a2];exact A.at d5 hj
      have:=SS.MD (P:=P) (t:=b) (x:=c) (y:=e) (ty:=ty) (pos:=pos) (af:=af) (gd:=gd) (d:=d) (k:=j) (rows:=List.map (bJ s.r) B) (wr:=wr) (K:=λJ=>J=⟨st.n,jM (some d) (.ow d) (c8 d st.t),((d,some (.arr f N (List.map (bJ s.r) B++List.map (bJ s.r) s.xs) wr))::(j,none)::bs s.os)++bw d st.h⟩)
       (S.el _ _ U) (x.is H d9) (by rw[x.is rfl G,y];exact E) (by rw[y];exact a0) M Q (by simp only[auz];exact D) (by simp only[auz];exact C) bv (by rw[rY d F];rfl)
      have o:=SS.fresh v.t v.h this;rw[y,<-avh]at o;exact o
     ·cases t
    ·cases t
   ·cases t
  ·cases h
 ·cases h
def MU{h c e:Hp}(a:jK h t=some (c,S))(b:oa c i=some (e,v)):oa h (t::i)=some (e,S::v):=by
 simp only[oa,a,b]
def AH{r:Sc}:∀{t:xj} {j:Nat} {m:Do r.c9} {l:eS} {u w:a_} {st:St} {h:Hp},AF ev hg r j t=some (m,l,u)->Sk ev st->HC hg w h->(∀k,u.contains k=true->w.contains k=true)->
 ∃s f,oa h (t.map λp=>st.ev p.2)=some (bs l++h,s)/\lG (t.map (·.1)) s=some f/\CS hg l/\f.length=m.length/\pW (f.map (·.2)) (List.map (bJ r) m)/\(∀q∈f,q.2.all AV.one=true)/\∀i q,f[i]? =some q->q.1=j+i
 |[],j,m,l,u,w,st,h,a,A,y,B=>by
  simp only[AF,aur,auK]at a;obtain⟨rfl,rfl,rfl⟩:=a;exact⟨[],[],rfl,rfl,λk o c=>(by cases c),rfl,.nil,λq b=>(by cases b),λi q b=>(by simp at b)⟩
 |(i,x)::t,j,m,l,u,w,st,h,a,A,y,B=>by
  simp only[AF]at a;obtain⟨z,a⟩:=aY a;have z:=auu z;split at a
  ·rename_i v W Y C
   split at a
   ·rename_i a0 X Z K
    simp only[aur,auK]at a;obtain⟨rfl,rfl,rfl⟩:=a;obtain⟨⟨F,V,G,H,I,J⟩,E⟩:=BI C y (λk g=>B k (by simp at g⊢;exact .inl g));obtain⟨s,f,M,N,O,Q,R,S,U⟩:=AH (st:=st) K A (y.put E λk h=>h) (λk g=>B k (by simp at g⊢;exact .inr g));have L:st.ev x=enc (eE ev x):=A.is rfl (λe=>by
     rw[e]at C;cases r<;>simp[o0,nD,HY]at C)
    refine⟨F::s,(i,V)::f,?_,?_,λk o c=>?_,by simp[Q],.cons I R,?_,?_⟩
    ·rw[auL,fa,auV]
     exact MU (by rw[L];exact G) M
    ·simp only[auL,lG,H,N]
    ·rcases auC.1 c with c|c
     ·exact O k o c
     ·exact E k o c
    ·intro q b
     rcases auT.1 b with rfl|b
     ·exact J
     ·exact S q b
    ·intro D q b
     cases D with
     |zero=>simp at b;subst b;simpa using z
     |succ D=>
      have:=U D q (by simpa using b);omega
   ·cases a
  ·cases a
def AI{sz:Nat}:∀(a:Do (Nat×Do AV)) (b:Do AV) (j:Nat),b.length=j*sz->(∀i q,a[i]? =some q->q.1=j+i/\q.2.length=sz)->
 gD (λi=>some (i*sz,sz)) (b++replicate (a.length*sz) .un) a=some (b++(a.map (·.2)).flatten)
 |[],b,j,e,f=>by simp[gD]
 |(i,xs)::a,b,j,e,f=>by
  obtain⟨g,c⟩:=f 0 (i,xs) rfl;simp only[avO]at g;subst g;have k:replicate ((a.length+1)*sz) AV.un=replicate sz .un++replicate (a.length*sz) .un:=by
   rw[List.replicate_append_replicate];congr 1;rw[au6];omega
  have l:setCells (b++replicate ((a.length+1)*sz) AV.un) (i*sz) xs=(b++xs)++replicate (a.length*sz) .un:=by
   rw[k,fA _ _ _ _ bv,e,axm,h9 _ _ _ _ (by simp only[axn];simp only at c;omega),qa _ _ (by simp only[axn];simp only at c;omega),auV]
  simp only[auP,gD];rw[auo ⟨c,by simp only[auE,axn,e,au6];omega⟩,l];have:=AI (sz:=sz) a (b++xs) (i+1) (by simp only at c;simp only[auE,e,c,au6];omega) (λm q h=>by
   have:=f (m+1) q (by simpa using h);exact⟨bv,this.2⟩)
  rw[this];simp
def wF{sz:Nat}:∀(a:Do (Do AV)),(∀r∈a,r.length=sz)->chunk sz a.length a.flatten=a
 |[],_=>rfl
 |r::a,h=>by
  have b:=h r d5;simp only[auP,chunk,au4];rw[aw6 b,List.drop_left' b,wF a λx c=>h x (by simp[c])]
def abR(Q:gG P T){B:D8}{k:EV->eS->a_->Fr->At a}{r:a}(hd:d<n)(h:abN T ev hg d b m B.toList k=some r):
 ∃c u M N,FS P ⟨some d,.buildSlice b m B,ty,pos,af,gd⟩ n ev hg c u M N/\k c u M N=some r:=by
 unfold abN at h;split at h
 ·split at h
  ·rename_i S
   split at h
   ·rename_i e p j z G
    obtain⟨w,F⟩:=aY h;refine⟨_,_,_,_,λst hn I O A=>?_,F⟩;have Y:0<p:=auw w;have:=SS.buildSlice (P:=P) (t:=b) (len:=0) (parts:=B) (ty:=ty) (pos:=pos) (af:=af) (gd:=gd) (d:=d) (h':=st.h) (aS:=[]) (qs:=[]) (cs:=[]) (K:=λL=>L=⟨st.n,(d,.sl true p [])::st.t,st.h⟩) (Q.el _ _ G) (by rw[S];rfl) (by rw[S];rfl) (by simp[gD]) rfl d5 Y bv rfl;exact this.l4 (bQ.wkT Wk.RC)
   ·cases h
  ·cases h
 ·rename_i g
  split at h
  ·rename_i e p j z G
   split at h
   ·rename_i W a5
    split at h
    ·rename_i vs u M hv
     obtain⟨w,F⟩:=aY h;simp only[aup]at w;obtain⟨⟨⟨v,C⟩,D⟩,E⟩:=w;have v:=auu v;have C:=auu C;have D:=auw D;have E:0<p:=auw E;refine⟨_,_,_,_,λst hn I O A=>?_,F⟩;obtain⟨X,s,q1,q2,q3,q4,J,q6,q7⟩:=AH (st:=st) hv I O.hc λ_ h=>h;have V:∀q∈s,q.2.length=p:=λq t=>by
      obtain⟨i,hi,rfl⟩:=avc t;have A:=J.flat;have:∀(f c:Do (Do AV)),pW f c->(∀x∈c,x.length=p)->∀x∈f,x.length=p:=by
       intro f c Z
       induction Z with
       |nil=>simp
       |cons h I ih=>
        intro R x o;rcases auT.1 o with rfl|o
        ·rw[<-h.len];exact R _ d5
        ·exact ih (λy hy=>R y (by simp[hy])) x o
      exact this _ _ J (λx o=>by obtain⟨y,_,rfl⟩:=auD.1 o;rw[eW,v]) _ (auD.2 ⟨_,awO hi,rfl⟩)
     have H:=AI (sz:=p) s [] 0 d5 (λi q t=>⟨q7 i q t,V q (auI t)⟩);simp only[avd]at H;have U:s.length=g+1:=by rw[q4,C]
     rw[U]at H;have a0:chunk p (g+1) (s.map (·.2)).flatten=s.map (·.2):=by
      have:=wF (sz:=p) (s.map (·.2)) (λx o=>by obtain⟨q,t,rfl⟩:=auD.1 o;exact V q t);rw[auz,U]at this;exact this
     have:=SS.xA (P:=P) (t:=b) (len:=g+1) (parts:=B) (ty:=ty) (pos:=pos) (af:=af) (gd:=gd) (d:=d) (h':=bs u++st.h) (aS:=X) (qs:=s) (cs:=(s.map (·.2)).flatten) (K:=λL=>L=⟨st.n,jM (some d) (.ow d) (c8 d st.t),((d,some (.arr e p (s.map (·.2)) true))::bs u)++bw d st.h⟩) (Q.el _ _ G) q1 q2 H (by
      rw[auO];intro x o;obtain⟨l,hl,o⟩:=awn.1 o;obtain⟨q,t,rfl⟩:=auD.1 hl;exact auO.1 (q6 q t) x o) D E bv (by rw[a0,rY d q3];rfl)
     refine(SS.fresh A.t A.h this).l4 ?_;subst v;exact bQ.xC (h:=bs u++st.h) (rows':=List.map (bJ W) vs) J (eO W _)
    ·cases h
   ·cases h
  ·cases h
def Y7(R:gG P T){D:D8}{k:EV->eS->a_->Fr->At a}{r:a}(hd:d<n)(h:RU T ev hg d b m D.toList k=some r):
 ∃c u F G,FS P ⟨some d,.buildSlice b m D,ty,pos,af,gd⟩ n ev hg c u F G/\k c u F G=some r:=by
 unfold RU at h;split at h
 ·cases h
 ·rename_i g
  split at h
  ·rename_i e t j z V
   split at h
   ·rename_i rc a0
    split at h
    ·rename_i vs u F Z
     obtain⟨H,O⟩:=aY h;simp only[aup]at H;obtain⟨⟨⟨v,w⟩,A⟩,B⟩:=H;have v:=auu v;have w:=auu w;have A:=auw A;have B:0<t:=auw B;refine⟨_,_,_,_,λst hn L Q W=>?_,O⟩;obtain⟨N,p,q1,q2,q3,q4,E,q6,q7⟩:=AH (st:=st) Z L Q.hc λ_ h=>h;have M:∀q∈p,q.2.length=t:=λq s=>by
      obtain⟨i,X,rfl⟩:=avc s;have W:=E.flat;have:∀(f c:Do (Do AV)),pW f c->(∀x∈c,x.length=t)->∀x∈f,x.length=t:=by
       intro f c S
       induction S with
       |nil=>simp
       |cons h L ih=>
        intro I x o;rcases auT.1 o with rfl|o
        ·rw[<-h.len];exact I _ d5
        ·exact ih (λy hy=>I y (by simp[hy])) x o
      exact this _ _ E (λx o=>by obtain⟨y,_,rfl⟩:=auD.1 o;rw[eW,v]) _ (auD.2 ⟨_,awO X,rfl⟩)
     have C:=AI (sz:=t) p [] 0 d5 (λi q s=>⟨q7 i q s,M q (auI s)⟩);simp only[avd]at C;have J:p.length=g+1:=by rw[q4,w]
     rw[J]at C;have U:chunk t (g+1) (p.map (·.2)).flatten=p.map (·.2):=by
      have:=wF (sz:=t) (p.map (·.2)) (λx o=>by obtain⟨q,s,rfl⟩:=auD.1 o;exact M q s);rw[auz,J]at this;exact this
     have:=SS.buildSlice (P:=P) (t:=b) (len:=g+1) (parts:=D) (ty:=ty) (pos:=pos) (af:=af) (gd:=gd) (d:=d) (h':=bs u++st.h) (aS:=N) (qs:=p) (cs:=(p.map (·.2)).flatten) (K:=λs'=>s'=⟨st.n,(d,.sl true t (p.map (·.2)))::st.t,bs u++st.h⟩) (R.el _ _ V) q1 q2 C (by
      rw[auO];intro x o;obtain⟨l,Y,o⟩:=awn.1 o;obtain⟨q,s,rfl⟩:=auD.1 Y;exact auO.1 (q6 q s) x o) A B bv (by rw[U])
     refine this.l4 (bQ.wkT ?_);rw[v];exact Wk.rows E (eO rc vs)
    ·cases h
   ·cases h
  ·cases h
def wG(p:gG P T){A:Op}{k:EV->eS->a_->Fr->At a}{r:a}(l:d<n)(h:exM T ev hg d A k=some r):
 ∃c s q w,FS P ⟨some d,A,ty,pos,af,gd⟩ n ev hg c s q w/\k c s q w=some r:=by
 unfold exM at h;split at h
 ·split at h
  ·rename_i J t
   obtain⟨i,g⟩:=aY h;simp only[aup]at i;exact⟨_,_,_,_,FS.box (AA i.1) l t i.2,g⟩
  ·cases h
 ·obtain⟨v,h⟩:=aY h
  have v:=AA v;split at h
  ·rename_i z u
   split at h
   ·rename_i m e I K
    rcases bA h with⟨_,h⟩|⟨_,h⟩
    ·exact⟨_,_,_,_,FS.alloc p v l u,h⟩
    ·split at h
     ·rename_i H M
      obtain⟨i,g⟩:=aY h;simp only[aup]at i;exact⟨_,_,_,_,FS.Eu p l u (auu i.1.1) i.1.2 (auw i.2),g⟩
     ·cases h
   ·exact⟨_,_,_,_,FS.alloc p v l u,h⟩
  ·cases h
 ·split at h
  ·rename_i e I b z E
   split at h
   ·rename_i H t
    obtain⟨i,g⟩:=aY h;clear h;simp only[aup]at i;obtain⟨⟨B,C⟩,D⟩:=i;split at g
    ·rename_i u
     split at g
     ·rename_i f y
      split at g
      ·rename_i c t
       obtain⟨m,x,F⟩:=bq g;have:=AE D y t;subst this;exact⟨_,_,_,_,FS.make p l E (auu B) (auw C) u y t x,F⟩
      ·cases g
     ·cases g
    ·cases g
   ·cases h
  ·cases h
 ·split at h
  ·rename_i O z x
   split at h
   ·rename_i N Q L
    obtain⟨i,g⟩:=aY h;exact⟨_,_,_,_,FS.makeMap p l x,g⟩
   ·cases h
  ·cases h
 ·split at h
  ·rename_i j o G
   obtain⟨c,q,i,g⟩:=abQ p G h;exact⟨c,_,q,_,FS.read i l,g⟩
  ·obtain⟨c,s,q,i,g⟩:=RT p l h
   exact⟨c,s,q,_,i,g⟩
 ·obtain⟨c,s,q,w,i,g⟩:=abR p l h
  exact⟨c,s,q,_,i,g⟩
 ·obtain⟨i,g⟩:=aY h
  have:=auu i;subst this;exact MT p l g
 ·cases h
def pW.set(a:Nat)(b:oj i v):pW (h.set a i) (h.set a v):=by
 induction h generalizing a with
 |nil=>exact .nil
 |cons r h c=>
  cases a with
  |zero=>exact .cons b (pW.refl h)
  |succ a=>exact .cons (oj.refl r) (c a)
def o_{hg:Nat->At dO}{x:J.c9}{b:eS}(h:nD hg J A=some (x,b,C)):∀p∈b,C.contains p.1=true:=by
 unfold nD at h;split at h
 ·split at h
  ·split at h
   ·simp only[aur,auK]at h
    obtain⟨_,rfl,rfl⟩:=h;intro p a;simp at a;simp[a]
   ·cases h
  ·cases h
 ·split at h
  ·simp only[aur,auK]at h
   obtain⟨_,rfl,rfl⟩:=h;intro p a;cases a
  ·cases h
def xG{hg:Nat->At dO}:∀(s:Sc) {j f:Do EV} {x:s.c9} {b:eS} {e:a_},iE hg s j=some (x,f,b,e)->∀p∈b,e.contains p.1=true
 |.pr a c,j,f,x,b,e,h=>by
  simp only[iE]at h;split at h
  ·rename_i g
   split at h
   ·rename_i l
    simp only[aur,auK]at h;obtain⟨_,_,rfl,rfl⟩:=h;intro p i;simp only[axQ,auC,avn];rcases auC.1 i with i|i
    ·have:=xG c l p i;simp at this;exact .inr this
    ·have:=xG a g p i;simp at this;exact .inl this
   ·cases h
  ·cases h
 |.u,j,f,x,b,e,h=>by
  simp only[iE,aur,auK]at h;obtain⟨_,_,rfl,rfl⟩:=h;intro p i;cases i
 |.i k,[],f,x,b,e,h=>by simp[iE]at h
 |.b,[],f,x,b,e,h=>by simp[iE]at h
 |.sl r,[],f,x,b,e,h=>by simp[iE]at h
 |.i k,c::j,f,x,b,e,h=>by
  simp only[iE]at h;split at h
  ·rename_i g
   simp only[aur,auK]at h;obtain⟨_,_,rfl,rfl⟩:=h;exact o_ g
  ·cases h
 |.b,c::j,f,x,b,e,h=>by
  simp only[iE]at h;split at h
  ·rename_i g
   simp only[aur,auK]at h;obtain⟨_,_,rfl,rfl⟩:=h;exact o_ g
  ·cases h
 |.sl r,c::j,f,x,b,e,h=>by
  simp only[iE]at h;split at h
  ·rename_i g
   simp only[aur,auK]at h;obtain⟨_,_,rfl,rfl⟩:=h;exact o_ g
  ·cases h
def MV{hg:Nat->At dO}{x:J.c9}{b:eS}(h:o0 hg J A=some (x,b,C)):∀p∈b,C.contains p.1=true:=by
 unfold o0 at h;split at h
 ·split at h
  ·split at h
   ·rename_i a
    simp only[aur,auK]at h;obtain⟨_,rfl,rfl⟩:=h;exact xG _ a
   ·cases h
  ·split at h
   ·rename_i a
    simp only[aur,auK]at h;obtain⟨_,rfl,rfl⟩:=h;exact xG _ a
   ·cases h
  ·cases h
 ·split at h
  ·cases h
  ·cases h
  ·exact o_ h
  ·exact o_ h
  ·exact o_ h
def ahX{hg:Nat->At dO}:∀(r:Sc) (x:r.c9) (o m:Nat) (y:r.c9) (b:eS) (c:a_),rZ hg A r x o m=some (y,b,c)->∀p∈b,c.contains p.1=true:=by
 intro r
 induction r with
 |pr a i f g=>
  intro x o m y b c h;simp only[rZ]at h;rcases bA h with⟨_,h⟩|⟨_,h⟩
  ·exact MV h
  ·rcases bA h with⟨_,h⟩|⟨_,h⟩
   ·split at h
    ·rename_i e
     simp only[aur,auK]at h;obtain⟨_,rfl,rfl⟩:=h;exact f _ _ _ _ _ _ e
    ·cases h
   ·split at h
    ·rename_i e
     simp only[aur,auK]at h;obtain⟨_,rfl,rfl⟩:=h;exact g _ _ _ _ _ _ e
    ·cases h
 |u=>intro x o m y b c h;simp[rZ]at h
 |_=>
  intro x o m y b c h;simp only[rZ]at h;obtain⟨_,h⟩:=aY h;exact MV h
def RW(L:gG P T){k:eS->a_->At a}{r:a}(h:Kd T ev hg b c e k=some r):
 ∃v A,FS P ⟨none,.store b c e,ty,pos,af,gd⟩ n ev hg .un v A .no/\k v A=some r:=by
 unfold Kd at h;split at h
 ·rename_i ag m N
  split at h
  ·rename_i j o H
   split at h
   ·rename_i G R C
    split at h
    ·rename_i w O
     obtain⟨x,y⟩:=aY h;simp only[aup]at x;obtain⟨⟨⟨⟨⟨a0,F⟩,I⟩,J⟩,a4⟩,a5⟩:=x;refine⟨_,_,λst Z z u X=>?_,y⟩;have E:st.ev e=enc (eE ev e):=z.is rfl (λf=>by rw[f]at O;simp[om,enc,AV.one]at O);have U:=AB O;rw[<-E]at U;refine SS.oQ (AA a0) (z.is H d9) (u.at d5 C) (L.ty _ _ N) U (by rw[e_];exact auu F) J (by rw[E];exact J8 a4 u (λk s=>by simp at s⊢;exact .inr (.inl s))) ?_ (by rw[e_];exact auw I) ?_
     ·rw[auO]
      intro l V;rw[dV]at V;obtain⟨Q,W,rfl⟩:=auD.1 V;refine J8 (auO.1 a5 Q W) u λk s=>?_;simp only[axQ,auT,auC,avI,avn]at s⊢;exact .inr ⟨Q,W,s⟩
     ·simp only[bs,Option.map,bU,pY];rfl
    ·cases h
   ·cases h
  ·rename_i j i sz o H
   split at h
   ·rename_i G t w C
    obtain⟨x,y⟩:=aY h;have F:=auu x;obtain⟨g,B,s⟩:=bq y;obtain⟨i0,B⟩:=eJ B;split at s
    ·rename_i a' v A D
     rcases bA s with⟨_,s⟩|⟨a6,s⟩
     ·cases s
     refine⟨_,_,λst Z z u X=>?_,s⟩;have aj:∀k,A.contains k=true->(j::A).contains k=true:=λk s=>by simp at s⊢;exact .inr s
     obtain⟨⟨c1,R,S,g2,g3,g4,g5,g6⟩,g7⟩:=ahU u.hc t g o m D aj;have E:st.ev e=enc (eE ev e):=z.is rfl (λf=>by
      rw[f]at S;have ad:∀(r:Sc) (c:r.c9) (o m:Nat),rZ hg .un r c o m=none:=by
       intro r
       induction r with
       |pr g b2 ak al=>
        intro c o m;simp only[rZ,ak,al,o0,Bool.cond_self]
       |_=>intro c o m;simp[rZ,o0,nD,HY]
      rw[f,ad]at D;cases D)
     have aa:aZ (bs v++st.h) j=some (.arr G t.w (List.map (bJ t) w) true):=by
      have hb:=(u.hc.put g7 λk h=>h) j d5 _ _ _ _ C;rw[db,Da];cases a9:v.any (λp=>p.1==j)with
      |false=>exact u.at d5 C
      |true=>
       exfalso;obtain⟨p,ae,ah⟩:=av6.1 a9;have am:∀(r:Sc) (c:r.c9) (o m:Nat) (y':r.c9) (v:eS) (A:a_),rZ hg (eE ev e) r c o m=some (y',v,A)->∀p∈v,A.contains p.1=true:=ahX;have:=am _ _ _ _ _ _ _ D p ae;rw[show p.1=j by simpa using ah]at this;rw[this]at a6;cases a6
     have ai:(List.map (bJ t) w)[i.toNat]? =some (bJ t g):=by rw[auM,B];rfl
     subst F;have:=SS.abK (P:=P) (t:=b) (x:=c) (y:=e) (ty:=ty) (pos:=pos) (af:=af) (gd:=gd) (K:=λs'=>s'=⟨st.n,st.t,(j,some (.arr G t.w ((List.map (bJ t) w).set i.toNat (setCells (bJ t g) o R)) true))::(bs v++st.h)⟩)
      (z.is H d9) (by rw[E];exact S) aa ai (L.ty _ _ N) g2 g4 g3 g5 rfl
     refine this.l4 ?_;refine bQ.xC (h:=bs v++st.h) ?_ (eO t _);rw[awl];exact pW.set _ g6
    ·cases s
   ·rename_i G t w M C
    obtain⟨x,y⟩:=aY h;simp only[aup]at x;have F:=auu x.1.1;have I:=auu x.1.2;have J:=auu x.2;subst F;subst I;subst J;split at y
    ·rename_i p E
     split at y
     ·rename_i t2 r2 ys wr2 D
      obtain⟨Y,h3⟩:=aY y;obtain⟨g,B,s⟩:=bq h3;obtain⟨i0,B⟩:=eJ B;refine⟨_,_,λst Z z u X=>?_,s⟩;have a7:aZ st.h p=some (bU (.arr t2 r2 ys wr2)):=u.at d5 D;have ac:i.toNat<w.length:=(aus.1 B).1;have a8:st.ev e=.ow p:=z.is E d9;have ab:(wB t w M).length=w.length:=by
       unfold wB;split<;>simp
      refine SS.J1 (z.is H d9) (u.at d5 C) (L.ty _ _ N) (by rw[a8];rfl) rfl (by rw[a8];simp only[oR,a7,bU]) (by simp only[oR,a7,bU]) (by rw[ab];exact ac) ?_;have:(wB t w M).set i.toNat (.ow p)=wB t w (some (i,some p)):=by
       unfold abO at Y;cases M with
       |none=>rfl
       |some q=>
        obtain⟨i1,q⟩:=q;have:i.toNat=i1.toNat:=avo Y;simp only[wB,<-this,ayA,nrH]
      simp only[bs,Option.map,bU,this];rfl
     ·cases y
    ·cases y
   ·cases h
  ·cases h
 ·cases h
def BJ(B:gG P T){x y v:If}{k:eS->a_->At a}{r:a}(h:xE T ev hg b x y v k=some r):
 ∃s t,FS P ⟨none,.mapUpdate b x y v,ty,pos,af,gd⟩ n ev hg .un s t .no/\k s t=some r:=by
 unfold xE at h;split at h
 ·rename_i j G
  split at h
  ·rename_i L K l M D
   split at h
   ·rename_i Q z E
    split at h
    ·rename_i g m
     split at h
     ·rename_i f o
      obtain⟨i,w⟩:=aY h;simp only[aup]at i;have C:=o9 i.1 i.2;subst C;obtain⟨I,J⟩:=rW i.1 g;refine⟨_,_,λq O p A N=>?_,w⟩;have u:enc (eE ev v)=enc (jd l f):=by rcases Um o with h|h<;>exact h.1
      have F:q.ev v=enc (eE ev v):=p.is rfl (λe=>by rw[e]at o;cases l<;>simp[Y5]at o);have H:q.ev y=enc (eE ev y):=p.is rfl (λe=>by rw[e]at m;cases K<;>simp[J_,HY]at m);refine SS.mapUpdate (B.mp _ _ E) (p.is G d8) (h1:=q.h) (c:=enc (jd l f)) (by rw[F,u];exact EE l f) (A.at d5 D) (by rw[H];exact xB i.1 m) I ?_;simp only[bs,Option.map,bU];rw[Ex J];rfl
     ·cases h
    ·cases h
   ·cases h
  ·cases h
 ·cases h
end
section
open Go Go.RowKit MapKept
section
def MW(rows:Do a)(l m:Nat)(z:a):Do a:=rows.take l++(replicate m z++rows.drop (l+m))
def MX(b:Do a)(l:Nat)(z:a):MW b l 0 z=b:=by simp[MW]
def abS{b:Do a}{l m:Nat}{z:a}(h:l<b.length):MW (b.set l z) (l+1) m z=MW b l (m+1) z:=by
 unfold MW;have c:(b.set l z).take (l+1)=b.take l++[z]:=by
  rw[List.take_succ_eq_append_getElem (by simpa using h)];rw[axE,List.getElem_set_self,List.set_eq_of_length_le (by rw[au8];exact Nat.min_le_left _ _)]
 have e:(b.set l z).drop (l+1+m)=b.drop (l+(m+1)):=by
  rw[List.drop_set_of_lt bv,show l+1+m=l+(m+1) by omega]
 rw[c,e,avT];simp
def BK{α:Type}:∀(xs A B:Do α),xs.length=B.length->setCells (A++B) A.length xs=A++xs
 |[],A,B,h=>by
  have:B=[]:=avq h.symm;subst this;rfl
 |x::xs,A,[],h=>by simp at h
 |x::xs,A,y::B,h=>by
  have e:(A++y::B).set A.length x=(A++[x])++B:=by rw[axO _ _ (auq _)];simp
  rw[setCells,e,show A.length+1=(A++[x]).length by simp,BK xs (A++[x]) B (by simpa using h)];simp
def MY{b B:Do a}(h:b.length=B.length):setCells B 0 b=b:=BK b [] B h
section
variable{P:Fd}
def kA{a:Addr}{b:GE}:∀{us vs:bC} {i:Nat} {w:GE},(storeCells a us i).run P w=.ok () b->(storeCells a (us++vs) i).run P w=(storeCells a vs (i+us.length)).run P b
 |[],vs,i,w,h=>by
  have:w=b:=by simpa[storeCells]using h
  subst this;rfl
 |u::us,vs,i,w,h=>by
  simp only[storeCells,avH,auF]at h⊢;cases c:(store (a.add i) u).run P w with
  |ok x e=>
   rw[c]at h;simp only[auG]at h⊢;rw[kA h,auP,show i+1+us.length=i+(us.length+1) by omega]
  |_=>rw[c]at h;cases h
def Ga.clear{x:Bs}{s:bF}{k b:Nat}{t:EQ}{r:Nat}{zs:bC}(D:zs.all (λv=>(lS v).one)=true)(p:zs.length=r):∀(m l:Nat) {st:St} {e:Env} {a:Act} {w:GE} {f:Do (Do AV)} (h:Ga x s e st a w) (n:aZ st.h k=some (.arr t r f true)) (o:e.bW k=some b)
 (z:l+m<=f.length) (q g:Nat) (B:g+q=l*r),
 ∃H F u,(storeCells ⟨b,g,none⟩ (replicate m zs).flatten q).run P w=.ok () F/\Ga x s H ⟨st.n,st.t,u⟩ a F/\aZ u k=some (.arr t r (MW f l m (zs.map lS)) true)/\∀j,j≠k->aZ u j=aZ st.h j
 |0,l,st,e,a,w,f,h,n,o,z,q,g,B=>⟨e,w,st.h,rfl,h,by rw[MX];exact n,λ_ _=>rfl⟩
 |m+1,l,st,e,a,w,f,h,n,o,z,q,g,B=>by
  have A:l<f.length:=bv
  have C:f[l]? =some f[l]:=auy A;have R:=(h.sr.ob _ _ n).1 _ (auI C);have O:LR (VR (bN x s e st.h w) none) (zs.map lS) zs:=xo zs;obtain⟨Z,w1,h1,W,J,E,U,G⟩:=Ga.rM (P:=P) (i:=l) (zs.map lS) zs 0 h n o C O (λc N=>by
   obtain⟨v,Q,rfl⟩:=auD.1 N;exact auO.1 D v Q) (by simp[p]) q g bv
  rw[MY (by simp[p,R])]at E;obtain⟨I,Y,M,X,L,S,V⟩:=Ga.clear D p m (l+1) J E (by rw[G];exact o) d7 (q+zs.length) g (by rw[p,au6,aws];omega);refine⟨I,Y,M,?_,L,?_,λj y=>by rw[V j y,U j y]⟩
  ·rw[avT,au4,kA W];exact X
  ·rw[S,abS A]
variable{st:St}{d:Nat}{ty:EQ}{pos:String}{af:dm}{gd:fH}{K:St->Prop}
def MZ{α:Type}(z:Do α):∀(m j:Nat),0<z.length->j<m*z.length->(replicate m z).flatten[j]? =z[j % z.length]?
 |0,j,b,a=>by simp at a
 |m+1,j,b,a=>by
  rw[avT,au4];by_cases h:j<z.length
  ·rw[au7 h,awH h]
  ·rw[avG bv,MZ z m (j - z.length) b (by rw[au6,aws]at a;omega),<-ayn bv]
def SS.clear{t E s:EQ}{x:If}{k l m g G:Nat}{z:bC}{r:Do (Do AV)}(Y:Hh P t=some (E,g,G,z))(Z:st.ev x=.sw k l m g)(B:aZ st.h k=some (.arr s g r true))(S:l+m<=r.length)(W:0<g)
 (a0:z.all (λv=>(lS v).one)=true) (p:K ⟨st.n,st.t,(k,some (.arr s g (MW r l m (z.map lS)) true))::st.h⟩):
 SS P ⟨none,.call ⟨.builtin .clear, #[x], #[t]⟩,ty,pos,af,gd⟩ st K:=by
 intro w0 a1 e a w next Q h C
 obtain⟨i,c,p2,p3,p4,F,rfl,_,rfl⟩:=cX Y;have y:(#[x]:gp).map a.eval= #[a.eval x]:=by simp only[awI,auL,avy]
 have q:=h.ev x;rw[Z]at q;generalize A:a.eval x=u at q;cases q with
 | @sw _ _ _ _ _ b o a2 I V h1 h2=>
  cases m with
  |zero=>
   rw[MX]at p;refine eu (v:=undef) (w':=w) ?_ (C _ p _ _ _ (h.k5 λj=>?_))
   ·simp[execOp,resolve,y,A,invoke,builtin,Builtin.clear_,auR p2,undef]
   ·by_cases f:j=k
    ·subst f;rw[bf];exact B.symm
    ·rw[bc f]
  |succ m=>
   obtain⟨e',w',h',D,M,R,N⟩:=Ga.clear (P:=P) a0 (by simpa using F) (m+1) l h B I S 0 o (by rw[V bv];rfl);have L:(Builtin.zeroCells c.cells (m+1)).toList=(replicate (m+1) c.cells.toList).flatten:=by
    have n:0<c.cells.size:=by rw[F];exact W
    refine avX λj=>?_;have X:(Builtin.zeroCells c.cells (m+1)).toList.length=(m+1)*c.cells.size:=by simp[av3]
    have J:((replicate (m+1) c.cells.toList).flatten).length=(m+1)*c.cells.size:=d5
    by_cases f:j<(m+1)*c.cells.size
    ·rw[MZ c.cells.toList (m+1) j (by simpa using n) (by simpa using f)]
     have a3:j % c.cells.toList.length<c.cells.size:=by simpa using awV j n
     have O:j<(m+1)*c.cells.size:=f;rw[avL,avL];have H:j % c.cells.toList.length=j % c.cells.size:=d5
     rw[H];have U:j % c.cells.size<c.cells.size:=awV j n;simp[Builtin.zeroCells,O,U]
    ·rw[au5 (by rw[X];omega),au5 (by rw[J];omega)]
   rw[<-L]at D;refine eu (v:=undef) (w':=w') ?_ (C _ p _ _ _ (M.k5 λj=>?_))
   ·simp[execOp,resolve,y,A,invoke,builtin,Builtin.clear_,auR p2,undef,zeroValue,typeInfo,p3,p4,D]
   ·by_cases f:j=k
    ·subst f;rw[bf];exact R.symm
    ·rw[bc f,N j f]
open Classical in
def Hy{α:Type}:Do (Id×α)->Id->Nat
 |[],_=>0
 |(k,_)::es,x=>if k=x then 0 else Hy es x+1
def H5{α:Type}:∀{a:Do (Id×α)} {x:Id},fj a x=none->Hy a x=a.length
 |[],_,_=>rfl
 |(k,c)::a,x,h=>by
  rw[fj]at h;by_cases b:k=x
  ·rw[auo b]at h;cases h
  ·rw[aun b]at h
   rw[Hy,aun b,H5 h];rfl
def Uo{α:Type}:∀{a:Do (Id×α)} {x:Id} {j:Nat} {c:α},a[j]? =some (x,c)->(∀(i:Nat) p,i<j->a[i]? =some p->p.1≠x)->Hy a x=j
 |[],_,_,_,h,_=>by simp at h
 |(k,e)::a,x,j,c,h,b=>by
  cases j with
  |zero=>simp at h;rw[Hy,auo h.1]
  |succ j=>
   rw[Hy,aun (b 0 (k,e) bv rfl),Uo (j:=j) (c:=c) (by simpa using h) λi p g f=>b (i+1) p bv (by simpa using f)]
def SS.mapEntry{t:EQ}{x y:If}{k:Nat}{I:TypeDesc}{z f:Id}{r:Do (Id×AV)}(ht:mapA P t=some (I,z))(hx:st.ev x=.mp k)
 (S:aZ st.h k=some (.mp I r)) (hy:∀(Rd:bF) E u,VR Rd E (st.ev y) u->u=f) (B:k4 I f) (hd:d<st.n)
 (hK:K ⟨st.n,(d,.tu [(fj r f).getD (Mf z),.v (.int .i64 (Hy r f:Nat))])::st.t,(k,some (.mp I (oh r f ((fj r f).getD (Mf z)))))::st.h⟩):SS P ⟨some d,.mapEntry t x y,ty,pos,af,gd⟩ st K:=by
 intro N O e a w next Q A hn
 obtain⟨kt,et,i,p1,p2,p3,p4⟩:=h8 ht;obtain⟨b,g,D,a6,L,ah,s,C⟩:=A.HX hx S;have ar:=hy _ _ _ (A.ev y);have X:=A.sr.base _ _ _ S L;obtain⟨c,v,j,n,o,hc,a9,H,ao,ak⟩:∃c v j n o,(fj r f).getD (Mf z)=c/\VR (bN N O e st.h w) none c v/\Hy r f=j/\
  (Instr.mapEntry t (.map (some b)) f).run P w=.ok (.tuple #[v,.int .i64 (j:Nat)]) {w with heap:=w.heap.setIfInBounds b (.map n o)}/\MR (bN N O e st.h w) I (oh r f c) n o:=by
  rcases C.find (P:=P) B p2 with⟨J,F,G,f4⟩|⟨j,m,c,J,F,G,f4,f5,f6,f7⟩
  ·obtain⟨n,o,M,Y⟩:=Hg.put (P:=P) C (λ_ _ h=>h) B p1 p2 (J0 z) s
   have a0:(Instr.mapUpdate t (.map (some b)) f z).run P w=.ok () {w with heap:=w.heap.setIfInBounds b (.map (g.push {key:=f,val:=z,born:=D}) (D+1))}:=by
    simp[Instr.mapUpdate,auR p1,avv s,p2.MF _ _ _ B,J,avV _ s,Result.andThen]
   rw[a0]at M;have hw:({w with heap:=w.heap.setIfInBounds b (.map (g.push {key:=f,val:=z,born:=D}) (D+1))}:GE)={w with heap:=w.heap.setIfInBounds b (.map n o)}:=by
    injection M
   refine⟨_,z,r.length,n,o,rfl,by rw[G];exact J0 z,H5 G,?_,by rw[G];exact Y⟩;rw[<-hw];have a8:D=r.length:=by rw[C.clk,C.len]
   simp[Instr.mapEntry,auR p1,avv s,p2.MF _ _ _ B,J,avV _ s,zeroValue,typeInfo,p3,p4,goInt,a8]
  ·obtain⟨n,o,M,Y⟩:=Hg.put (P:=P) (R':=VR (bN N O e st.h w) none) C (λ_ _ h=>h) B p1 p2 f5 s
   have av:∀R,g[j]? =some R->({R with key:=f,val:=m.val}:MapEntry)=R:=λR a3=>by rw[F]at a3;cases a3;cases m;subst G;rfl
   have aj:g.modify j (λe=>{e with key:=f})=g.modify j (λe=>{e with key:=f,val:=m.val}):=by
    apply Array.ext_getElem?;intro q;rw[av7,av7];by_cases Z:j=q
    ·subst Z;rw[auo rfl,auo rfl,F];cases m;rfl
    ·rw[aun Z,aun Z]
   have a0:(Instr.mapUpdate t (.map (some b)) f m.val).run P w=.ok () {w with heap:=w.heap.setIfInBounds b (.map (g.modify j λe=>{e with key:=f,val:=m.val}) D)}:=by
    simp[Instr.mapUpdate,auR p1,avv s,p2.MF _ _ _ B,J,F,G,p2.stay _ _ B,avV _ s,Result.andThen]
   rw[a0]at M;have hw:({w with heap:=w.heap.setIfInBounds b (.map (g.modify j λe=>{e with key:=f,val:=m.val}) D)}:GE)={w with heap:=w.heap.setIfInBounds b (.map n o)}:=by
    injection M
   have ab:∀(i:Nat) p,i<j->r[i]? =some p->p.1≠f:=λi p ad hp an=>by
    have ag:∃U,g[i]? =some U/\U.key=p.1:=by
     have hi:i<g.size:=by rw[C.len];exact(aus.1 hp).1
     exact⟨g[i],avb hi,(C.key i p _ hp (avb hi)).1⟩
    obtain⟨U,a4,ai⟩:=ag;have ac:i<g.toList.length:=by have:=(au9.1 a4).1;simpa using this
    have ae:j<g.toList.length:=by have:=(au9.1 F).1;simpa using this
    have a5:=axL.1 ((ayv g D).1 C.ky).2.2 i j ac ae ad;have e1:g.toList[i]=U:=by
     have:=(au9.1 a4).2;simpa using this
    have e2:g.toList[j]=m:=by
     have:=(au9.1 F).2;simpa using this
    rw[e1,e2]at a5;exact a5 (by rw[ai,an,G])
   refine⟨c,m.val,j,n,o,by rw[f4];rfl,f5,Uo f6 ab,?_,Y⟩;rw[<-hw,<-aj];have a7:m.born=j:=C.Rk j m F;simp[Instr.mapEntry,auR p1,avv s,p2.MF _ _ _ B,J,F,G,p2.stay _ _ B,avV _ s,goInt,a7]
 have a1:=axj (o':=.map n o) s;have aa:Bx N {w with heap:=w.heap.setIfInBounds b (.map n o)}:=
  A.sr.ext.step rfl rfl rfl d5 λj H _=>a1.2 j λe=>H (by rw[e];exact X.1)
 obtain⟨ap,a2⟩:=A.sr.uV (w':={w with heap:=w.heap.setIfInBounds b (.map n o)}) k (some b) (e.sv k) 0 (some (.mp I (oh r f c))) aa (.inr ⟨L.symm,rfl⟩) d5
  (λV W al=>a1.2 V λhh=>al _ S (by rw[L];exact auA some hh.symm))
  (λV W _=>by obtain rfl:=aut W;exact⟨X.1,by simpa using X.2,.inl ⟨_,S,L⟩⟩)
  (λV o' u' ob ho W aw au=>by have:e.cP k=0:=ah;omega)
  (λRd hR _ ax am=>by
   obtain rfl:=aut am;exact⟨Env.b9,b,n,o,Env.bY,a1.1,MR.mono hR ak⟩)
 rw[hc,H]at hK;have aq:=(A.tr.mono a2).iD (e':=e.cO k (some b) (e.sv k) 0) (λj=>by by_cases H:j=k<;>simp[Env.cO,H,L]) (λj=>by by_cases H:j=k<;>simp[Env.cO,H]);have l:=LR.cons ((a9.mono a2).cV (E:=some (e.cO k (some b) (e.sv k) 0))) (LR.cons (VR.v (Rd:=bN N O (e.cO k (some b) (e.sv k) 0) ((k,some (.mp I (oh r f c)))::st.h) {w with heap:=w.heap.setIfInBounds b (.map n o)}) (x:=.int .i64 (j:Nat))) LR.nil);refine eu (v:=.tuple #[v,.int .i64 (j:Nat)]) (w':={w with heap:=w.heap.setIfInBounds b (.map n o)}) ?_ (hn _ hK _ _ _ ⟨by simpa[Act.put]using A.n,A.d,ap,TR.put aq (by rw[A.n.1];exact hd) (.tu _ l.1 l.2)⟩);simp[execOp,a6,ar,ao]
def SS.entryStore{t:EQ}{x y v:If}{k i:Nat}{s:TypeDesc}{z kv:Id}{n:Do (Id×AV)}{ki:IntKind}{h1:Hp}{c c0:AV}(ht:mapA P t=some (s,z))(hx:st.ev x=.mp k)(hy:st.ev y=.v (.int ki (i:Nat)))(hl:jK st.h (st.ev v)=some (h1,c))
 (B:aZ h1 k=some (.mp s n)) (J:n[i]? =some (kv,c0)) (U:K ⟨st.n,st.t,(k,some (.mp s (n.set i (kv,c))))::h1⟩):SS P ⟨none,.entryStore t x y v,ty,pos,af,gd⟩ st K:=by
 intro R S e a w next Q u hn
 obtain⟨F,a6,hv⟩:=rO u.sr (u.ev v) hl;have l:=u.cP a6;have o:(⟨st.n,st.t,h1⟩:St).ev x=.mp k:=by rw[<-hx];cases x<;>rfl
 obtain⟨b,h,m,X,p,a0,I,g⟩:=l.HX o B;have C:=u.ev y;rw[hy]at C;have C:=C.bL;have H:=l.sr.base _ _ _ B p;have A:i<h.size:=by rw[g.len];exact(aus.1 J).1
 have Z:h.findIdx? (λe=>(e.born:Int)==(i:Int))=some i:=by
  rw[ay_];refine⟨A,?_,λq O=>?_⟩
  ·rw[g.Rk i _ (avb A)];simp
  ·rw[g.Rk q _ (avb bv)];simp;omega
 have a2:MR (bN R S F h1 w) s (n.set i (kv,c)) (h.modify i λe=>{e with val:=a.eval v}) m:=by
  refine⟨by simp[g.len],λq x' D o f=>?_,λD f=>?_,ayw g.ky _ _ (λ_ _=>rfl) (λ_ _ _=>rfl),λq D f=>?_,by rw[g.clk];simp⟩
  ·rw[av7]at f
   by_cases L:i=q
   ·subst L
    rw[auo rfl,avb A]at f;have N:i<n.length:=(aus.1 J).1;simp[N]at o f;subst o f;exact⟨(g.key i _ _ J (avb A)).1,hv⟩
   ·rw[aun L]at f
    rw[axN L]at o;exact g.key q x' D o f
  ·obtain⟨q,O,rfl⟩:=avc f
   have a8:q<h.size:=by simpa using O
   have:=g.isk h[q] d5;rw[axi,axM];split
   ·exact this
   ·exact this
  ·rw[av7]at f
   split at f
   ·obtain⟨m0,a1,rfl⟩:=auY.1 f
    exact g.Rk q m0 a1
   ·exact g.Rk q D f
 have M:=axj (o':=.map (h.modify i λe=>{e with val:=a.eval v}) m) I;have Y:Bx R {w with heap:=w.heap.setIfInBounds b (.map (h.modify i λe=>{e with val:=a.eval v}) m)}:=
  l.sr.ext.step rfl rfl rfl d5 λj r _=>M.2 j λe=>r (by rw[e];exact H.1)
 obtain⟨a5,W⟩:=l.sr.uV (w':={w with heap:=w.heap.setIfInBounds b (.map (h.modify i λe=>{e with val:=a.eval v}) m)}) k (some b) (F.sv k) 0 (some (.mp s (n.set i (kv,c)))) Y (.inr ⟨p.symm,rfl⟩) d5
  (λE G a3=>M.2 E λhh=>a3 _ B (by rw[p];exact auA some hh.symm))
  (λE G _=>by obtain rfl:=aut G;exact⟨H.1,by simpa using H.2,.inl ⟨_,B,p⟩⟩)
  (λE o' u' ob ho G N a7=>by have:F.cP k=0:=a0;omega)
  (λRd V _ a9 a4=>by
   obtain rfl:=aut a4;exact⟨Env.b9,b,_,m,Env.bY,M.1,MR.mono V a2⟩)
 refine uf (w':={w with heap:=w.heap.setIfInBounds b (.map (h.modify i λe=>{e with val:=a.eval v}) m)}) ?_ (hn _ U _ _ _ ⟨l.n,l.d,a5,(l.tr.mono W).iD (λj=>by by_cases r:j=k<;>simp[Env.cO,r,p]) (λj=>by by_cases r:j=k<;>simp[Env.cO,r])⟩);simp[execOp,Instr.entryStore,X,C,avv I,asInt,asIntOf,Z,avV _ I]
