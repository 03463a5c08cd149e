/- part 2 -/
import Derived.Test.YtpndmjnaljjbaaaGreatDoorZWholeRefused1
set_option linter.all false
noncomputable section
open Go Go.RowKit
set_option maxRecDepth 100000
open List (replicate)
open Nat (beq)
namespace Go.Proofs.YtpndmjnaljjbaaaGreatDoor
def ffB:Nat->In:=λ_=>false
mutual
def z8:∀c:AV,c.gC ffB=true
 |.un=>rfl
 |.v _=>rfl
 |.sl _ _ _=>rfl
 |.fp _=>rfl
 |.ow _=>rfl
 |.pt _ _=>rfl
 |.pe _ _ _ _=>rfl
 |.sw _ _ _ _=>rfl
 |.mp _=>rfl
 |.ag a=>by rw[AV.gC];exact xF a
 |.tu a=>by rw[AV.gC];exact xF a
 |.cl _ b a=>by rw[AV.gC,xF b,xF a];rfl
def xF:∀a:Do AV,AV.nD ffB a=true
 |[]=>rfl
 |c::a=>by rw[AV.nD,z8 c,xF a];rfl
end
def alB(t:Do (Nat×AV)):Ei ffB t=true:=by simp[Ei,z8]
def Ob.z8(o:Ob):o.gC ffB=true:=by cases o<;>simp[Ob.gC,xF]
def Yw(h:Hp):rE ffB h=true:=by
 simp only[rE,axO,axo];intro q _;refine⟨rfl,?_⟩;split
 .exact Ob.z8 _
 .rfl
structure PD(P:Program)(l:bs)(oy:St)(pl:List En):Prop where
 len:pl.length<=l.length
 step:∀(j:Nat) o u,l[j]? =some o->pl[j]? =some u->o.dst=u.d/\DS P l oy (pl.take j) o u
 fit:∀(i j:Nat) v u,i<j->pl[i]? =some v->pl[j]? =some u->Re l i j v u/\afE l i j v u
 Rg:∀(j:Nat) u,pl[j]? =some u->Ei u.fr oy.t=true/\rE u.fr oy.h=true
def Ri:Nat->bs->In
 |_,[]=>true
 |j,o::l=>o.after.all (λe=> !Region.binds .any e||Nat.blt e.on j) && Ri (j+1) l
def Eo:∀{a:Nat} {l:bs},Ri a l=true->∀(j:Nat) o,l[j]? =some o->∀e∈o.after,Region.binds .any e=true->e.on<a+j
 |a,[],_,j,o,h=>by simp at h
 |a,x::l,b,j,o,h=>by
  simp only[Ri,axo]at b;cases j with
  |zero=>
   simp at h;subst h;intro e d c;have:=(Array.all_eq_true'.1 b.1) e d;simpa[c]using this
  |succ j=>
   intro e d c;have:=Eo b.2 j o (by simpa using h) e d c;omega
variable{s:AV}{Y:Bs}{L:Env}{n:Hp}{U:Nat->In}{c e:If}{b:EQ}{v:Id}{o:GE}{F:bH}{E:bI}
mutual
def Rj(d:Nat):∀c:AV,c.gC (λk=>k==d)= !c.gu d
 |.un=>rfl
 |.v _=>rfl
 |.sl _ _ _=>rfl
 |.fp _=>rfl
 |.ow _=>rfl
 |.pt _ _=>rfl
 |.pe _ _ _ _=>rfl
 |.sw _ _ _ _=>rfl
 |.mp _=>rfl
 |.ag a=>by rw[AV.gC,AV.gu];exact qw d a
 |.tu a=>by rw[AV.gC,AV.gu];exact qw d a
 |.cl _ b a=>by rw[AV.gC,AV.gu,qw d b,qw d a,Bool.not_or]
def qw(d:Nat):∀a:Do AV,AV.nD (λk=>k==d) a= !AV.nB d a
 |[]=>rfl
 |c::a=>by rw[AV.nD,AV.nB,Rj d c,qw d a,Bool.not_or]
end
def qx{d:Nat}(h:s.gC (λk=>k==d)=true):s.kill d=s:=by
 rw[Rj]at h;unfold AV.kill;rw[axm];cases a:s.gu d
 .simp
 .rw[a]at h;cases h
def Ob.qx{d:Nat}{o:Ob}(h:o.gC (λk=>k==d)=true):o.kill d=o:=by
 cases o with
 |box t e=>
  simp only[Ob.kill];congr 1;rw[ayp (g:=id),azv];intro c a;obtain⟨i,b,rfl⟩:=ayb a;exact Go.Proofs.YtpndmjnaljjbaaaGreatDoor.qx (fg h i _ (axz b))
 |arr=>rfl
 |mp=>rfl
 |nr t e=>
  simp only[Ob.kill];congr 1;rw[ayp (g:=id),azv];intro c a;obtain⟨i,b,rfl⟩:=ayb a;exact Go.Proofs.YtpndmjnaljjbaaaGreatDoor.qx (fg h i _ (axz b))
def Ob.qu{o:Ob}(h:o.gC U=true):o.kX U=o:=by
 cases o with
 |box t e=>
  simp only[Ob.kX];congr 1;rw[ayp (g:=id),azv];intro c a;obtain⟨i,b,rfl⟩:=ayb a;exact lT (fg h i _ (axz b))
 |arr=>rfl
 |mp=>rfl
 |nr t e=>
  simp only[Ob.kX];congr 1;rw[ayp (g:=id),azv];intro c a;obtain⟨i,b,rfl⟩:=ayb a;exact lT (fg h i _ (axz b))
section
variable{P:Fd}{st:St}{d:Nat}{ty:EQ}{pos:String}{af:dM}{gd:fJ}{K:St->Prop}
def SS.mono{o:Oper}{K c:St->Prop}(h:SS P o st K)(q:∀s,K s->∃b,cA P s b/\c b):SS P o st c:=λj f e a w next Q p t=>
 h j f e a w next Q p λx v k g i m=>by
  obtain⟨b,r,u⟩:=q x v;obtain⟨l,n⟩:=r j f k g i m;exact t b u l g i n
def SS.fresh{o:Oper}{b:ca}(g:∀x,(bM st.t x).gC (λk=>k==d)=true)(c:∀k ob,bc st.h k=some ob->ob.gC (λk=>k==d)=true)
 (h:SS P o st λa=>a=⟨st.n,kz b s (c8 d st.t),n++bx d st.h⟩):SS P o st λa=>a=⟨st.n,kz b s st.t,n++st.h⟩:=by
 refine h.mono λa f=>?_;subst f;refine⟨_,cA.same (λx=>?_) (λk=>?_),rfl⟩
 .rw[jM,jM,xy,qx (g x)]
 .rw[eB,eB,dt]
  split
  .rfl
  .cases e:bc st.h k with
   |none=>rfl
   |some ob=>rw[ayt,Ob.qx (c k ob e)]
def SS.afF{o:Oper}{b:ca}(j:∀x,(bM st.t x).gC U=true)(c:∀k ob,bc st.h k=some ob->ob.gC U=true)(f:∀k,U k=true->bc st.h k=none)
 (h:SS P o st λa=>a=⟨st.n,kz b s (sY U st.t),n++iu U st.h⟩):SS P o st λa=>a=⟨st.n,kz b s st.t,n++st.h⟩:=by
 refine h.mono λa i=>?_;subst i;refine⟨_,cA.same (λx=>?_) (λk=>?_),rfl⟩
 .rw[jM,jM,nh,lT (j x)]
 .rw[eB,eB,xC]
  split
  .rfl
  .split
   next g=>exact f k g
   .cases e:bc st.h k with
    |none=>rfl
    |some ob=>rw[ayt,Ob.qu (c k ob e)]
def SR.Ow(p:SR Y E L n o){k d:Nat}{ob:Ob}(B:bc n k=some ob)(ab:d≠k)(X:qo d n=true)(kV:d<4294967296):
 SR Y E (L.cK d (L.bX k) (L.sv k) (L.cS k)) ((d,some ob)::(k,none)::n) o/\∀b a u,bS Y E L n o b a u->bS Y E (L.cK d (L.bX k) (L.sv k) (L.cS k)) ((d,some ob)::(k,none)::n) o b a u:=by
 have C:∀j g,bc ((d,some ob)::(k,none)::n) j=some g->(j=d/\g=ob)\/(j≠d/\j≠k/\bc n j=some g):=λj g e=>by
  by_cases l:j=d
  .subst l;rw[bf]at e;exact .inl ⟨rfl,(axt e).symm⟩
  .rw[bd l]at e
   by_cases r:j=k
   .subst r;rw[bf]at e;cases e
   .rw[bd r]at e;exact .inr ⟨l,r,e⟩
 have O:∀b a u,bS Y E L n o b a u->bS Y E (L.cK d (L.bX k) (L.sv k) (L.cS k)) ((d,some ob)::(k,none)::n) o b a u:=λb a u ⟨y,z,m⟩=>⟨y,z,λj g e f=>by
  rcases C j g e with⟨rfl,rfl⟩|⟨l,r,q⟩
  .rw[Env.bY]at f;rw[Env.cc];exact m k _ B f
  .rw[Env.bD l]at f;rw[Env.la l];exact m j _ q f⟩
 refine⟨⟨p.ext,p.kW,λj g e=>?_,λj g b e f=>?_,λj Z aa a0 b e q f A=>?_,λj e=>by rw[Env.bD bv,Env.de bv];exact p.yv j e⟩,O⟩
 .rcases C j g e with⟨rfl,rfl⟩|⟨l,r,q⟩
  .have G:=(p.ob k _ B).mono O
   have W:g.gu j=false:=AP X k _ B;cases g with
   |box t cs=>
    obtain⟨x,b,us,y,z,m⟩:=G;exact⟨by rw[Env.cc];exact x,b,us,by rw[Env.bY];exact y,z,m.1,λi c u D S=>(m.2 i c u D S).env rfl j (fa (by simpa[Ob.gu]using W) i c D) (λ_ h=>Env.bD h) (λ_ h=>Env.de h)⟩
   |arr t sz ac wr=>
    obtain⟨x,y,z,m⟩:=G;refine⟨x,y,λhw=>by rw[Env.cc];exact z hw,?_⟩;rcases m with⟨s,v,w⟩|⟨b,M,N,s,v,w,H,I,J,F,a8⟩
    .exact .inl ⟨s,by rw[Env.bY];exact v,by rw[Env.dN];exact w⟩
    .exact .inr ⟨b,M,N,by rw[Env.bY];exact s,by rw[Env.dN];exact v,w,H,I,J,F,by rw[Env.cc];exact a8⟩
   |mp d es=>
    obtain⟨x,b,arr,a9,y,z,m⟩:=G;exact⟨by rw[Env.cc];exact x,b,arr,a9,by rw[Env.bY];exact y,z,m⟩
   |nr t cs=>
    obtain⟨x,m⟩:=G;refine⟨by rw[Env.cc];exact x,?_⟩;rcases m with⟨s,v,w⟩|⟨b,M,N,s,v,w,H,I,J,F⟩
    .exact .inl ⟨s,by rw[Env.bY];exact v,by rw[Env.dN];exact w⟩
    .exact .inr ⟨b,M,N,by rw[Env.bY];exact s,by rw[Env.dN];exact v,w,H,I,J,⟨F.1,λi c u D S=>(F.2 i c u D S).env rfl j (fa (by simpa[Ob.gu]using W) i c D) (λ_ h=>Env.bD h) (λ_ h=>Env.de h)⟩⟩
  .exact((p.ob j g q).mono O).env (k:=d) l (.inl (AP X j g q)) (λ_ h=>Env.bD h) (λ_ h=>Env.de h) (λ_ h=>Env.la h) (λb _ _=>rfl)
 .rcases C j g e with⟨rfl,rfl⟩|⟨l,r,q⟩
  .rw[Env.bY]at f;exact p.base k _ b B f
  .rw[Env.bD l]at f;exact p.base j _ b q f
 .rcases C j aa e with⟨rfl,rfl⟩|⟨l,r,U⟩
  .rcases C Z a0 q with⟨rfl,rfl⟩|⟨R,V,Q⟩
   .rfl
   .rw[Env.bY]at f
    rw[Env.bD R]at A;exact absurd (p.inj _ _ _ _ _ Q B A f) V
  .rcases C Z a0 q with⟨rfl,rfl⟩|⟨R,V,Q⟩
   .rw[Env.bY]at A
    rw[Env.bD l]at f;exact absurd (p.inj _ _ _ _ _ U B f A) r
   .rw[Env.bD l]at f
    rw[Env.bD R]at A;exact p.inj _ _ _ _ _ U Q f A
def ac9{d:Nat}(a:qo d n=true)(k:Nat):qo d ((k,none)::n)=true:=by simpa[qo]using a
def qz(k:Nat)(c:AV):(c.kill k).kill k=c.kill k:=by
 have:=lg k c;generalize c.kill k=x at this;unfold AV.kill;rw[axm (by rw[this];simp)]
def Ob.qz(k:Nat)(o:Ob):(o.kill k).kill k=o.kill k:=by
 cases o with
 |box t a=>
  simp only[Ob.kill,ayz];congr 1;exact ayp λc _=>by simp[Go.Proofs.YtpndmjnaljjbaaaGreatDoor.qz]
 |arr=>rfl
 |mp=>rfl
 |nr t a=>
  simp only[Ob.kill,ayz];congr 1;exact ayp λc _=>by simp[Go.Proofs.YtpndmjnaljjbaaaGreatDoor.qz]
def rH{g:ca}{a:Act}{w f:GE}(h:(Builtin.append_ #[b,b] ty #[a.eval c,a.eval e]).run P w=.ok v f):
 (execOp a.eval ⟨g,.call ⟨.builtin .append, #[c,e], #[b,b]⟩,ty,pos,af,gd⟩).run P w=.ok (.value v) f:=by
 have i:(#[c,e]:gr).map a.eval= #[a.eval c,a.eval e]:=by simp only[azM,axJ,ayy]
 simp only[execOp,resolve,i,axE,axH,axF,invoke,builtin];simp only[aAl,h,axF]
def SS.Rk{t E:EQ}{x y:If}{k h v:Nat}{h1:Hp}{tt wr:In}{rows ys:Do (Do AV)}(ht:LH P t=some (E,h,v,F))(hx:st.ev x=.ow k)(S:ir st.h (st.ev y)=some (h1,.sl tt h ys))
 (O:bc h1 k=some (.arr E h rows wr)) (L:d≠k) (W:0<h) (U:rows.length+ys.length<=maxLen) (I:(rows.length+ys.length)*v<=140737488355328) (J:d<st.n)
 (G:K ⟨st.n,(d,.ow d)::c8 d st.t,(d,some (.arr E h (rows++ys) wr))::(k,none)::bx d h1⟩):SS P ⟨some d,.call ⟨.builtin .append, #[x,y], #[t,t]⟩,ty,pos,af,gd⟩ st K:=by
 intro s o e a w next Q c V
 obtain⟨i,zv,p2,p3,p4,p5,rfl,rfl,_⟩:=cX ht;obtain⟨b,a3,hv⟩:=qt c.sr (c.ev y) S;have p:=c.cS a3;have q:=p.ev x;have a2:a.eval x=b.sv k:=by
  have:(⟨st.n,st.t,h1⟩:St).ev x=.ow k:=by rw[<-hx];cases x<;>rfl
  rw[this]at q;generalize a.eval x=u at q;cases q with
  |ow=>rfl
 obtain⟨X,z⟩:=p.sr.kill d;have R:bc (bx d h1) k=some (.arr E i.size rows wr):=by rw[dt,O];rfl
 obtain⟨Y,A⟩:=X.Ow R L (ef d h1) (by have:=c.n.2;omega);have a0:=((hv.mono z).mono A).cW (E:=some (b.cK d (b.bX k) (b.sv k) (b.cS k)));obtain⟨g,r,n,l,C,Z,H⟩:=Y.append (by have:=c.n.2;omega) bf t ty i zv p2 p3 p4 rfl p5 W a0 U I;rw[Env.dN]at C;have N:∀j,bc ((d,some (.arr E i.size (rows++ys) wr))::(k,none)::bx d h1) j=bc ((d,some (.arr E i.size (rows++ys) wr))::bx d ((d,some (.arr E i.size rows wr))::(k,none)::bx d h1)) j:=λj=>by
  by_cases m:j=d
  .subst m;rw[bf,bf]
  .rw[bd m,bd m,dt,bd m]
   by_cases B:j=k
   .subst B;rw[bf];rfl
   .rw[bd B,dt]
    cases bc h1 j with
    |none=>rfl
    |some ob=>simp[Ob.qz]
 have a1:TR (bS s o ((b.cK d (b.bX k) (b.sv k) (b.cS k)).cK d n g l) ((d,some (.arr E i.size (rows++ys) wr))::bx d ((d,some (.arr E i.size rows wr))::(k,none)::bx d h1)) r) ((b.cK d (b.bX k) (b.sv k) (b.cS k)).cK d n g l) ((d,.ow d)::c8 d st.t) (a.tmps.setIfInBounds d g):=by
  refine TR.put ?_ (by rw[c.n.1];exact J) ?_
  .have D:=(((((p.tr.kill d).mono z).mono A).env d (dU d st.t) (e':=b.cK d (b.bX k) (b.sv k) (b.cS k)) (λ_ f=>Env.bD f) (λ_ f=>Env.de f)).mono H)
   exact D.env d (dU d st.t) (λ_ f=>Env.bD f) (λ_ f=>Env.de f)
  .have:=VR.ow (Rd:=bS s o ((b.cK d (b.bX k) (b.sv k) (b.cS k)).cK d n g l) ((d,some (.arr E i.size (rows++ys) wr))::bx d ((d,some (.arr E i.size rows wr))::(k,none)::bx d h1)) r) (e:=(b.cK d (b.bX k) (b.sv k) (b.cS k)).cK d n g l) (k:=d)
   rw[Env.dN]at this;exact this
 have M:Ga s o _ ⟨st.n,(d,.ow d)::c8 d st.t,_⟩ (a.put (some d) g) r:=⟨by simpa[Act.put]using c.n,c.d,Z,a1⟩;exact eA (rH (by rw[a2];exact C)) (V _ G _ _ _ (M.lR N))
def SS.Ms{t E:EQ}{x y:If}{o sz0 s:Nat}{h1:Hp}{tt:In}{ys:Do (Do AV)}(Z:LH P t=some (E,o,s,F))(hx:st.ev x=.sl true sz0 [])(R:ir st.h (st.ev y)=some (h1,.sl tt o ys))
 (V:0<o) (S:ys.length<=maxLen) (L:ys.length*s<=140737488355328) (M:d<st.n)
 (J:K ⟨st.n,(d,.ow d)::c8 d st.t,(d,some (.arr E o ys true))::bx d h1⟩):SS P ⟨some d,.call ⟨.builtin .append, #[x,y], #[t,t]⟩,ty,pos,af,gd⟩ st K:=by
 intro r p e a w next Q b U
 obtain⟨i,zv,p2,p3,p4,p5,rfl,rfl,_⟩:=cX Z;obtain⟨g,a2,hv⟩:=qt b.sr (b.ev y) R;have C:=b.cS a2;have H:=b.ev x;rw[hx]at H;obtain⟨c,a3,us,A,_,_,_,_,_,a1,_⟩:=H.nC;have B:=a1 rfl;simp only[ayq]at B A;subst B;obtain⟨W,u⟩:=C.sr.kill d;obtain⟨X,v⟩:=W.IB d E i.size c (ef d h1) (by have:=b.n.2;omega);have Y:=((hv.mono u).mono v).cW (E:=some (g.cK d none (.slice c 0 0) 0));obtain⟨h,q,n,l,D,G,z⟩:=X.append (by have:=b.n.2;omega) bf t ty i zv p2 p3 p4 rfl p5 V Y (by simpa using S) (by simpa using L);rw[Env.dN]at D;rw[ax3]at G z;have O:∀j,bc ((d,some (.arr E i.size ys true))::bx d h1) j=bc ((d,some (.arr E i.size ys true))::bx d ((d,some (.arr E i.size [] true))::bx d h1)) j:=λj=>by
  by_cases m:j=d
  .subst m;rw[bf,bf]
  .rw[bd m,bd m,dt,dt,bd m,dt]
   cases bc h1 j with
   |none=>rfl
   |some ob=>simp[Ob.qz]
 have a0:TR (bS r p ((g.cK d none (.slice c 0 0) 0).cK d n h l) ((d,some (.arr E i.size ys true))::bx d ((d,some (.arr E i.size [] true))::bx d h1)) q) ((g.cK d none (.slice c 0 0) 0).cK d n h l) ((d,.ow d)::c8 d st.t) (a.tmps.setIfInBounds d h):=by
  refine TR.put ?_ (by rw[b.n.1];exact M) ?_
  .have I:=(((((C.tr.kill d).mono u).mono v).env d (dU d st.t) (e':=g.cK d none (.slice c 0 0) 0) (λ_ f=>Env.bD f) (λ_ f=>Env.de f)).mono z)
   exact I.env d (dU d st.t) (λ_ f=>Env.bD f) (λ_ f=>Env.de f)
  .have:=VR.ow (Rd:=bS r p ((g.cK d none (.slice c 0 0) 0).cK d n h l) ((d,some (.arr E i.size ys true))::bx d ((d,some (.arr E i.size [] true))::bx d h1)) q) (e:=(g.cK d none (.slice c 0 0) 0).cK d n h l) (k:=d)
   rw[Env.dN]at this;exact this
 have N:Ga r p _ ⟨st.n,(d,.ow d)::c8 d st.t,_⟩ (a.put (some d) h) q:=⟨by simpa[Act.put]using b.n,b.d,G,a0⟩;exact eA (rH (by rw[A];exact D)) (U _ J _ _ _ (N.lR O))
end
variable{D:In}{i u:Do AV}{m:Nat}
section
variable{P:Fd}{st:St}{d:Nat}{dd:ca}{ty:EQ}{pos:String}{af:dM}{gd:fJ}{K:St->Prop}
def Bx.ext(h:Bx Y o)(c:∀b,¬Y.own b):Ext Y.w o:=⟨⟨h.os,h.tape,h.output,h.size,λb e=>h.block b λa=>by
 rcases a with a|a
 .omega
 .exact c b a⟩,h.drawn⟩
def afG(b:Nat):¬(cB [] m L o).own b:=by rintro⟨p,c,h,_⟩;cases h
def alC{b:Nat}(a:(cB [] m L o).iq b):o.heap.size<=b:=a.resolve_right (afG b)
def Ga.an4{e h:Env}{a:Act}{w c:GE}(f:Ga Y E e st a w)(y:SR (cB [] m e w) (cRd [] m Y E e st.h w) h [] c)
 (z:VR (bS (cB [] m e w) (cRd [] m Y E e st.h w) h [] c) (some h) s v) (x:s.gC (λ_=>true)=true) (p:d<st.n):Ga Y E e ⟨st.n,(d,s)::st.t,st.h⟩ (a.put (some d) v) c:=by
 have l:Ext w c:=y.ext.ext afG;have q:Ga Y E e st a c:=f.later l;refine q.put p ?_;have A:=z.LO (e':=e) rfl (λ_=>true) x (λj i=>by cases i) (λj i=>by cases i);refine A.mono λb o u ⟨B,C,_⟩=>?_;by_cases g:(cB [] m e w).iq b
 .have g:=alC g
  exact⟨B,λt=>absurd (f.sr.ext.iq g) t,λk ob r n=>by have:=(f.sr.base _ _ _ r n).2;omega⟩
 .exact(f.sr.later l).2 b o u (C g).1
def SS.arJ{f:FuncId}{q:Op}(m:G3 P f [] u [] s)(C:QV P ⟨some d,q,ty,pos,af,gd⟩ st f i)(D:Yo st [] (1000*(d+1)) n [] u i)(G:s.gC (λ_=>true)=true)(B:d<st.n)
 (z:K ⟨st.n,(d,s)::st.t,n⟩):SS P ⟨some d,q,ty,pos,af,gd⟩ st K:=by
 intro r g e a w next Q h H
 obtain⟨U,N,J⟩:=C m.1 r g e a w h;obtain⟨t,l,k,F,O⟩:=D r g e w _ h.sr N;have j:=h.cS l;have y:QU (1000*(d+1)) []=true:=by
  have:=h.n.2;simp[QU,G2];omega
 have L:=j.sr.pK k y F;have A:=m.2 _ _ _ w U L (O.qv λb o c E=>E.pK k λp ob I=>by simp[bc]at I);unfold Oper.wp;rw[J w];show Calls P f _ w _;refine A.mono λx W S=>?_;obtain⟨v,V,rfl,M,R⟩:=S;exact H _ z t _ _ (j.an4 M R G B)
def SS.aoZ{f:FuncId}{r:Op}(q:G3 P f [] u [] s)(G:s.pu=true)(C:QV P ⟨some d,r,ty,pos,af,gd⟩ st f i)(g:Wa st [] (1000*(d+1)) [] u i)(E:s.gC (λ_=>true)=true)(B:d<st.n)
 (y:K ⟨st.n,(d,s)::st.t,st.h⟩):SS P ⟨some d,r,ty,pos,af,gd⟩ st K:=by
 intro t m e a w next Q h F
 obtain⟨R,L,H⟩:=C q.1 t m e a w h;obtain⟨n,V,M⟩:=g t m e w _ h.sr L;have z:∀b o c,RB [] (1000*(d+1)) e w b o c->bS (cB [] (1000*(d+1)) e w) (RB [] (1000*(d+1)) e w) (e.pi [] (1000*(d+1))) [] w b o c:=λb o c j=>⟨j.1,λ_=>j,λp ob l U=>by simp[bc]at l⟩;have I:SR (cB [] (1000*(d+1)) e w) (RB [] (1000*(d+1)) e w) (e.pi [] (1000*(d+1))) [] w:=
  ⟨⟨rfl,rfl,rfl,axp _,λ_ _=>rfl,axp _⟩,⟨λb o c j=>j,λb o c g=>⟨(h.sr.IA g).1,h.sr.Q4 n g⟩⟩,λp ob l=>by simp[bc]at l,λp ob b l=>by simp[bc]at l,λp X ob W b l=>by simp[bc]at l,λk _=>⟨rfl,rfl⟩⟩
 have A:=q.2 _ _ _ w R I (M.qv z);unfold Oper.wp;rw[H w];show Calls P f _ w _;refine A.mono λx Y O=>?_;obtain⟨v,S,rfl,J,N⟩:=O;exact F _ y e _ _ (h.an4 (J.pure (λk ob D=>by simp[bc]at D) ⟨λb o c j=>⟨j.1.1,j.2⟩,λb o c g=>⟨h.sr.IA g,h.sr.Q4 n g⟩⟩) (N.pure G) E B)
def SS.Rl{t E:EQ}{x y:If}{v W:Nat}{rows ys:Do (Do AV)}(ht:LH P t=some (E,v,W,F))(hx:st.ev x=.sl true v rows)(hl:ir st.h (st.ev y)=some (n,.sl D v ys))
 (S:0<ys.length) (Y:0<v) (R:rows.length+ys.length<=maxLen) (J:(rows.length+ys.length)*W<=140737488355328) (hd:d<st.n)
 (hK:K ⟨st.n,(d,.ow d)::c8 d st.t,(d,some (.arr E v (rows++ys) true))::bx d n⟩):SS P ⟨some d,.call ⟨.builtin .append, #[x,y], #[t,t]⟩,ty,pos,af,gd⟩ st K:=by
 intro w0 V e a w next Q l hn
 obtain⟨i,g,p2,p3,p4,p5,rfl,rfl,_⟩:=cX ht;obtain⟨m,ap,hv⟩:=qt l.sr (l.ev y) hl;have A:=l.cS ap;have an:VR (bS w0 V m n w) (some m) (.sl true i.size rows) (a.eval x):=by
  have:=A.ev x;have e2:(⟨st.n,st.t,n⟩:St).ev x=st.ev x:=by cases x<;>rfl
  rw[e2,hx]at this;exact this
 obtain⟨G,ar,f,a5,a0,a2,N,_,au,ak,ha⟩:=an.nC;obtain⟨aq,H,xs,a6,a1,a3,O,_,av,_,a4⟩:=hv.nC;have a9:=ak rfl;subst a9;have aa:=ey a0;have ab:=ey a1;have s:xs.length=ys.length*i.size:=by rw[O.1,ab]
 have ao:xs≠[]:=by
  rintro rfl;have:=azS S Y;simp at s;omega
 obtain⟨z,C,rfl,a8⟩:=a4 ao;have U:∀(j:Nat) u,xs[j]? =some u->w.cell? ((⟨z,C,none⟩:Addr).add j)=some u:=λj u M=>by rw[ax8];exact(a8 j u M).1
 have B:f.length=rows.length*i.size:=by rw[N.1,aa]
 have aw:rows.length+ys.length<=9223372036854775807:=by unfold maxLen at R;exact R
 have ae:∃b,(Builtin.append_ #[t,t] ty #[a.eval x,a.eval y]).run P w=.ok (.slice (some ⟨w.heap.size,0,none⟩) (rows.length+ys.length) (grownCap w (rows.length+ys.length) b E))
  (w.drew.alloc (.cells (f.toArray++xs.toArray++Builtin.zeroCells g.cells (grownCap w (rows.length+ys.length) b E - (rows.length+ys.length))) E)):=by
  rw[a5,a6];by_cases q:rows.length=0
  .have al:f=[]:=ayn (by rw[B,q];simp)
   subst al;simp only[q,axY];cases G with
   |none=>
    refine⟨0,?_⟩;have:=aBc (P:=P) w t ty E i g p2 p3 p4 ⟨z,C,none⟩ ys.length H xs s U S bv (by
     rw[q,axY]at J;omega)
    simpa using this
   |some G=>
    refine⟨0,?_⟩;have:=azG (P:=P) w t ty E i g p2 p3 p4 G 0 0 [] d5 d5 ⟨z,C,none⟩ ys.length H xs s U bv bv (by
     rw[q,axY]at J;rw[axY,nextslicecap_zero S];omega)
    simpa using this
  .have am:f≠[]:=by
    rintro rfl;have:=azS (Nat.pos_of_ne_zero q) Y;simp at B;omega
   obtain⟨b1,o1,rfl,a7⟩:=ha am;exact⟨rows.length,azG (P:=P) w t ty E i g p2 p3 p4 ⟨b1,o1,none⟩ rows.length rows.length f B (λj u M=>by rw[ax8];exact(a7 j u M).1) ⟨z,C,none⟩ ys.length H xs s U bv bv (aAd bv J)⟩
 obtain⟨b,ai⟩:=ae;obtain⟨aj,I⟩:=A.sr.kill d;have ag:=ayN w (rows.length+ys.length) b E;have ah:=aBb w (rows.length+ys.length) b E R;have ac:(rows++ys).flatten.length=f.length+xs.length:=by rw[ay3,axG,N.1,O.1]
 obtain⟨Z,X⟩:=aj.Oq d E i.size (grownCap w (rows.length+ys.length) b E) (rows:=rows++ys) (cur:=f.toArray++xs.toArray++Builtin.zeroCells g.cells (grownCap w (rows.length+ys.length) b E - (rows.length+ys.length)))
  (λr p=>by
   rcases axy.1 p with p|p
   .exact a0 r p
   .exact a1 r p)
  (λc o=>by
   rw[ay3]at o;rcases axy.1 o with o|o
   .exact a2 c o
   .exact a3 c o)
  (by
   have m:(f.toArray++xs.toArray++Builtin.zeroCells g.cells (grownCap w (rows.length+ys.length) b E - (rows.length+ys.length))).toList.take (rows++ys).flatten.length=f++xs:=by
    rw[azF,azF,ac,<-axG];exact aAb
   rw[m,ay3];exact(N.imp λ_ _ h=>h.mono I).append (O.imp λ_ _ h=>h.mono I)) (by rw[axG];exact ag) ah
  (by
   simp only[azE,azc,ay4,p5,B,s,<-ax2];congr 1;omega) (ef d n) (by have:=l.n.2;omega) (w.drew.alloc (.cells (f.toArray++xs.toArray++Builtin.zeroCells g.cells (grownCap w (rows.length+ys.length) b E - (rows.length+ys.length))) E)) rfl (A.sr.ext.drew.alloc _)
 rw[axG]at Z X;refine eA (rH ai) (hn _ hK _ _ _ ⟨by simpa[Act.put]using l.n,l.d,Z,TR.put ?_ (by rw[l.n.1];exact hd) ?_⟩)
 .exact(((A.tr.kill d).mono I).mono X).env d (dU d st.t) (λ_ L=>Env.bD L) (λ_ L=>Env.de L)
 .have:=VR.ow (Rd:=bS w0 V (m.cK d (some w.heap.size) (.slice (some ⟨w.heap.size,0,none⟩) (rows.length+ys.length) (grownCap w (rows.length+ys.length) b E)) 0) ((d,some (.arr E i.size (rows++ys) true))::bx d n) (w.drew.alloc (.cells (f.toArray++xs.toArray++Builtin.zeroCells g.cells (grownCap w (rows.length+ys.length) b E - (rows.length+ys.length))) E))) (e:=m.cK d (some w.heap.size) (.slice (some ⟨w.heap.size,0,none⟩) (rows.length+ys.length) (grownCap w (rows.length+ys.length) b E)) 0) (k:=d)
  rw[Env.dN]at this;exact this
end
variable{j:TypeDesc}
section
open Go Go.RowKit MapKept
variable{P:Fd}
structure Wf(P:Program)(kt:TypeId)(d:TypeDesc):Prop where
 Rm:∀(e:Bool) (v:Value) (w:World),lQ d v->(Instr.checkKey e 10000 kt v).run P w=.ok () w
 fnd:∀(v:Value) (l:List MapEntry),lQ d v->(∀m∈l,lQ d m.key)->
  ((∀w:World,(Instr.findKey kt v l).run P w=.ok none w)/\∀m∈l,m.key≠v)\/∃j m,(∀w:World,(Instr.findKey kt v l).run P w=.ok (some (j,m.val)) w)/\l[j]? =some m/\m.key=v
 stay:∀(v:Value) (w:World),lQ d v->(Instr.keyThatStays v v).run P w=.ok v w
def Wg:TypeDesc->In
 |.int _=>true
 |.bool=>true
 |_=>false
def rI(h:Wg j=true):lQ j v↔IsKey j v:=by
 cases j<;>simp[Wg]at h<;>rfl
def IQ{kt:EQ}{d:TypeDesc}(hp:Wg d=true)(hu:P.underlying kt=some d):Wf P kt d where
 Rm:=λe v w hv=>aBp hu ((rI hp).1 hv) e 9999
 fnd:=λv l hv hl=>by
  have hv':=(rI hp).1 hv;rcases findNow_spec hv' l 0 (λm hm=>(rI hp).1 (hl m hm))with⟨h1,h2⟩|⟨j,m,h1,h2,h3⟩
  .exact .inl ⟨λw=>run_findKey hu h1,h2⟩
  .exact .inr ⟨j,m,λw=>by have:=run_findKey (w:=w) hu h1;simpa using this,h2,h3⟩
 stay:=λv w hv=>run_keyThatStays ((rI hp).1 hv)
def arK(P:Fd)(f g:Field):In:=decide (f.offset=0) && decide (g.offset=1) && f.name != "_"&& g.name != "_"&& (match P.underlying f.type,P.underlying g.type with
 |some (.int .i64),some (.int .i64)=>true
 |_,_=>false)
def Rn(P:Fd)(a:EQ):In:= !(P.stoodInHeld a) && (match P.underlying a with
 |some (.struct ⟨[f,g]⟩)=>arK P f g
 |_=>false)
def z_(h:Rn P b=true):P.stoodInHeld b=false/\∃f g,P.underlying b=some (.struct #[f,g])/\f.offset=0/\g.offset=1/\f.name≠ "_"/\g.name≠ "_"/\P.underlying f.type=some (.int .i64)/\P.underlying g.type=some (.int .i64):=by
 simp only[Rn,axo,ayC]at h;obtain⟨m,a⟩:=h;split at a
 next f g n=>
  simp only[arK,axo,ayd,bne_iff_ne]at a;obtain⟨⟨⟨⟨d,e⟩,i⟩,j⟩,c⟩:=a;refine⟨m,f,g,n,d,e,i,j,?_⟩;split at c
  next k l=>exact⟨k,l⟩
  .cases c
 .cases a
def Mt(h:Rn P b=true)(a e c d:Int)(w:GE):(Op.equal b (.agg #[.int .i64 a,.int .i64 e]) (.agg #[.int .i64 c,.int .i64 d])).run P w=.ok (decide (a=c/\e=d)) w:=by
 obtain⟨z,f,g,u,C,D,A,B,x,y⟩:=z_ h;have t:P.fieldsOf b= #[f,g]:=by simp[Program.fieldsOf,u]
 have p1:P.plainKey f.type=true:=by simp[Program.plainKey,x]
 have p2:P.plainKey g.type=true:=by simp[Program.plainKey,y]
 show(Op.equalIn (9999+1) _ _ _).run P w=_;rw[run_equalIn_struct w 9999 b _ _ (by rw[t];exact u) z,t];have k:∀i:ea,∀v,i[0]? =some v->(part f.type i f.offset).run P w=.ok v w:=λi v p=>azw w p1 (by rw[C];exact p);have q:∀i:ea,∀v,i[1]? =some v->(part g.type i g.offset).run P w=.ok v w:=λi v p=>azw w p2 (by rw[D];exact p);have j:(Op.equalIn 9999 f.type (.int .i64 a) (.int .i64 c)).run P w=.ok (a==c) w:=aBq (P:=P) w 9998 f.type .i64 .i64 a c x;have n:(Op.equalIn 9999 g.type (.int .i64 e) (.int .i64 d)).run P w=.ok (e==d) w:=aBq (P:=P) w 9998 g.type .i64 .i64 e d y;simp only[Op.eqFields,A,B,ne_eq,aAK,ax0,axE,k #[.int .i64 a,.int .i64 e] (.int .i64 a) rfl,k #[.int .i64 c,.int .i64 d] (.int .i64 c) rfl,axF];have E:=k #[.int .i64 a,.int .i64 e] (.int .i64 a) rfl;have F:=k #[.int .i64 c,.int .i64 d] (.int .i64 c) rfl;have r:=q #[.int .i64 a,.int .i64 e] (.int .i64 e) rfl;have s:=q #[.int .i64 c,.int .i64 d] (.int .i64 d) rfl;cases l:(a==c)with
 |false=>
  rw[l]at j;have:¬a=c:=by simpa using l
  simp[j,this]
 |true=>
  rw[l]at j;have:a=c:=by simpa using l
  subst this;cases m:(e==d)with
  |false=>
   rw[m]at n;have o:¬e=d:=by simpa using m
   simp[j,n,r,s,o]
  |true=>
   rw[m]at n;have o:e=d:=by simpa using m
   subst o;simp[j,n,r,s]
def ac_(h:Rn P b=true)(e:In)(a c:Int)(w:GE):(Instr.checkKey e 10000 b (.agg #[.int .i64 a,.int .i64 c])).run P w=.ok () w:=by
 obtain⟨t,f,g,o,r,s,p,q,d,i⟩:=z_ h;have p1:P.plainKey f.type=true:=by simp[Program.plainKey,d]
 have p2:P.plainKey g.type=true:=by simp[Program.plainKey,i]
 have m:(part f.type #[Value.int .i64 a,.int .i64 c] f.offset).run P w=.ok (.int .i64 a) w:=azw w p1 (by rw[r];rfl);have n:(part g.type #[Value.int .i64 a,.int .i64 c] g.offset).run P w=.ok (.int .i64 c) w:=azw w p2 (by rw[s];rfl);have j:(Instr.checkKey e 9999 f.type (.int .i64 a)).run P w=.ok () w:=aBp d (k:=.int .i64 a) (by simp[IsKey]) e 9998;have l:(Instr.checkKey e 9999 g.type (.int .i64 c)).run P w=.ok () w:=aBp i (k:=.int .i64 c) (by simp[IsKey]) e 9998;rw[Instr.checkKey];simp[axR o,axE,p,q,m,n,j,l]
def Ro{g:EQ}(h:Rn P g=true)(a b:Int):∀(l:Do MapEntry) (i:Nat),(∀m∈l,∃c d:Int,m.key=.agg #[.int .i64 c,.int .i64 d])->
 ((∀w:GE,(Instr.findAsking g (.agg #[.int .i64 a,.int .i64 b]) l i).run P w=.ok none w)/\∀m∈l,m.key≠.agg #[.int .i64 a,.int .i64 b])\/
  ∃j m,(∀w:GE,(Instr.findAsking g (.agg #[.int .i64 a,.int .i64 b]) l i).run P w=.ok (some (i+j,m.val)) w)/\l[j]? =some m/\m.key=.agg #[.int .i64 a,.int .i64 b]
 |[],i,_=>.inl ⟨λw=>by simp[Instr.findAsking,axH],d5⟩
 |m::l,i,q=>by
  obtain⟨c,d,k⟩:=q m d5;by_cases p:a=c/\b=d
  .obtain⟨rfl,rfl⟩:=p
   refine .inr ⟨0,m,λw=>?_,rfl,k⟩;have:=Mt h a b a b w;simp only[Instr.findAsking,k,axE,this,axF];simp[axH]
  .have t:m.key≠.agg #[.int .i64 a,.int .i64 b]:=λe=>by
    rw[k]at e;simp at e;exact p ⟨e.1.symm,e.2.symm⟩
   have r:∀w:GE,(Instr.findAsking g (.agg #[.int .i64 a,.int .i64 b]) (m::l) i).run P w=(Instr.findAsking g (.agg #[.int .i64 a,.int .i64 b]) l (i+1)).run P w:=λw=>by
    have:=Mt h a b c d w;simp only[Instr.findAsking,k,axE,this,axF];simp[p]
   rcases Ro h a b l (i+1) (λx f=>q x (by simp[f]))with⟨n,o⟩|⟨j,u,n,o,s⟩
   .refine .inl ⟨λw=>by rw[r];exact n w,λx f=>?_⟩
    rcases axP.1 f with rfl|f
    .exact t
    .exact o x f
   .exact .inr ⟨j+1,u,λw=>by rw[r,n w];congr 3;omega,by simpa using o,s⟩
def afH{kt:EQ}(h:Rn P kt=true):Wf P kt (.tuple #[])where
 Rm:=λe v w hv=>by
  obtain⟨a,b,rfl⟩:=hv;exact ac_ h e a b w
 fnd:=λv l hv hl=>by
  obtain⟨a,b,rfl⟩:=hv;obtain⟨h0,f,g,hu,_⟩:=z_ h;have arL:∀w:GE,(Instr.findKey kt (.agg #[.int .i64 a,.int .i64 b]) l).run P w=(Instr.findAsking kt (.agg #[.int .i64 a,.int .i64 b]) l 0).run P w:=λw=>by
   unfold Instr.findKey;rw[axE,axR hu,axF];cases l with
   |nil=>simp[Instr.findNow,Instr.findAsking,axH]
   |cons m l=>
    obtain⟨c,d,hm⟩:=hl m d5;simp[Instr.findNow,Instr.sameNow,hm]
  rcases Ro h a b l 0 hl with⟨h1,h2⟩|⟨j,m,h1,h2,h3⟩
  .exact .inl ⟨λw=>by rw[arL];exact h1 w,h2⟩
  .exact .inr ⟨j,m,λw=>by rw[arL,h1 w];simp,h2,h3⟩
 stay:=λv w hv=>by
  obtain⟨a,b,rfl⟩:=hv;simp[Instr.keyThatStays,Instr.sameBits,axH]
def ao0(P:Fd)(a:EQ):At TypeDesc:=cond (Rn P a) (some (.tuple #[])) (match P.underlying a with
 |some (.int k)=>some (.int k)
 |some .bool=>some .bool
 |_=>none)
def alD(h:ao0 P b=some j):Wf P b j:=by
 unfold ao0 at h;cases a:Rn P b with
 |true=>
  rw[a]at h;cases h;exact afH a
 |false=>
  rw[a]at h;simp only[axr]at h;split at h
  next k c=>cases h;exact IQ rfl c
  next c=>cases h;exact IQ rfl c
  .cases h
end
variable{h:Do (Do AV)}{X:At Env}{a:Type}{G k:EQ}{W:jk}
section
open Go Go.RowKit MapKept
open Classical in
noncomputable def fm{α:Type}:Do (Id×α)->Id->At α
 |[],_=>none
 |(k,c)::es,x=>if k=x then some c else fm es x
open Classical in
noncomputable def pN{α:Type}:Do (Id×α)->Id->α->Do (Id×α)
 |[],x,v=>[(x,v)]
 |(k,c)::es,x,v=>if k=x then(k,v)::es else(k,c)::pN es x v
def IS{α:Type}:∀{a:Do (Id×α)} {x:Id},(∀p∈a,p.1≠x)->fm a x=none
 |[],_,_=>rfl
 |(k,c)::a,x,h=>by
  rw[fm,axm (h (k,c) d5)];exact IS λp b=>h p (by simp[b])
def Rp{α:Type}:∀{a:Do (Id×α)} {x:Id} {j:Nat} {c:α},a[j]? =some (x,c)->(∀(i:Nat) p,i<j->a[i]? =some p->p.1≠x)->fm a x=some c
 |[],_,_,_,h,_=>by simp at h
 |(k,e)::a,x,j,c,h,b=>by
  cases j with
  |zero=>simp at h;rw[fm,axn h.1,h.2]
  |succ j=>
   rw[fm,axm (b 0 (k,e) bv rfl)];exact Rp (j:=j) (by simpa using h) λi p g f=>b (i+1) p bv (by simpa using f)
def Mu{α:Type}:∀{a:Do (Id×α)} {x:Id} {v:α},(∀p∈a,p.1≠x)->pN a x v=a++[(x,v)]
 |[],_,_,_=>rfl
 |(k,c)::a,x,v,h=>by
  rw[pN,axm (h (k,c) d5),Mu λp b=>h p (by simp[b])];rfl
def Yx{α:Type}:∀{a:Do (Id×α)} {x:Id} {j:Nat} {c v:α},a[j]? =some (x,c)->(∀(i:Nat) p,i<j->a[i]? =some p->p.1≠x)->pN a x v=a.set j (x,v)
 |[],_,_,_,_,h,_=>by simp at h
 |(k,e)::a,x,j,c,v,h,b=>by
  cases j with
  |zero=>simp at h;rw[pN,axn h.1,h.1];rfl
  |succ j=>
   rw[pN,axm (b 0 (k,e) bv rfl),Yx (j:=j) (c:=c) (by simpa using h) λi p g f=>b (i+1) p bv (by simpa using f)];rfl
def mapA(P:Fd)(t:EQ):At (TypeDesc×Id):=
 match P.underlying t with
 |some (.map k e)=>match ao0 P k,P.info? e with
  |some d,some i=>match i.zero with
   |some z=>some (d,z)
   |none=>none
  |_,_=>none
 |_=>none
def iv{P:Fd}{d:TypeDesc}(h:mapA P b=some (d,v)):∃k e i,P.underlying b=some (.map k e)/\Wf P k d/\P.info? e=some i/\i.zero=some v:=by
 unfold mapA at h;split at h
 next k e a=>
  split at h
  next j i c f=>
   split at h
   next l g=>simp only[axq,axI]at h;obtain⟨rfl,rfl⟩:=h;exact⟨k,e,i,a,alD c,f,g⟩
   .cases h
  .cases h
 .cases h
def QW:Id->AV
 |.agg a=>.ag (a.toList.map mG)
 |x=>mG x
def Ox{Rd:bI}(x:Id):VR Rd X (QW x) x:=by
 unfold QW;split
 next a=>have h:=AR (Rd:=Rd) (E:=X) a.toList;have:=VR.ag (Rd:=Rd) (E:=X) a.toList h.1 h.2;simpa using this
 .exact IC x
def LG.find{P:Fd}{R:a->Id->Prop}{d:TypeDesc}{g:Do (Id×a)}{k:AN}(h:LG R d g k m)(M:lQ d v)(G:Wf P b d):
 ((∀w:GE,(Instr.findKey b v k.toList).run P w=.ok none w)/\(∀x∈k.toList,x.key≠v)/\fm g v=none/\∀f,pN g v f=g++[(v,f)])\/
 ∃j e c,(∀w:GE,(Instr.findKey b v k.toList).run P w=.ok (some (j,e.val)) w)/\k[j]? =some e/\e.key=v/\fm g v=some c/\R c e.val/\g[j]? =some (v,c)/\∀f,pN g v f=g.set j (v,f):=by
 have A:∀(j:Nat) p,g[j]? =some p->∃e,k[j]? =some e/\e.key=p.1:=λj p o=>by
  have l:j<k.size:=by rw[h.len];exact(axs.1 o).1
  exact⟨k[j],ax_ l,(h.key j p _ o (ax_ l)).1⟩
 rcases G.fnd v k.toList M h.isk with⟨r,q⟩|⟨j,e,r,q,s⟩
 .have C:∀p∈g,p.1≠v:=λp o u=>by
   obtain⟨j,l,rfl⟩:=ayb o;obtain⟨e,n,N⟩:=A j _ (axz l);exact q e (Array.mem_toList_iff.2 (aB6 n)) (N.trans u)
  exact .inl ⟨r,q,IS C,λf=>Mu C⟩
 .have n:k[j]? =some e:=by simpa using q
  have l:j<g.length:=by rw[<-h.len];exact(ax7.1 n).1
  have y:=h.key j _ e (axz l) n;have H:g[j].1=v:=y.1.symm.trans s;have t:g[j]? =some (v,g[j].2):=by rw[axz l,<-H]
  have z:∀(i:Nat) p,i<j->g[i]? =some p->p.1≠v:=λi p J o u=>by
   obtain⟨Q,B,O⟩:=A i p o;have S:=h.k6.2.2;have I:i<k.toList.length:=by have:=(ax7.1 B).1;simpa using this
   have L:j<k.toList.length:=by have:=(ax7.1 n).1;simpa using this
   have D:=aAo.1 ((aBr k m).1 h.k6).2.2 i j I L J;have E:k.toList[i]=Q:=by
    have:=(ax7.1 B).2;simpa using this
   have F:k.toList[j]=e:=by
    have:=(ax7.1 n).2;simpa using this
   rw[E,F]at D;exact D (by rw[O,u,s])
  refine .inr ⟨j,e,g[j].2,r,n,s,Rp t z,y.2,t,λf=>Yx t z⟩
def LG.put{P:Fd}{R R':a->Id->Prop}{z:Do (Id×a)}{y:AN}(n:LG R j z y m)(M:∀c u,R c u->R' c u){w:Id}(s:lQ j w)
 (p1:P.underlying b=some (.map k G)) (p2:Wf P k j) {c:a} {v:Id} (N:R' c v) {h:Nat} (C:o.heap[h]? =some (.map y m)):
 ∃I J,(Instr.mapUpdate b (.map (some h)) w v).run P o=.ok () {o with heap:=o.heap.setIfInBounds h (.map I J)}/\LG R' j (pN z w c) I J:=by
 rcases n.find (P:=P) s p2 with⟨E,A,F,L⟩|⟨f,g,Y,E,A,F,L,Z,O,Q⟩
 .refine⟨y.push {key:=w,val:=v,born:=m},m+1,?_,?_⟩
  .simp[Instr.mapUpdate,axR p1,ayu C,p2.Rm _ _ _ s,E,ay0 _ C,Result.andThen]
  .rw[L]
   refine⟨by simp[n.len],λf x g p l=>?_,λg l=>?_,stamped_push n.k6 A,λf g r=>?_,by rw[n.clk];simp⟩
   .by_cases r:f<z.length
    .rw[aye r]at p
     rw[azC,axm (by rw[n.len];omega)]at l;exact⟨(n.key f x g p l).1,M _ _ (n.key f x g p l).2⟩
    .have S:f=z.length:=by
      have:=(axs.1 p).1;simp at this;omega
     subst S;simp at p;rw[azC,axn n.len.symm]at l;simp at l;subst p;subst l;exact⟨rfl,N⟩
   .rw[Array.toList_push,axy]at l
    rcases l with l|l
    .exact n.isk g l
    .simp at l;subst l;exact s
   .rw[azC]at r
    split at r
    next e=>cases r;rw[e];exact n.clk
    .exact n.V2 f g r
 .have V:∀q,y[f]? =some q->({q with key:=w,val:=v}:MapEntry).key=q.key:=λq D=>by rw[A]at D;cases D;exact F.symm
  refine⟨y.modify f λe=>{e with key:=w,val:=v},m,?_,?_⟩
  .simp[Instr.mapUpdate,axR p1,ayu C,p2.Rm _ _ _ s,E,A,F,p2.stay _ _ s,ay0 _ C,Result.andThen]
  .rw[Q]
   refine⟨by simp[n.len],λi x B p l=>?_,λB t=>?_,aBs n.k6 _ _ (λ_ _=>rfl) (λq _ D=>V q D),λi B t=>?_,by rw[n.clk];simp⟩
   rotate_left
   .obtain⟨i,hi,rfl⟩:=ayb t
    rw[aAp,aAL];split
    .exact s
    .exact n.isk _ d5
   .rw[ay9]at t
    split at t
    .obtain⟨X,W,rfl⟩:=axW.1 t
     exact n.V2 i X W
    .exact n.V2 i B t
   rw[ay9]at l;by_cases H:f=i
   .subst H
    have U:f<z.length:=(axs.1 O).1;rw[A]at l;simp at l;simp[U]at p;subst p;subst l;exact⟨rfl,N⟩
   .rw[axm H]at l
    rw[aAM H]at p;exact⟨(n.key i x B p l).1,M _ _ (n.key i x B p l).2⟩
section
variable{P:Fd}{st:St}{d:Nat}{dd:ca}{ty:EQ}{pos:String}{af:dM}{gd:fJ}{K:St->Prop}
def Ga.Mw{a:Act}(h:Ga Y E L st a o){i:Do (Id×AV)}(s:st.ev c=.mp m)(r:bc st.h m=some (.mp j i)):
 ∃b e f,a.eval c=.map (some b)/\L.bX m=some b/\L.cS m=0/\o.heap[b]? =some (.map e f)/\MR (bS Y E L st.h o) j i e f:=by
 obtain⟨l,b,e,f,k,n,p⟩:=h.sr.ob _ _ r;have g:=h.ev c;rw[s]at g;generalize a.eval c=u at g;cases g with
 |mp q=>
  obtain rfl:=axt (q.symm.trans k);exact⟨_,e,f,rfl,k,l,n,p⟩
def RS.avf{k:Nat}{t u:TypeDesc}{es:Do (Id×AV)}(q:W[0]? =some b)(p:mapA P b=some (t,v))(r:st.ev c=.mp k)(n:bc st.h k=some (.mp u es)):
 RS P ⟨dd,.call ⟨.builtin .len, #[c],W⟩,ty,pos,af,gd⟩ st (.v (.int .i64 es.length)):=λH x e a w h=>by
 obtain⟨F,A,i,g,B,C,D⟩:=iv p;obtain⟨f,y,z,j,E,_,m,o⟩:=h.Mw r n;refine⟨_,.v,λG s=>?_⟩;have l:=s.block m;simp[execOp,resolve,invoke,builtin,Builtin.len_,q,axR g,j,goInt,ayu l,o.len]
def RS.lookup{t:EQ}{x y:If}{k:Nat}{q:TypeDesc}{z p:Id}{r:Do (Id×AV)}(M:mapA P t=some (q,z))(N:st.ev x=.mp k)(J:bc st.h k=some (.mp q r))(O:∀(Rd:bI) E u,VR Rd E (st.ev y) u->u=p)(n:lQ q p):
 RS P ⟨dd,.lookup t x y false,ty,pos,af,gd⟩ st ((fm r p).getD (QW z)):=λY R e a w h=>by
 obtain⟨X,V,i,v,g,H,I⟩:=iv M;obtain⟨b,S,U,A,W,_,B,L⟩:=h.Mw N J;have C:=O _ _ _ (h.ev y);rcases L.find (P:=P) n g with⟨f,D,s,_⟩|⟨j,m,c,f,D,s,F,G,_⟩
 .refine⟨z,by rw[s];exact Ox z,λQ o=>?_⟩
  have l:=o.block B;simp[execOp,Instr.lookup,A,C,axR v,ayu l,g.Rm _ _ _ n,f,zeroValue,typeInfo,H,I]
 .refine⟨m.val,by rw[F];exact G.cW,λQ o=>?_⟩
  have l:=o.block B;simp[execOp,Instr.lookup,A,C,axR v,ayu l,g.Rm _ _ _ n,f]
def RS.afI{z o:Id}{p:Do (Id×AV)}(Q:mapA P b=some (j,z))(R:st.ev c=.mp m)(N:bc st.h m=some (.mp j p))(S:∀(Rd:bI) E u,VR Rd E (st.ev e) u->u=o)(v:lQ j o):
 RS P ⟨dd,.lookup b c e true,ty,pos,af,gd⟩ st (.tu [(fm p o).getD (QW z),.v (.bool (fm p o).isSome)]):=λG y f a w h=>by
 obtain⟨Z,X,i,B,s,L,M⟩:=iv Q;obtain⟨k,V,W,C,Y,_,D,O⟩:=h.Mw R N;have F:=S _ _ _ (h.ev e);rcases O.find (P:=P) v s with⟨r,H,A,_⟩|⟨n,g,l,r,H,A,I,J,_⟩
 .have q:LR (VR (bS G y f st.h w) (some f)) [(fm p o).getD (QW z),.v (.bool (fm p o).isSome)] [z,.bool false]:=by
   rw[A];exact LR.cons (Ox z) (LR.cons .v LR.nil)
  refine⟨_,.tu _ q.1 q.2,λU x=>?_⟩;have t:=x.block D;simp[execOp,Instr.lookup,C,F,axR B,ayu t,s.Rm _ _ _ v,r,zeroValue,typeInfo,L,M]
 .have q:LR (VR (bS G y f st.h w) (some f)) [(fm p o).getD (QW z),.v (.bool (fm p o).isSome)] [g.val,.bool true]:=by
   rw[I];exact LR.cons J.cW (LR.cons .v LR.nil)
  refine⟨_,.tu _ q.1 q.2,λU x=>?_⟩;have t:=x.block D;simp[execOp,Instr.lookup,C,F,axR B,ayu t,s.Rm _ _ _ v,r]
def SS.makeMap{t:EQ}{z:Id}(L:mapA P t=some (j,z))(s:d<st.n)(k:K ⟨st.n,(d,.mp d)::c8 d st.t,(d,some (.mp j []))::bx d st.h⟩):SS P ⟨some d,.makeMap t none,ty,pos,af,gd⟩ st K:=by
 intro N H e a w next Q f B
 obtain⟨i,l⟩:=f.sr.kill d;have C:=ac3 w (.map #[] 0);obtain⟨F,n⟩:=i.yj d (some w.heap.size) (e.sv d) 0 (some (.mp j [])) (f.sr.ext.alloc (.map #[] 0)) (.inl ⟨ef d st.h,by have:=f.n.2;omega⟩) d5 (λb g _=>afy w _ b g)
  (λb g _=>by obtain rfl:=axt g;exact⟨f.sr.ext.iq (axp _),d5,.inr (axp _)⟩)
  (λb o u ob D g J r=>by
   have q:=(i.base _ _ _ D g).2;refine⟨by rw[azQ (w:=w) (afy w _ b q)];exact r,λ_ p=>?_⟩;obtain rfl:=axt p;omega)
  (λRd I _ M E=>by
   obtain rfl:=axt E;exact⟨Env.cc,w.heap.size, #[],0,Env.bY,C,rfl,λc x m G=>by simp at G,λm A=>by simp at A,stamped_empty 0,λc m y=>by simp at y,rfl⟩)
 refine eA (v:=.map (some w.heap.size)) (w':=w.alloc (.map #[] 0)) (by simp[execOp,run_makeMap]) (B _ k _ _ _ ⟨by simpa[Act.put]using f.n,f.d,F,TR.put ?_ (by rw[f.n.1];exact s) (.mp Env.bY)⟩);exact(((f.tr.kill d).mono l).mono n).env d (dU d st.t) (λ_ h=>Env.bD h) (λ_ h=>Env.de h)
def SS.mapUpdate{t:EQ}{x y v:If}{k:Nat}{n:TypeDesc}{z m:Id}{r:Do (Id×AV)}{h1:Hp}{c:AV}(ht:mapA P t=some (n,z))(hx:st.ev x=.mp k)(V:kx st.h (st.ev v)=some (h1,c))
 (A:bc h1 k=some (.mp n r)) (hy:∀(Rd:bI) E u,VR Rd E (st.ev y) u->u=m) (U:lQ n m) (M:K ⟨st.n,st.t,(k,some (.mp n (pN r m c)))::h1⟩):SS P ⟨none,.mapUpdate t x y v,ty,pos,af,gd⟩ st K:=by
 intro J L e a w next Q s hn
 obtain⟨kt,et,i,p1,p2,p3,p4⟩:=iv ht;obtain⟨C,a7,hv⟩:=vd s.sr (s.ev v) V;have l:=s.cS a7;have a6:(⟨st.n,st.t,h1⟩:St).ev x=.mp k:=by rw[<-hx];cases x<;>rfl
 obtain⟨b,a8,a9,O,p,W,I,Y⟩:=l.Mw a6 A;have a5:=hy _ _ _ (s.ev y);have G:=l.sr.base _ _ _ A p;have a1:∃f g,(Instr.mapUpdate t (.map (some b)) m (a.eval v)).run P w=.ok () {w with heap:=w.heap.setIfInBounds b (.map f g)}/\∀Rd,(∀b o u,bS J L C h1 w b o u->Rd b o u)->MR Rd n (pN r m c) f g:=by
  obtain⟨f,g,hr,X⟩:=LG.put (P:=P) Y (λ_ _ h=>h) U p1 p2 hv I;exact⟨f,g,hr,λRd D=>MR.mono D X⟩
 obtain⟨f,g,a3,Z⟩:=a1;have H:=aAq (o':=.map f g) I;have R:Bx J {w with heap:=w.heap.setIfInBounds b (.map f g)}:=
  l.sr.ext.step rfl rfl rfl d5 λj q _=>H.2 j λe=>q (by rw[e];exact G.1)
 obtain⟨a4,N⟩:=l.sr.yj (w':={w with heap:=w.heap.setIfInBounds b (.map f g)}) k (some b) (C.sv k) 0 (some (.mp n (pN r m c))) R (.inr ⟨p.symm,rfl⟩) d5
  (λB F a0=>H.2 B λS=>a0 _ A (by rw[p];exact axD some S.symm))
  (λB F _=>by obtain rfl:=axt F;exact⟨G.1,by simpa using G.2,.inl ⟨_,A,p⟩⟩)
  (λB o' u' ob ho F ab aa=>by have:C.cS k=0:=W;omega)
  (λRd D _ ac a2=>by
   obtain rfl:=axt a2;exact⟨Env.cc,b,f,g,Env.bY,H.1,Z Rd D⟩)
 refine xA (w':={w with heap:=w.heap.setIfInBounds b (.map f g)}) ?_ (hn _ M _ _ _ ⟨l.n,l.d,a4,(l.tr.mono N).iR (λj=>by by_cases q:j=k<;>simp[Env.cK,q,p]) (λj=>by by_cases q:j=k<;>simp[Env.cK,q])⟩);simp[execOp,O,a5,a3]
def SS.arM{L s:Nat}(H:LH P b=some (k,L,s,F))(J:st.ev c=.sl D m h)(p:h=[]\/0<m)(B:d<st.n)
 (x:∀f:In,(f=true->h=[])->K ⟨st.n,(d,.v (.bool f))::st.t,st.h⟩):SS P ⟨some d,.binOp .eql b c (.const (.slice none 0 0)) G,ty,pos,af,gd⟩ st K:=by
 intro S N e a w next Q n j
 obtain⟨i,U,p2,_⟩:=cX H;have q:=n.ev c;rw[J]at q;obtain⟨g,l,M,z,I,O,C,_,_,_,y⟩:=q.nC;have A:g.isNone=true->h=[]:=λj=>by
  cases h with
  |nil=>rfl
  |cons r h=>
   have R:=I r d5;have p:0<m:=p.resolve_left d5;have E:M≠[]:=by
    rintro rfl;have:=C.1;simp at this;omega
   obtain⟨f,o,rfl,_⟩:=y E;cases j
 refine eA (v:=.bool g.isNone) (w':=w) ?_ (j _ (x g.isNone A) e _ _ (n.put B .v));have t:a.eval (.const (.slice none 0 0))=.slice none 0 0:=rfl;have u:(eqGuard .eql b c (.const (.slice none 0 0)) (.slice g h.length l) (.slice none 0 0)).run P w=.ok () w:=by simp[eqGuard]
 simp only[execOp,z,t,u,axE,aBt w b k g h.length l 0 0 p2,axF,axH]
def RS.max2{o:jk}{x y:If}{k:IntKind}{m n:Int}(j:st.ev x=.v (.int k m))(l:st.ev y=.v (.int k n)):RS P ⟨dd,.call ⟨.builtin .max, #[x,y],o⟩,ty,pos,af,gd⟩ st (.v (.int k (if n>m then n else m))):=λr p e a w h=>by
 have b:=h.ev x;have c:=h.ev y;rw[j]at b;rw[l]at c;refine⟨_,.v,λq _=>?_⟩;have f:=b.bR;have g:=c.bR;have i:(#[x,y]:gr).map a.eval= #[.int k m,.int k n]:=by simp only[azM,axJ,ayy,f,g]
 simp only[execOp,resolve,i,axE,axH,axF,invoke,builtin,Builtin.max_,azY,azZ,Builtin.max2]
end
end
variable{R:AV}{C:IntKind}
section
variable{P:Fd}{st:St}{d:Nat}{dd:ca}{ty:EQ}{pos:String}{af:dM}{gd:fJ}{K:St->Prop}
def SS.IT{t:EQ}{n l:Nat}(k:FN P t=some F)(p:∀r∈h,r.length=l)(E:h.length=n)(m:h.flatten=F.map mG)(f:∀c∈h.flatten,c.one=true)(C:n<=maxLen)(A:d<st.n)
 (x:K ⟨st.n,(d,.pt d 0)::c8 d st.t,(d,some (.arr t l h true))::bx d st.h⟩):SS P ⟨some d,.alloc t,ty,pos,af,gd⟩ st K:=by
 intro L q e a w next Q b D
 obtain⟨G,y⟩:=b.sr.kill d;have B:=ey p;have I:F.length=n*l:=by rw[<-E,<-B,m,axx]
 have o:LR (VR (bS L q e (bx d st.h) w) none) h.flatten F:=by
  rw[m];exact⟨d5,λj c u f s=>by
   rw[axM,s]at f;simp at f;subst f;exact IC u⟩
 obtain⟨H,z⟩:=G.Oq d t l n (rows:=h) (cur:=F.toArray) p f (by
  have:F.toArray.toList.take h.flatten.length=F:=by
   rw[o.1.symm];simp
  rw[this];exact o) bv C (by simp[I]) (ef d st.h) (by have:=b.n.2;omega) (w.alloc (.cells F.toArray t)) rfl (b.sr.ext.alloc _)
 unfold FN at k;obtain⟨i,g,k⟩:=azJ.1 k;obtain⟨M,J,rfl⟩:=axW.1 k;refine eA (v:=.pointer (some ⟨w.heap.size,0,none⟩)) (w':=w.alloc (.cells M.cells.toList.toArray t)) ?_ (D _ x _ _ _ ⟨by simpa[Act.put]using b.n,b.d,H,TR.put ?_ (by rw[b.n.1];exact A) (.pt Env.bY)⟩)
 .simp[execOp,Instr.alloc,zeroValue,typeInfo,g,J,newVar,newRow,newObj,Sem.run]
 .exact(((b.tr.kill d).mono y).mono z).env d (dU d st.t) (λ_ g=>Env.bD g) (λ_ g=>Env.de g)
def SS.AZ{t E:EQ}{len f U:Nat}{parts:Ix}{h':Hp}{aS cs:Do AV}{qs:Do (Nat×Do AV)}(ht:LH P t=some (E,f,U,F))
 (hl:pH st.h (parts.toList.map λp=>st.ev p.2)=some (h',aS)) (hq:mi (parts.toList.map (·.1)) aS=some qs) (L:gI (λi=>some (i*f,f)) (replicate (len*f) .un) qs=some cs)
 (y:cs.all AV.one=true) (Z:len*f<=16777216) (a5:0<f) (hd:d<st.n) (X:K ⟨st.n,(d,.ow d)::c8 d st.t,(d,some (.arr E f (chunk f len cs) true))::bx d h'⟩):SS P ⟨some d,.buildSlice t len parts,ty,pos,af,gd⟩ st K:=by
 intro B q e a w next Q h hn
 obtain⟨i,zv,n,V,W,h5,rfl,_,_⟩:=cX ht;have Y:LR (VR (bS B q e st.h w) (some e)) (parts.toList.map λp=>st.ev p.2) (parts.toList.map λp=>a.eval p.2):=by
  refine⟨d5,λj c u y n=>?_⟩;rw[axM]at y n;obtain⟨x,R,rfl⟩:=axW.1 y;rw[R]at n;simp at n;subst n;exact h.ev x.2
 obtain⟨s,l,D⟩:=Ee _ _ _ _ _ _ h.sr Y hl;have o:=h.cS l;obtain⟨p1,p2⟩:=Eg _ _ _ _ hq D d5;obtain⟨H,a0,a6⟩:=mj (P:=P) w t E len (parts.map λ(i,x)=>(i,a.eval x)) i zv n V W Z;have a4:LR (VR (bS B q s h' w) none) (replicate (len*i.size) .un) H.toList:=by
  refine⟨by simp[a0],λj c u b hu=>?_⟩;rw[azK]at b;split at b
  .simp at b;subst b;exact .un
  .cases b
 obtain⟨g,M,z⟩:=ku (place:=λj=>some (j*i.size,i.size)) qs _ _ cs H a4 p1 p2 L;have a8:(parts.toList.map (·.1)).zip (parts.toList.map λp=>a.eval p.2)=(parts.map λ(i,x)=>(i,a.eval x)).toList:=by
  rw[ay5,List.zip_map']
 rw[a8]at M;have N:cs.length=len*i.size:=by
  have R:=z.1;have:∀(A:Do (Nat×Do AV)) (c r:Do AV),gI (λj=>some (j*i.size,i.size)) c A=some r->r.length=c.length:=by
   intro A
   induction A with
   |nil=>intro c r m;simp only[gI,axq]at m;rw[m]
   |cons p A ih=>
    intro c r m;obtain⟨k,xs⟩:=p;simp only[gI]at m;split at m
    .rw[ih _ _ m,mh]
    .cases m
  rw[this _ _ _ L];simp
 obtain⟨G,S,k3⟩:=IK i.size len cs N;obtain⟨a7,I⟩:=o.sr.kill d;have a2:len<=maxLen:=by
  unfold maxLen;have:len*1<=len*i.size:=azf _ a5;omega
 have a1:(chunk i.size len cs).flatten.length=g.toList.length:=by rw[G,z.1]
 have a3:LR (VR (bS B q s (bx d h') w) none) (chunk i.size len cs).flatten (g.toList.take (chunk i.size len cs).flatten.length):=by
  rw[a1,List.take_length,G];exact z.imp λ_ _ D=>D.mono I
 obtain⟨O,J⟩:=a7.Oq d E i.size len (rows:=chunk i.size len cs) (cur:=g) k3 (λc b=>by rw[G]at b;exact axO.1 y c b) a3 (by rw[S];exact axp _) a2 (by have:=z.1;rw[N]at this;simpa using this) (ef d h') (by have:=h.n.2;omega) (w.alloc (.cells g E)) rfl (o.sr.ext.alloc _);rw[S]at O J;refine eA (v:=.slice (some ⟨w.heap.size,0,none⟩) len len) (w':=w.alloc (.cells g E)) ?_ (hn _ X _ _ _ ⟨by simpa[Act.put]using o.n,o.d,O,TR.put ?_ (by rw[o.n.1];exact hd) ?_⟩)
 .simp only[execOp,axE,a6 g M,axF,axH]
 .exact(((o.tr.kill d).mono I).mono J).env d (dU d st.t) (λ_ C=>Env.bD C) (λ_ C=>Env.de C)
 .have:=VR.ow (Rd:=bS B q (s.cK d (some w.heap.size) (.slice (some ⟨w.heap.size,0,none⟩) len len) 0) ((d,some (.arr E i.size (chunk i.size len cs) true))::bx d h') (w.alloc (.cells g E))) (e:=s.cK d (some w.heap.size) (.slice (some ⟨w.heap.size,0,none⟩) len len) 0) (k:=d)
  rw[Env.dN]at this;exact this
def RS.imp{o:Oper}(h:RS P o st s)(c:∀Rd E u,VR Rd E s u->VR Rd E R u):RS P o st R:=λj b e a w f=>by
 obtain⟨v,i,g⟩:=h j b e a w f;exact⟨v,c _ _ _ i,g⟩
def RS.Wh{n a f:Nat}{i:Int}(l:arA P b=some (n,k,a))(r:st.ev e=.v (.int C i))(g:0<=i)(h:i<n)(p:st.ev c=.pt f 0):
 RS P ⟨dd,.indexAddr b c e,ty,pos,af,gd⟩ st (.pe f i.toNat a 0):=by
 refine RS.imp (RS.AQ (q:=.pt f (0+i.toNat*a)) l r g h (by rw[p];rfl)) λRd k u m=>?_;cases m with
 |pt j=>
  have:=VR.pe (Rd:=Rd) (i:=i.toNat) (sz:=a) (o:=0) j;rw[ayO]at this;rw[axY];exact this
def RS.ao1{p m:jj}{n L I l h:Nat}(Q:arA P b=some (n,k,L))(R:st.ev c=.pt I 0)(B:uZ st 0 p=some l)(z:uZ st n m=some h)(V:l<=h)(W:h<=n)(X:n<=maxLen):
 RS P ⟨dd,.slice b c p m none,ty,pos,af,gd⟩ st (.sw I l (h - l) L):=λw0 U e a w x=>by
 obtain⟨S,v,M,rfl⟩:=xz Q;have C:=x.ev c;rw[R]at C;generalize r:a.eval c=u at C;cases C with
 | @pt e f o g E=>
  have j:P.elem b=k:=by simp[Program.elem,v]
  have i:P.arrayLen b=n:=by simp[Program.arrayLen,v]
  have t:P.underlying b=some (.array (P.arrayLen b) (P.elem b)):=by rw[j,i];exact v
  have O:(p=none/\l=0)\/∃f,p.map a.eval=some (.int f (l:Int)):=by
   cases p with
   |none=>simp[uZ]at B;exact .inl ⟨rfl,B.symm⟩
   |some y=>obtain⟨f,A⟩:=AU x B;exact .inr ⟨f,by simp[A]⟩
  have N:(m=none/\h=n)\/∃f,m.map a.eval=some (.int f (h:Int)):=by
   cases m with
   |none=>simp[uZ]at z;exact .inl ⟨rfl,z.symm⟩
   |some y=>obtain⟨f,A⟩:=AU x z;exact .inr ⟨f,by simp[A]⟩
  refine⟨slicedAt ⟨g,0,none⟩ l h n S.size,?_,λq Z=>?_⟩
  .unfold slicedAt
   by_cases D:n=l
   .rw[axn D]
    exact VR.sw E (λY=>by omega) bv bv
   .rw[axm D,ax8,axY]
    exact VR.sw E (λ_=>rfl) bv bv
  .have s:=cM (P:=P) q M
   rcases O with⟨rfl,rfl⟩|⟨J,G⟩<;>rcases N with⟨rfl,rfl⟩|⟨H,F⟩
   .simp[execOp,r,aB7 q b ⟨g,0,none⟩ t,j,i,s]
   .simp only[execOp,r,azj,F,aB8 q b ⟨g,0,none⟩ t H h bv (by rw[i];omega),axE,j,s,i,axF,axw,axH]
   .simp only[execOp,r,azj,G,aB9 q b ⟨g,0,none⟩ t J l bv (by rw[i];omega),axE,j,s,i,axF,axw,axH]
   .simp only[execOp,r,azj,G,F,aB_ q b ⟨g,0,none⟩ t J H l h bv bv (by rw[i];omega),axE,j,s,i,axF,axw,axH]
end
variable{A:Int}
section
variable{P:Fd}{st:St}{d:Nat}{dd:ca}{ty:EQ}{pos:String}{af:dM}{gd:fJ}{K:St->Prop}
def RS.makeFunc{c:Fn}{f b:gr}:RS P ⟨dd,.makeFunc c f b,ty,pos,af,gd⟩ st (.cl c (f.toList.map st.ev) (b.toList.map st.ev)):=λn l e a w h=>by
 refine⟨.func c (f.map a.eval) (b.map a.eval),?_,λm _=>by simp[execOp,Instr.makeFunc]⟩;have j:=h.args f;have k:=h.args b;have:=VR.cl (fn:=c) _ _ j.1 k.1 j.2 k.2;have i:∀g:gr,(g.toList.map a.eval).toArray=g.map a.eval:=λg=>by rw[<-ay5]
 rw[i,i]at this;exact this
def nnA:AV->In
 |.pt _ _=>true
 |.pe _ _ _ _=>true
 |.fp _=>true
 |.cl (.func _) _ _=>true
 |_=>false
def RS.nilCheck(j:nnA (st.ev c)=true):RS P ⟨dd,.nilCheck c,ty,pos,af,gd⟩ st (st.ev c):=λy p e a w h=>by
 refine⟨a.eval c,h.ev c,λx _=>?_⟩;have i:=h.ev c;generalize st.ev c=b at j i;generalize g:a.eval c=u at i;cases i with
 |pt l=>simp[execOp,g]
 |pe l=>simp[execOp,g]
 |fp o n m s=>simp[execOp,g]
 | @cl _ k r q o z n v m t=>
  cases k with
  |func f=>simp[execOp,g]
  |_=>simp[nnA]at j
 |_=>simp[nnA]at j
def OR.ao2{Rd:bI}(c:OR Rd L o m (.arr b 1 h true)):OR Rd L o m (.nr b h.flatten):=by
 obtain⟨r,w,s,t⟩:=c;have g:h.flatten.length=h.length:=by rw[ey r,ayQ]
 refine⟨s rfl,?_⟩;rcases t with⟨rfl,e,f⟩|⟨a,p,q,i,e,f,j,k,l,n,v⟩
 .exact .inl ⟨rfl,e,f⟩
 .exact .inr ⟨a,p,q,i,by rw[g];exact e,by rw[g];exact f,j,k,by rw[l,ayQ],n.imp λ_ _ u=>u.cW⟩
def vg(a:Do AV):(a.map λc=>[c]).flatten=a:=by
 induction a with
 |nil=>rfl
 |cons c a b=>simp[b]
def OR.arO{Rd:bI}(h:OR Rd L o m (.nr b i))(y:∀c∈i,c.fz=true)(w:∀c∈i,c.one=true)(wr:In):OR Rd L o m (.arr b 1 (i.map λc=>[c]) wr):=by
 obtain⟨k,x⟩:=h;refine⟨λr z=>?_,by rw[vg];exact w,λ_=>k,?_⟩
 .obtain⟨c,_,rfl⟩:=axC.1 z
  rfl
 .rcases x with⟨rfl,e,f⟩|⟨a,t,v,n,e,f,p,q,s,g⟩
  .exact .inl ⟨rfl,e,f⟩
  .refine .inr ⟨a,t,v,n,by rw[axx];exact e,by rw[axx];exact f,p,q,by rw[s,ayQ],?_,by rw[k];exact axT _⟩
   rw[vg];exact⟨g.1,λj c u l A=>(g.2 j c u l A).IF (y c (axB l))⟩
def OR.avg{Rd:bI}{g cs':Do AV}(e:cs'.length=g.length)(A:∀(j:Nat) c f,g[j]? =some c->cs'[j]? =some f->∀u,VR Rd (some L) c u->VR Rd (some L) f u)(h:OR Rd L o m (.nr b g)):OR Rd L o m (.nr b cs'):=by
 obtain⟨y,z⟩:=h;refine⟨y,?_⟩;rcases z with⟨rfl,i,k⟩|⟨a,w,x,r,i,k,s,t,v,l⟩
 .exact .inl ⟨ayn e,i,k⟩
 .refine .inr ⟨a,w,x,r,by rw[e];exact i,by rw[e];exact k,s,t,v,⟨by rw[e];exact l.1,λj f u n q=>?_⟩⟩
  rw[e]at q;have p:j<g.length:=by rw[<-e];exact(axs.1 n).1
  exact A j _ f (axz p) n u (l.2 j _ u (axz p) q)
def RS.Yy{cs:Do AV}{l:Nat}
 (E:LH P b=some (k,1,m,F)) (G:st.ev c=.ow l) (y:bc st.h l=some (.nr k cs)) (H:st.ev e=.v (.int C A)) (p:0<=A) (n:A<cs.length):
 RS P ⟨dd,.indexAddr b c e,ty,pos,af,gd⟩ st (.pe l A.toNat 1 0):=λZ L f a w h=>by
 obtain⟨I,zv,q,r,N,O,s,_,_⟩:=cX E;have j:=h.ev c;rw[G]at j;have i:=h.ev e;rw[H]at i;have i:=i.bR;obtain⟨_,B⟩:=h.sr.ob _ _ y;rcases B with⟨z,R,_⟩|⟨g,o,M,x,D,S,X,V,U,W⟩
 .subst z;simp at n;omega
 have v:a.eval c=.slice (some ⟨g,0,none⟩) cs.length o:=by
  generalize Q:a.eval c=u at j;cases j with
  |ow=>exact D
 refine⟨.pointer (some ⟨g,A.toNat*1+0,none⟩),.pe x,λJ Y=>?_⟩;have t:(⟨g,0,none⟩:Addr).add (A.toNat*I.size)=⟨g,A.toNat,none⟩:=by rw[s,ax8,axY,ayQ]
 simp[execOp,Instr.indexAt,i,asIntOf,axR q,v,p,n,cM J r,t]
def SR.Oy(l:SR Y E L n o){c:Nat}(k:bc n m=some (.nr b i))(f:L.bX m=some c)(a:Nat)
 (W:VR (bS Y E L n o) (some L) s v):
 SR Y E (L.cK m (some c) (L.sv m) 0) ((m,some (.nr b (i.set a s)))::n) (o.setCell ⟨c,a,none⟩ v)/\
 ∀h w x,bS Y E L n o h w x->bS Y E (L.cK m (some c) (L.sv m) 0) ((m,some (.nr b (i.set a s)))::n) (o.setCell ⟨c,a,none⟩ v) h w x:=by
 obtain⟨N,U⟩:=l.ob _ _ k;have t:=l.base _ _ _ k f;rcases U with⟨Z,G,_⟩|⟨g,C,p,F,V,H,Q,J,I,A⟩
 .rw[G]at f;cases f
 obtain rfl:g=c:=axt (F.symm.trans f);refine l.yj m (some g) (L.sv m) 0 _ (l.ext.setCell t.1 _) (.inr ⟨f.symm,rfl⟩) d5 (λh r R=>aA_ o _ _ _ (λM=>R _ k (by rw[f];exact axD some M.symm))) (λh r _=>?_) (λh w x ob ho r O X=>?_) (λRd y _ a0 S=>?_)
 .obtain rfl:=axt r
  exact⟨t.1,by simp;exact t.2,.inl ⟨_,k,f⟩⟩
 .rw[N]at O;omega
 .obtain rfl:=axt S
  have z:∀j,(L.cK m (some g) (L.sv m) 0).bX j=L.bX j:=λj=>by by_cases u:j=m<;>simp[Env.cK,u,f]
  have B:∀j,(L.cK m (some g) (L.sv m) 0).sv j=L.sv j:=λj=>by by_cases u:j=m<;>simp[Env.cK,u]
  refine⟨Env.cc,.inr ⟨g,C,p.setIfInBounds a v,Env.bY,by rw[Env.dN,ayA];exact V,by rw[ayA];exact H,Q,aBa o g a p b v J,by simpa using I,?_⟩⟩;rw[ayA,az_,aAC];have q:LR (VR Rd (some (L.cK m (some g) (L.sv m) 0))) i (p.toList.take i.length):=⟨A.1,λe s v q D=>((A.2 e s v q D).mono y).iR rfl z B⟩;exact q.set a ((W.mono y).iR rfl z B)
def SS.Oy{t l:EQ}{x y:If}{k i:Nat}{n:Do AV}{c:AV}{D:In}(Y:st.ev x=.pe k i 1 0)(r:bc st.h k=some (.nr l n))(ht:V7 P t=some (D,1))(O:cellsOf (st.ev y)=some [c])
 (E:c.one=true) (W:qq st.h (st.ev y)=true) (X:qq st.h c=true) (hi:i<n.length) (G:K ⟨st.n,st.t,(k,some (.nr l (n.set i c)))::st.h⟩):
 SS P ⟨none,.store t x y,ty,pos,af,gd⟩ st K:=by
 intro w0 C e a w next Q h V
 obtain⟨B,hu,s⟩:=rB O (h.ev y) (h.qq W);have p:=h.ev x;rw[Y]at p;generalize J:a.eval x=u at p;cases p with
 | @pe _ _ _ _ _ b g=>
  obtain⟨td,ad,h2,F,_,a2⟩:=iK ht;obtain⟨v,rfl⟩:∃v,B=[v]:=by
   match B,s.1 with
   |[v],_=>exact⟨v,rfl⟩
  have A:VR (bS w0 C e st.h w) (some e) c v:=s.2 0 c v rfl rfl;have ab:v.oneCell'=true:=A.ks E λe' k' R S=>by cases R;exact h.qq X k' S
  obtain⟨hs,H⟩:=h.sr.Oy r g i A;obtain⟨a8,Z⟩:=h.sr.ob _ _ r;rcases Z with⟨aa,N,_⟩|⟨f,a3,m,L,ac,a4,hm,q,a6,a9⟩
  .rw[N]at g;cases g
  obtain rfl:=axt (L.symm.trans g);have M:∀j,(e.cK k (some f) (e.sv k) 0).bX j=e.bX j:=λj=>by by_cases o:j=k<;>simp[Env.cK,o,g]
  have a0:∀j,(e.cK k (some f) (e.sv k) 0).sv j=e.sv j:=λj=>by by_cases o:j=k<;>simp[Env.cK,o]
  refine xA (w':=w.setCell ⟨f,i,none⟩ v) ?_ (V _ G _ _ _ ⟨h.n,h.d,hs,(h.tr.mono H).iR M a0⟩);have U:i<m.size:=bv
  have a5:w.cell? ⟨f,i,none⟩=some m[i]:=by
   rw[ays w f i m l (0,0) q];simp[U]
  have a7:=azU w f i m l q;have a1:(store ⟨f,i,none⟩ v).run P w=.ok () (w.setCell ⟨f,i,none⟩ v):=by
   cases v<;>simp_all[store,Sem.run,Value.oneCell']
  have I:(⟨f,i*1+0,none⟩:Addr).add 0=⟨f,i,none⟩:=by rw[ax8];simp
  have z:(storeCells ⟨f,i*1+0,none⟩ [v] 0).run P w=.ok () (w.setCell ⟨f,i,none⟩ v):=by
   simp only[storeCells,axE,I,a1,axF,axH]
  simp only[ayQ,ayO]at z;simp[execOp,Instr.storeAt,Instr.sureAddr,J,storeVar,hu,cM w F,<-a2,z]
end
variable{O:Do (Do AV)}{d:Nat}
inductive Sc where
 |i (k:IntKind)
 |b
 |sl (r:Sc)
 |pr (x y:Sc)
 |u
@[reducible] def Sc.c9:Sc->Type
 |.i _=>Int
 |.b=>In
 |.sl r=>Do r.c9
 |.pr x y=>x.c9×y.c9
 |.u=>Unit
def Sc.w:Sc->Nat
 |.pr x y=>x.w+y.w
 |.u=>0
 |.i _=>1
 |.b=>1
 |.sl _=>1
def Sc.eqP:(a c:Sc)->At (PLift (a=c))
 |.i k,.i l=>if h:k=l then some ⟨by rw[h]⟩else none
 |.b,.b=>some ⟨rfl⟩
 |.sl r,.sl s=>match Sc.eqP r s with
  |some ⟨h⟩=>some ⟨by rw[h]⟩
  |none=>none
 |.pr x y,.pr z w=>match Sc.eqP x z with
  |some ⟨h⟩=>match Sc.eqP y w with
   |some ⟨g⟩=>some ⟨by rw[h,g]⟩
   |none=>none
  |none=>none
 |.u,.u=>some ⟨rfl⟩
 |_,_=>none
def eG(a c:Sc)(x:a.c9):At c.c9:=match Sc.eqP a c with
 |some ⟨h⟩=>some (h▸x)
 |none=>none
def dm{a c:Sc}{x:a.c9}{y:c.c9}(h:eG a c x=some y):∃e:a=c,y=e▸x:=by
 unfold eG at h;split at h
 next e _=>cases h;exact⟨e,rfl⟩
 .cases h
def bJ:(s:Sc)->s.c9->Do AV
 |.i k,x=>[.v (.int k x)]
 |.b,x=>[.v (.bool x)]
 |.sl r,a=>[.sl false r.w (List.map (bJ r) a)]
 |.pr x y,p=>bJ x p.1++bJ y p.2
 |.u,_=>[]
def encS:(s:Sc)->s.c9->AV
 |.i k,x=>.v (.int k x)
 |.b,x=>.v (.bool x)
 |.sl r,a=>.sl false r.w (List.map (bJ r) a)
 |.pr _ _,_=>.un
 |.u,_=>.un
def e6:∀(s:Sc) (x:s.c9),(bJ s x).length=s.w
 |.i _,_=>rfl
 |.b,_=>rfl
 |.sl _,_=>rfl
 |.pr x y,p=>by rw[bJ,axG,e6 x,e6 y];rfl
 |.u,_=>rfl
def qA:∀(s:Sc) (x:s.c9),∀c∈bJ s x,c.one=true
 |.i _,_,c,h=>by simp only[bJ,axK]at h;subst h;rfl
 |.b,_,c,h=>by simp only[bJ,axK]at h;subst h;rfl
 |.sl _,_,c,h=>by simp only[bJ,axK]at h;subst h;rfl
 |.pr x y,p,c,h=>by
  simp only[bJ,axy]at h;exact h.elim (qA x _ c) (qA y _ c)
 |.u,_,c,h=>by simp[bJ]at h
def Oz:∀(s:Sc) (x:s.c9),∀c∈bJ s x,c.fz=true
 |.i _,_,c,h=>by simp only[bJ,axK]at h;subst h;rfl
 |.b,_,c,h=>by simp only[bJ,axK]at h;subst h;rfl
 |.sl _,_,c,h=>by simp only[bJ,axK]at h;subst h;rfl
 |.pr x y,p,c,h=>by
  simp only[bJ,axy]at h;exact h.elim (Oz x _ c) (Oz y _ c)
 |.u,_,c,h=>by simp[bJ]at h
inductive EV where
 |un
 |sc (s:Sc) (x:s.c9)
 |nil
 |ts (r:Sc) (xs:List r.c9)
 |v (x:Value)
 |ow (k:Nat)
 |pt (k o:Nat)
 |pe (k:Nat) (i:Int) (sz o:Nat)
 |sw (k:Nat) (l n:Int) (sz:Nat)
 |mp (k:Nat)
 |fp (cs:List EV)
 |ag (cs:List EV)
 |tu (cs:List EV)
 |cl (fn:Fn) (fs cs:List EV)
mutual
def enc:EV->AV
 |.un=>.un
 |.sc s x=>encS s x
 |.nil=>.sl true 0 []
 |.ts r e=>.sl true r.w (List.map (bJ r) e)
 |.v x=>.v x
 |.ow k=>.ow k
 |.pt k o=>.pt k o
 |.pe k i b o=>.pe k i.toNat b o
 |.sw k l n b=>.sw k l.toNat n.toNat b
 |.mp k=>.mp k
 |.fp a=>.fp (cg a)
 |.ag a=>.ag (cg a)
 |.tu a=>.tu (cg a)
 |.cl c d a=>.cl c (cg d) (cg a)
def cg:Do EV->Do AV
 |[]=>[]
 |c::a=>enc c::cg a
end
def dW:∀a:Do EV,cg a=a.map enc
 |[]=>rfl
 |c::a=>by rw[cg,dW a];rfl
def lU(a ds:Do EV):cg (a++ds)=cg a++cg ds:=by rw[dW,dW,dW,aya]
def fK(a:Do EV):(cg a).length=a.length:=by rw[dW,axx]
def vh:(s:Sc)->s.c9->Do EV
 |.i k,x=>[.sc (.i k) x]
 |.b,x=>[.sc .b x]
 |.sl r,a=>[.sc (.sl r) a]
 |.pr x y,p=>vh x p.1++vh y p.2
 |.u,_=>[]
def gO:∀(s:Sc) (x:s.c9),cg (vh s x)=bJ s x
 |.i _,_=>rfl
 |.b,_=>rfl
 |.sl _,_=>rfl
 |.pr x y,p=>by rw[vh,lU,gO x,gO y];rfl
 |.u,_=>rfl
def jG:(s:Sc)->s.c9->EV
 |.pr x y,p=>.ag (vh (.pr x y) p)
 |.u,p=>.ag []
 |.i k,x=>.sc (.i k) x
 |.b,x=>.sc .b x
 |.sl r,x=>.sc (.sl r) x
def Wk(c a:AV):Prop:=∀(Rd:bI) E u,VR Rd E c u->VR Rd E a u
def Wk.refl(c:AV):Wk c c:=λ_ _ _ h=>h
inductive pP:List AV->List AV->Prop
 |nil:pP [] []
 |cons {c c':AV} {cs cs':List AV} (h:Wk c c') (hs:pP cs cs'):pP (c::cs) (c'::cs')
def pP.refl:∀a:Do AV,pP a a
 |[]=>.nil
 |c::a=>.cons (Wk.refl c) (pP.refl a)
def pP.append{a c d e:Do AV}(h:pP a c)(k:pP d e):pP (a++d) (c++e):=by
 induction h with
 |nil=>exact k
 |cons h f b=>exact .cons h b
def pP.len(h:pP i u):u.length=i.length:=by
 induction h with
 |nil=>rfl
 |cons _ _ a=>simp[a]
def pP.get{a c:Do AV}(h:pP a c):∀(j:Nat) x,a[j]? =some x->∃y,c[j]? =some y/\Wk x y:=by
 induction h with
 |nil=>intro j x b;simp at b
 |cons h e d=>
  intro j x b;cases j with
  |zero=>simp at b;subst b;exact⟨_,rfl,h⟩
  |succ j=>exact d j x (by simpa using b)
def pP.lr(h:pP i u){Rd:bI}(c:LR (VR Rd X) i F):LR (VR Rd X) u F:=by
 refine⟨by rw[c.1,h.len],λj y a d f=>?_⟩;have b:j<i.length:=by
  have:=(axs.1 d).1;rw[h.len]at this;exact this
 obtain⟨k,e,g⟩:=h.get j _ (axz b);rw[d]at e;cases e;exact g _ _ _ (c.2 j _ a (axz b) f)
def Wk.tight:Wk (.sl true d h) (.sl false d h):=by
 intro Rd E u a;cases a with
 |sl k j c i g b e l f=>exact .sl k j c i g b e d5 f
def Wk.empty(h:D=false):Wk (.sl true d []) (.sl D m []):=by
 intro Rd E u h;cases h with
 |sl g k i f e a b j c=>exact .sl g d5 d5 f e a b (by simp[*]) c
def Wk.Wi:Wk (.sl D d []) (.sl D m []):=by
 intro Rd E u h;cases h with
 |sl i k j g f a b c e=>exact .sl i d5 d5 g f a b c e
def Wk.ag{a b:Do AV}(h:pP a b):Wk (.ag a) (.ag b):=by
 intro Rd E u d;obtain⟨e,rfl,c⟩:=VR.ff d;have:=h.lr c;exact .ag e this.1 this.2
def Wk.tu{a b:Do AV}(h:pP a b):Wk (.tu a) (.tu b):=by
 intro Rd E u d;obtain⟨e,rfl,c⟩:=VR.Iy d;have:=h.lr c;exact .tu e this.1 this.2
def Wk.clM{c:Fn}{d e a b:Do AV}(h:pP d e)(k:pP a b):Wk (.cl c d a) (.cl c e b):=by
 intro Rd E u n;cases n with
 |cl o p l m i j=>
  have f:=h.lr ⟨l,i⟩;have g:=k.lr ⟨m,j⟩;exact .cl o p f.1 g.1 f.2 g.2
inductive rJ:List (List AV)->List (List AV)->Prop
 |nil:rJ [] []
 |cons {r r':List AV} {rs rs':List (List AV)} (h:pP r r') (hs:rJ rs rs'):rJ (r::rs) (r'::rs')
def rJ.flat(a:rJ h O):pP h.flatten O.flatten:=by
 induction a with
 |nil=>exact .nil
 |cons a c b=>simpa using a.append b
def rJ.len(a:rJ h O):O.length=h.length:=by
 induction a with
 |nil=>rfl
 |cons _ _ b=>simp[b]
def rJ.wid(a:rJ h O)(c:∀r∈h,r.length=d):∀r∈O,r.length=d:=by
 induction a with
 |nil=>simp
 |cons a g f=>
  intro r b;rcases axP.1 b with rfl|b
  .rw[a.len];exact c _ d5
  .exact f (λx e=>c x (by simp[e])) r b
def rJ.refl:∀a:Do (Do AV),rJ a a
 |[]=>.nil
 |c::a=>.cons (pP.refl c) (rJ.refl a)
def Wk.rows(a:rJ h O)(g:∀x∈O.flatten,x.one=true):Wk (.sl D d h) (.sl D d O):=by
 intro Rd E u m;cases m with
 |sl b n o k j c e f i=>
  have l:LR (VR Rd none) h.flatten b:=⟨k,j⟩;have:=a.flat.lr l;rw[<-a.len];exact .sl b (a.wid n) g this.1 this.2 (by rw[a.len];exact c) e (by rw[a.len];exact f) i
def Mx(s:Sc):EV->At s.c9
 |.sc a x=>eG a s x
 |.nil=>match s with
  |.sl r=>some (show Do r.c9 from [])
  |_=>none
 |.ts r b=>eG (.sl r) s b
 |_=>none
def Wj{s:Sc}{c:EV}{x:s.c9}(h:Mx s c=some x):Wk (enc c) (encS s x):=by
 cases c with
 |sc b y=>
  obtain⟨rfl,rfl⟩:=dm h;exact Wk.refl _
 |nil=>
  cases s with
  |sl r=>
   have a:x=(show Do r.c9 from []):=(axt h).symm;rw[a];exact Wk.empty rfl
  |_=>simp[Mx]at h
 |ts r d=>
  obtain⟨rfl,rfl⟩:=dm h;exact Wk.tight
 |_=>simp[Mx]at h
variable{y:EV}{I:Sc}{B V:a_}
def db:(s:Sc)->s.c9->bH
 |.i k,x=>[.int k x]
 |.b,x=>[.bool x]
 |.sl _,_=>[undef]
 |.pr x y,p=>db x p.1++db y p.2
 |.u,_=>[]
def rK:(s:Sc)->s.c9->Id
 |.i k,x=>.int k x
 |.b,x=>.bool x
 |.sl _,_=>undef
 |.pr x y,p=>.agg (db (.pr x y) p).toArray
 |.u,p=>.agg (db .u p).toArray
def Sc.key:Sc->In
 |.i _=>true
 |.b=>true
 |.sl _=>false
 |.pr x y=>x.key && y.key
 |.u=>true
def jc:(s:Sc)->s.c9->s.c9->In
 |.i _,x,y=> @decide (@Eq Int x y) (Int.instDecidableEq x y)
 |.b,x,y=> @BEq.beq In _ x y
 |.sl _,_,_=>false
 |.pr a c,x,y=>jc a x.1 y.1 && jc c x.2 y.2
 |.u,_,_=>true
def fy:∀(s:Sc) (x y:s.c9),s.key=true->(jc s x y=true↔x=y)
 |.i _,x,y,_=>by simp[jc]
 |.b,x,y,_=>by simp[jc]
 |.sl _,x,y,h=>by simp[Sc.key]at h
 |.pr a c,x,y,h=>by
  simp only[Sc.key,axo]at h;obtain⟨b,d⟩:=x;obtain⟨f,g⟩:=y;simp only[jc,axo,fy a _ _ h.1,fy c _ _ h.2];constructor
  .rintro⟨rfl,rfl⟩;rfl
  .intro e;cases e;exact⟨rfl,rfl⟩
 |.u,x,y,_=>by simp[jc]
def Ep:∀(s:Sc) (x y:s.c9),(db s x).length=(db s y).length
 |.i _,_,_=>rfl
 |.b,_,_=>rfl
 |.sl _,_,_=>rfl
 |.pr a c,x,y=>by simp[db,Ep a x.1 y.1,Ep c x.2 y.2]
 |.u,_,_=>rfl
def Er:∀(s:Sc) (x y:s.c9),s.key=true->db s x=db s y->x=y
 |.i _,x,y,_,h=>by simp[db]at h;exact h
 |.b,x,y,_,h=>by simp[db]at h;exact h
 |.sl _,_,_,h,_=>by simp[Sc.key]at h
 |.pr a c,x,y,h,e=>by
  simp only[Sc.key,axo]at h;simp only[db]at e;obtain⟨b,d⟩:=List.append_inj e (Ep a _ _);exact azx (Er a _ _ h.1 b) (Er c _ _ h.2 d)
 |.u,_,_,_,_=>rfl
def IU(s:Sc)(x y:s.c9)(h:s.key=true)(e:rK s x=rK s y):x=y:=by
 cases s with
 |i k=>simp[rK]at e;exact e
 |b=>simp[rK]at e;exact e
 |sl r=>simp[Sc.key]at h
 |pr a c=>
  simp only[rK,Value.agg.injEq]at e;exact Er _ _ _ h (by simpa using e)
 |u=>rfl
def bL(s:Sc){β:Type}:Do (s.c9×β)->s.c9->At β
 |[],_=>none
 |p::a,x=>cond (jc s p.1 x) (some p.2) (bL s a x)
def dO(s:Sc){β:Type}:Do (s.c9×β)->s.c9->β->Do (s.c9×β)
 |[],x,v=>[(x,v)]
 |p::a,x,v=>cond (jc s p.1 x) ((p.1,v)::a) (p::dO s a x v)
def oA(a b:Sc)(c:Do (a.c9×b.c9)):Do (Id×AV):=c.map λp=>(rK a p.1,enc (jG b p.2))
def qF{a d:Sc}(c:a.key=true):∀(b:Do (a.c9×d.c9)) (x:a.c9),fm (oA a d b) (rK a x)=(bL a b x).map λv=>enc (jG d v)
 |[],_=>rfl
 |p::b,x=>by
  rw[oA,axJ,fm,bL];by_cases h:p.1=x
  .rw[axn (by rw[h]),(fy a _ _ c).2 h];rfl
  .rw[axm (λe=>h (IU a _ _ c e))]
   have:jc a p.1 x=false:=by
    cases f:jc a p.1 x with
    |false=>rfl
    |true=>exact absurd ((fy a _ _ c).1 f) h
   rw[this];exact qF c b x
def Wl(g:I.key=true)(z:a)(b c:I.c9):∀d:Do (I.c9×a),(bL I (dO I d c ((bL I d c).getD z)) b).getD z=(bL I d b).getD z:=by
 have i:∀{x y:I.c9},x≠y->jc I x y=false:=λ{x y} h=>by
  cases j:jc I x y with
  |false=>rfl
  |true=>exact absurd ((fy I _ _ g).1 j) h
 have l:∀(v:a) (d:Do (I.c9×a)),v=(bL I d c).getD z->(bL I (dO I d c v) b).getD z=(bL I d b).getD z:=by
  intro v d
  induction d with
  |nil=>
   intro e;simp only[dO,bL];by_cases h:c=b
   .rw[(fy I _ _ g).2 h,e];rfl
   .rw[i h];rfl
  |cons p d k=>
   intro e;simp only[bL]at e;simp only[dO];by_cases h:p.1=c
   .rw[(fy I _ _ g).2 h]at e⊢
    simp only[axL,bL]at e⊢;by_cases f:p.1=b
    .rw[(fy I _ _ g).2 f,e];rfl
    .rw[i f];rfl
   .rw[i h]at e⊢
    simp only[axr,bL]at e⊢;by_cases f:p.1=b
    .rw[(fy I _ _ g).2 f];rfl
    .rw[i f];exact k e
 exactλd=>l _ d rfl
def IV{a b:Sc}(d:a.key=true):∀(c:Do (a.c9×b.c9)) (x:a.c9) (v:b.c9),pN (oA a b c) (rK a x) (enc (jG b v))=oA a b (dO a c x v)
 |[],_,_=>rfl
 |p::c,x,v=>by
  rw[oA,axJ,pN,dO];by_cases h:p.1=x
  .rw[axn (by rw[h]),(fy a _ _ d).2 h];rfl
  .rw[axm (λe=>h (IU a _ _ d e))]
   have:jc a p.1 x=false:=by
    cases g:jc a p.1 x with
    |false=>rfl
    |true=>exact absurd ((fy a _ _ d).1 g) h
   rw[this];have f:=IV d c x v;rw[oA]at f;rw[f];rfl
inductive eh where
 |box (t:TypeId) (cs:List EV)
 |arr (t:TypeId) (r:Sc) (xs:List r.c9) (wr:Bool)
 |mp (d:TypeDesc) (kc vc:Sc) (es:List (kc.c9×vc.c9))
 |nr (t:TypeId) (r:Sc) (xs:List (List r.c9)) (ho:Oo)
 |qr (t:TypeId) (ho:ca) (sz:Nat) (xs:aX)
def nrA(r:Sc):Do r.c9->AV
 |[]=>.sl true 0 []
 |x::l=>.sl false r.w (List.map (bJ r) (x::l))
def nrH:ca->AV
 |some j=>.ow j
 |none=>.un
def Aa(r:Sc)(a:Do (Do r.c9)):Oo->Do AV
 |none=>a.map (nrA r)
 |some (i,p)=>(a.map (nrA r)).set i.toNat (nrH p)
def qrA(a:Nat):ca->Int->AV
 |some k,i=>.pe k i.toNat a 0
 |none,_=>.un
abbrev eW:=Do (Nat×At eh)
def cx:eh->Ob
 |.box t c=>.box t (cg c)
 |.arr t r a wr=>.arr t r.w (List.map (bJ r) a) wr
 |.mp d f h e=>.mp d (oA f h e)
 |.nr t r a b=>.nr t (Aa r a b)
 |.qr t b g a=>.nr t (a.map (qrA g b))
def bE:eW->Hp
 |[]=>[]
 |(k,o)::h=>(k,o.map cx)::bE h
def gD:Do (Nat×EV)->Do (Nat×AV)
 |[]=>[]
 |(i,c)::t=>(i,enc c)::gD t
def c6:Do (Nat×EV)->Nat->EV
 |[],_=>.un
 |(j,c)::t,i=>cond (beq i j) c (c6 t i)
def bG:eW->Nat->At eh
 |[],_=>none
 |(j,o)::t,i=>cond (beq i j) o (bG t i)
def jd(h:¬d=m):beq d m=false:=by
 cases a:beq d m with
 |false=>rfl
 |true=>exact absurd (axu a) h
def cN:∀(t:Do (Nat×EV)) (i:Nat),bM (gD t) i=enc (c6 t i)
 |[],_=>rfl
 |(j,c)::t,i=>by
  simp only[gD,bM,c6];by_cases h:i=j
  .rw[axn h,h,axX];rfl
  .rw[axm h,(jd h),cN t i];rfl
def dc:∀(t:eW) (i:Nat),bc (bE t) i=(bG t i).map cx
 |[],_=>rfl
 |(j,c)::t,i=>by
  simp only[bE,bc,bG];by_cases h:i=j
  .rw[axn h,h,axX];rfl
  .rw[axm h,(jd h),dc t i];rfl
def fL:∀a c:eW,bE (a++c)=bE a++bE c
 |[],c=>rfl
 |(k,o)::a,c=>by rw[ayB,bE,fL a c];rfl
def HC(b:Nat->At eh)(c:a_)(h:Hp):Prop:=
 ∀k,c.contains k=true->∀t r a wr,b k=some (.arr t r a wr)->∃d,bc h k=some (.arr t r.w (List.map (bJ r) a) d)
def G5(b:Nat->At eh)(c:eW):Prop:=∀k o,(k,o)∈c->∃t r a wr,b k=some (.arr t r a wr)/\o=some (.arr t r a false)
def My:∀{a:eW} {k:Nat},a.any (λp=>p.1==k)=true->∃o,(k,o)∈a/\bc (bE a) k=o.map cx
 |[],k,h=>by simp at h
 |(j,o)::a,k,h=>by
  by_cases b:k=j
  .subst b;exact⟨o,d5,by simp[bE,bc]⟩
  .simp only[aze,ayo]at h
   rcases h with h|h
   .exact absurd (by simpa using h) (λe:j=k=>b e.symm)
   .obtain⟨f,c,d⟩:=My h
    exact⟨f,ayr _ c,by rw[bE,bc,axm b];exact d⟩
def HA(a:eW)(k:Nat):(bE a).any (λp=>p.1==k)=a.any (λp=>p.1==k):=by
 induction a with
 |nil=>rfl
 |cons p a b=>obtain⟨j,o⟩:=p;simp only[bE,aze,b]
def HC.put{a:Nat->At eh}{h:Hp}{d:eW}(i:HC a B h)(m:G5 a d)(n:∀k,V.contains k=true->B.contains k=true):HC a V (bE d++h):=by
 intro k j t r p wr c;rw[eB,HA];split
 next f=>obtain⟨o,l,g⟩:=My f;obtain⟨s,q,u,wr2,b,e⟩:=m _ _ l;rw[c]at b;cases b;subst e;exact⟨false,g⟩
 .exact i k (n k j) t r p wr c
def oM(b:Nat->At eh)(s:Sc):EV->At (s.c9×eW×a_)
 |.ow k=>match b k with
  |some (.arr t r a wr)=>match eG (.sl r) s a with
   |some y=>some (y,[(k,some (.arr t r a false))],[k])
   |none=>none
  |_=>none
 |c=>match Mx s c with
  |some y=>some (y,[],[])
  |none=>none
def alF(s:Sc)(x:s.c9):(encS s x).fz=true:=by
 cases s<;>rfl
def afK{x:I.c9}(h:Mx I y=some x):(enc y).fz=true:=by
 cases y with
 |sc b a=>exact alF _ _
 |nil=>rfl
 |ts r c=>rfl
 |_=>simp[Mx]at h
def IW(a:s.fz=true):ir n s=some (n,s):=by
 cases s<;>first|(simp[AV.fz]at a;done)|(simp only[ir,a,ax0])
def OA{r:Hp×AV}(a:ir n s=some r):kx n s=some r:=by
 cases s<;>first|(simp[ir,AV.fz]at a;done)|(rw[kx];exact a;intro b n;cases n)
def afL{e:Nat->At eh}{h:Hp}{x:I.c9}{f:eW}(b:oM e I y=some (x,f,B))(j:HC e V h)(l:∀k,B.contains k=true->V.contains k=true):
 (∃g,ir h (enc y)=some (bE f++h,g)/\Wk g (encS I x))/\G5 e f:=by
 unfold oM at b;split at b
 next k=>
  split at b
  next t r q wr i=>
   split at b
   next a d=>
    simp only[axq,axI]at b;obtain⟨rfl,rfl,rfl⟩:=b;obtain⟨rfl,rfl⟩:=dm d;obtain⟨p,m⟩:=j k (l k d5) t r _ wr i;refine⟨⟨.sl false r.w (List.map (bJ r) _),?_,Wk.refl _⟩,?_⟩
    .simp only[enc,ir,m];rfl
    .intro n o c
     simp only[axK,axI]at c;obtain⟨rfl,rfl⟩:=c;exact⟨t,r,_,wr,i,rfl⟩
   .cases b
  .cases b
 .split at b
  next a d=>simp only[axq,axI]at b;obtain⟨rfl,rfl,rfl⟩:=b;exact⟨⟨_,IW (afK d),Wj d⟩,λk o c=>by cases c⟩
  .cases b
def iS(e:Nat->At eh):(s:Sc)->Do EV->At (s.c9×Do EV×eW×a_)
 |.pr x y,d=>match iS e x d with
  |some (a,h,os1,l)=>match iS e y h with
   |some (b,i,j,us2)=>some ((a,b),i,j++os1,l++us2)
   |none=>none
  |none=>none
 |.u,d=>some ((),d,[],[])
 |.i k,c::d=>match oM e (.i k) c with
  |some (a,f,g)=>some (a,d,f,g)
  |none=>none
 |.b,c::d=>match oM e .b c with
  |some (a,f,g)=>some (a,d,f,g)
  |none=>none
 |.sl r,c::d=>match oM e (.sl r) c with
  |some (a,f,g)=>some (a,d,f,g)
  |none=>none
 |_,[]=>none
def LQ{h f g:Hp}{d ds e ds1:Do AV}(a:jb h d=some (f,e))(b:jb f ds=some (g,ds1)):jb h (d++ds)=some (g,e++ds1):=by
 induction d generalizing h e with
 |nil=>simp only[jb,axq,axI]at a;obtain⟨rfl,rfl⟩:=a;simpa using b
 |cons c d k=>
  simp only[jb]at a;split at a
  next n l i=>
   split at a
   next o m j=>simp only[axq,axI]at a;obtain⟨rfl,rfl⟩:=a;rw[ayB,jb,i];simp only[k j,ayB]
   .cases a
  .cases a
def Ab{h b:Hp}(a:ir h s=some (b,R)):jb h [s]=some (b,[R]):=by
 simp only[jb,a]
def qG(b:Nat->At eh)(s:Sc):EV->At (s.c9×eW×a_)
 |.ag f=>match s with
  |.pr x y=>match iS b (.pr x y) f with
   |some (a,[],d,e)=>some (a,d,e)
   |_=>none
  |.u=>match iS b .u f with
   |some (a,[],d,e)=>some (a,d,e)
   |_=>none
  |_=>none
 |c=>match s with
  |.pr _ _=>none
  |.u=>none
  |.i k=>oM b (.i k) c
  |.b=>oM b .b c
  |.sl r=>oM b (.sl r) c
variable{S:Int}{t:St}{H:String}{K:jl}{J:dM}{N:fJ}
structure bz where
 ty:Option (Bool×Nat):=none
 el:Option (TypeId×Nat×Nat×bH):=none
 k7:Bool:=false
 bo:Bool:=false
 ar:Option (Nat×TypeId×Nat):=none
 fd:List (Nat×Bool×Nat):=[]
 pl:Option (bH×bw):=none
 ze:Option bH:=none
 mp:Option (TypeDesc×Value):=none
 co:Option Sc:=none
 kv:Option (Sc×Sc):=none
 ik:Option IntKind:=none
 eq:Option Sc:=none
 sg:Bool:=false
 nf:Bool:=false
 zv:Option Value:=none
def afM(P:Fd)(t:EQ)(s:Sc):Prop:=s.key=true/\∀(x y:s.c9) (w:GE),(Op.equal t (.agg (db s x).toArray) (.agg (db s y).toArray)).run P w=.ok (jc s x y) w/\
 ∀c a b,(eqGuard c t a b (.agg (db s x).toArray) (.agg (db s y).toArray)).run P w=.ok () w
def zvT(P:Fd)(t:EQ):At Id:=(P.info? t).bind λi=>i.zero
structure gJ(P:Program)(T:TypeId->bz):Prop where
 ty:∀t x,(T t).ty=some x->V7 P t=some x
 el:∀t x,(T t).el=some x->LH P t=some x
 k7:∀t,(T t).k7=true->k7 P t=true
 bo:∀t,(T t).bo=true->P.underlying t=some .bool
 ar:∀t x,(T t).ar=some x->arA P t=some x
 fd:∀t f x,(T t).fd[f]? =some x->fdA P t f=some x
 pl:∀t z l,(T t).pl=some (z,l)->∃f,plA P t=some (z,f)/\∀(i:Nat) p,l[i]? =some p->f i=some p
 ze:∀t x,(T t).ze=some x->FN P t=some x
 mp:∀t x,(T t).mp=some x->mapA P t=some x
 ik:∀t k,(T t).ik=some k->P.underlying t=some (.int k)
 eq:∀t s,(T t).eq=some s->afM P t s
 sg:∀t,(T t).sg=true->P.underlying t=some .string
 nf:∀t,(T t).nf=true->∃ms,P.underlying t=some (.interface ms)
 zv:∀t x,(T t).zv=some x->zvT P t=some x
def aW{α β:Type}(o:At α)(f:α->At β):At β:=match o with
 |some x=>f x
 |none=>none
def br{α β:Type}{o:At α}{f:α->At β}{y:β}(h:aW o f=some y):∃x,o=some x/\f x=some y:=by
 cases o with
 |none=>cases h
 |some x=>exact⟨x,rfl,h⟩
def bQ{x y:At a}{r:a}(h:cond D x y=some r):(D=true/\x=some r)\/(D=false/\y=some r):=by
 cases D with
 |true=>exact .inl ⟨rfl,h⟩
 |false=>exact .inr ⟨rfl,h⟩
def aY{x:At a}{r:a}(h:cond D x none=some r):D=true/\x=some r:=by
 cases D with
 |true=>exact⟨rfl,h⟩
 |false=>cases h
def cvE:Id->EV
 |.int k x=>.sc (.i k) x
 |.bool x=>.sc .b x
 |.slice none 0 0=>.nil
 |x=>.v x
def Yz(v:Id):enc (cvE v)=mG v:=by
 unfold cvE;split
 .rfl
 .rfl
 .rfl
 next b c a=>
  unfold mG;split
  .exact absurd rfl (a)
  .rfl
def Rq(z:bH):cg (z.map cvE)=z.map mG:=by
 rw[dW,ayz];exact ayp λv _=>Yz v
def eO(ev:Nat->EV):If->EV
 |.tmp i=>ev i
 |.const v=>cvE v
 |.global _=>.un
 |.func f=>.v (.func (.func f) #[] #[])
def Sk(ev:Nat->EV)(a:St):Prop:=∀i,ev i=.un\/bM a.t i=enc (ev i)
def Sk.x{ev:Nat->EV}{a:St}(h:Sk ev a)(x:If):eO ev x=.un\/a.ev x=enc (eO ev x):=by
 cases x with
 |tmp i=>exact h i
 |const v=>exact .inr (Yz v).symm
 |global g=>exact .inl rfl
 |func f=>exact .inr rfl
def Sk.is{ev:Nat->EV}(h:Sk ev t){x:If}(a:eO ev x=y)(b:y≠.un):t.ev x=enc y:=by
 rcases h.x x with h|h
 .exact absurd (a.symm.trans h) b
 .rw[h,a]
def Hk(hg:Nat->At eh)(b:a_)(a:St):Prop:=∀k,b.contains k=true->bc a.h k=(hg k).map cx
def Hk.at{hg:Nat->At eh}(h:Hk hg B t)(a:B.contains d=true){o:eh}(b:hg d=some o):bc t.h d=some (cx o):=by rw[h d a,b];rfl
def Hk.hc{hg:Nat->At eh}(h:Hk hg B t):HC hg B t.h:=λk b a r d wr c=>⟨wr,h.at b c⟩
inductive Fr where
 |no
 |one (d:Nat)
 |bX (B:Nat)
def Fr.p:Fr->Nat->In
 |.no=>ffB
 |.one d=>λk=>k==d
 |.bX B=>ox B
structure vj(fr:Fr)(st:St):Prop where
 t:∀x,(bM st.t x).gC fr.p=true
 h:∀k ob,bc st.h k=some ob->ob.gC fr.p=true
 k:∀k,fr.p k=true->bc st.h k=none
def FS(P:Fd)(o:Oper)(n:Nat)(ev:Nat->EV)(hg:Nat->At eh)(c:EV)(b:eW)(d:a_)(a:Fr):Prop:=
 ∀st:St,st.n=n->Sk ev st->Hk hg d st->vj a st->SS P o st λs=>s=⟨st.n,kz o.dst (enc c) st.t,bE b++st.h⟩
def V4(P:Fd)(f:Op)(ev:Nat->EV)(hg:Nat->At eh)(c:EV)(i:a_):Prop:=
 ∀(a:St) (d:jl) (h:EQ) (g:String) (b:dM) (e:fJ),Sk ev a->Hk hg i a->RS P ⟨d,f,h,g,b,e⟩ a (enc c)
def FS.read{P:Fd}{a:Op}{n:Nat}{ev:Nat->EV}{hg:Nat->At eh}{c:EV}{b:a_}{d:Nat}{l:EQ}{j:String}{e:dM}{f:fJ}
 (h:V4 P a ev hg c b) (m:d<n):FS P ⟨some d,a,l,j,e,f⟩ n ev hg c [] b .no:=by
 intro k p i g o;exact SS.read (h k _ _ _ _ _ i g) bv rfl
def LS(a b:Int):sV:=if b=0 then none else some (a.tmod b)
def IX(a b:Int):sV:=if b=0 then none else some (a.tdiv b)
def an6:{f:BinOp->IntKind->Int->Int->Int//f=bits}:=Classical.choice ⟨⟨bits,rfl⟩⟩
def OB(c:BinOp)(k:IntKind)(a b:Int):Int:=an6.1 c k a b
def OC(c:BinOp)(k:IntKind)(a b:Int):OB c k a b=bits c k a b:=by rw[OB,an6.2]
def aZ(b:Do a)(i:Int):At a:=if 0<=i then b[i.toNat]? else none
def eM{b:Do a}{x:a}(h:aZ b A=some x):0<=A/\b[A.toNat]? =some x:=by
 unfold aZ at h;split at h
 .exact⟨by assumption,h⟩
 .cases h
def oC(e:BinOp)(k:IntKind)(c b:Int)(d:EV->At a):At a:=
 match e with
 |.add=>d (.sc (.i k) (k.wrap (c+b)))
 |.sub=>d (.sc (.i k) (k.wrap (c - b)))
 |.mul=>d (.sc (.i k) (k.wrap (c*b)))
 |.rem=>aW (LS c b) λz=>d (.sc (.i k) z)
 |.quo=>aW (IX c b) λz=>d (.sc (.i k) (k.wrap z))
 |.lss=>d (.sc .b (decide (c<b)))
 |.leq=>d (.sc .b (decide (c<=b)))
 |.gtr=>d (.sc .b (decide (b<c)))
 |.geq=>d (.sc .b (decide (b<=c)))
 |.eql=>d (.sc .b (decide (c=b)))
 |.neq=>d (.sc .b (!decide (c=b)))
 |.and=>d (.sc (.i k) (OB .and k c b))
 |.or=>d (.sc (.i k) (OB .or k c b))
 |.xor=>d (.sc (.i k) (OB .xor k c b))
 |.andNot=>d (.sc (.i k) (OB .andNot k c b))
 |_=>none
def Wm(k:IntKind)(a b:Int):sV:=if b<0 then none else some (k.wrap (a*2^(min b.toNat k.bits)))
def afN(k:IntKind)(a b:Int):sV:=if b<0 then none else some (a.fdiv (2^(min b.toNat k.bits)))
def Wn:(s:Sc)->Do EV->At (s.c9×Do EV)
 |.pr x y,c=>match Wn x c with
  |some (a,d)=>match Wn y d with
   |some (b,e)=>some ((a,b),e)
   |none=>none
  |none=>none
 |.u,c=>some ((),c)
 |.i k,.sc s x::c=>match eG s (.i k) x with
  |some a=>some (a,c)
  |none=>none
 |.b,.sc s x::c=>match eG s .b x with
  |some a=>some (a,c)
  |none=>none
 |_,_=>none
def afO(T:EQ->bz)(e:BinOp)(t:EQ)(c b:EV)(k:EV->At a):At a:=
 match c with
 |.sc (.i d) x=>match b with
  |.sc (.i h) y=>match e with
   |.shl=>aW (Wm d x y) λz=>k (.sc (.i d) z)
   |.shr=>aW (afN d x y) λz=>k (.sc (.i d) z)
   |_=>match eG (.i h) (.i d) y with
    |some z=>oC e d x z k
    |none=>none
  |_=>none
 |.ag f=>match b with
  |.ag g=>match(T t).eq with
   |some s=>match Wn s f with
    |some (x,[])=>match Wn s g with
     |some (y,[])=>match e with
      |.eql=>k (.sc .b (jc s x y))
      |.neq=>k (.sc .b (!(jc s x y)))
      |_=>none
     |_=>none
    |_=>none
   |none=>none
  |_=>none
 |.sc .b x=>match b with
  |.sc .b y=>match e with
   |.eql=>cond (T t).bo (k (.sc .b (@BEq.beq In _ x y))) none
   |.neq=>cond (T t).bo (k (.sc .b (!(@BEq.beq In _ x y)))) none
   |_=>none
  |_=>none
 |_=>none
def ao4(d:UnOp)(b:EV)(k:EV->At a):At a:=
 match d with
 |.not=>match b with
  |.sc .b x=>k (.sc .b (!x))
  |_=>none
 |.neg=>match b with
  |.sc (.i c) x=>k (.sc (.i c) (c.wrap (0 - x)))
  |_=>none
 |_=>none
def afP(hg:Nat->At eh)(b:EV)(k:EV->a_->At a):At a:=
 match b with
 |.sc (.sl r) c=>k (.sc (.i .i64) ((@List.length r.c9 c:Nat):Int)) []
 |.ts r c=>k (.sc (.i .i64) ((@List.length r.c9 c:Nat):Int)) []
 |.nil=>k (.sc (.i .i64) ((0:Nat):Int)) []
 |.ow j=>match hg j with
  |some (.arr _ r c _)=>k (.sc (.i .i64) ((@List.length r.c9 c:Nat):Int)) [j]
  |some (.qr _ _ _ c)=>k (.sc (.i .i64) ((@List.length Int c:Nat):Int)) [j]
  |_=>none
 |_=>none
def Wo(T:EQ->bz)(hg:Nat->At eh)(t:EQ)(b:EV)(k:EV->a_->At a):At a:=
 match b with
 |.mp j=>match hg j with
  |some (.mp d e f c)=>match(T t).mp with
   |some _=>k (.sc (.i .i64) ((@List.length (e.c9×f.c9) c:Nat):Int)) [j]
   |none=>none
  |_=>none
 |_=>none
def nH:Do a->In
 |[]=>true
 |_::_=>false
def Es(h:(!(beq b Iz))=true):b≠Iz:=λe=>by rw[e,axX]at h;cases h
def HB(hg:Nat->At eh)(p:EV)(m:Nat)(k:Do EV->a_->At a):At a:=
 match p with
 |.fp c=>cond (Nat.ble m c.length) (k (c.take m) []) none
 |.pt j o=>match hg j with
  |some (.box t c)=>cond (!(beq t Iz) && Nat.ble (o+m) c.length) (k ((c.drop o).take m) [j]) none
  |_=>none
 |.pe j i d o=>match hg j with
  |some (.arr _ r b _)=>cond (beq d r.w && Nat.ble (o+m) d) (aW (aZ b i) λx=>k (((vh r x).drop o).take m) [j]) none
  |some (.nr _ r b e)=>cond (beq d 1 && beq o 0 && beq m 1) (match e with
   |none=>aW (aZ b i) λx=>cond (nH x) (k [.nil] [j]) (k [.sc (.sl r) x] [j])
   |some (f,p)=>cond (decide (i.toNat=f.toNat)) (match p with
    |some q=>aW (aZ b i) λ_=>k [.ow q] [j]
    |none=>none) (aW (aZ b i) λx=>cond (nH x) (k [.nil] [j]) (k [.sc (.sl r) x] [j]))) none
  |some (.qr _ e s b)=>cond (beq d 1 && beq o 0 && beq m 1) (match e with
   |some q=>aW (aZ b i) λx=>k [.pe q x s 0] [j]
   |none=>none) none
  |_=>none
 |_=>none
def YA:In->Do EV->At EV
 |true,a=>some (.ag a)
 |false,[c]=>some c
 |false,_=>none
def Wp(T:EQ->bz)(hg:Nat->At eh)(t:EQ)(p:EV)(k:EV->a_->At a):At a:=
 match(T t).ty with
 |some (b,m)=>HB hg p m λd e=>match YA b d with
  |some c=>k c e
  |none=>none
 |none=>none
def OD:EV->Nat->At EV
 |.pt k o,f=>some (.pt k (o+f))
 |.pe k i b o,f=>some (.pe k i b (o+f))
 |.fp a,f=>some (.fp (a.drop f))
 |_,_=>none
def OE(T:EQ->bz)(hg:Nat->At eh)(t:EQ)(c b:EV)(k:EV->a_->At a):At a:=
 match b with
 |.sc (.i _) i=>match c with
  |.sc (.sl r) f=>match(T t).el with
   |some (_,d,_,_)=>cond (beq d r.w && Nat.blt 0 d) (aW (aZ (show Do r.c9 from f) i) λx=>k (.fp (vh r x)) []) none
   |none=>none
  |.ts r f=>match(T t).el with
   |some (_,d,_,_)=>cond (beq d r.w && Nat.blt 0 d) (aW (aZ f i) λx=>k (.fp (vh r x)) []) none
   |none=>none
  |.ow j=>match hg j with
   |some (.arr g r f _)=>match(T t).el with
    |some (e,d,_,_)=>cond (beq d r.w && beq e g) (aW (aZ f i) λ_=>k (.pe j i d 0) [j]) none
    |none=>none
   |some (.nr g r f _)=>match(T t).el with
    |some (e,d,_,_)=>cond (beq d 1 && beq e g) (aW (aZ f i) λ_=>k (.pe j i 1 0) [j]) none
    |none=>none
   |some (.qr g _ _ f)=>match(T t).el with
    |some (e,d,_,_)=>cond (beq d 1 && beq e g) (aW (aZ f i) λ_=>k (.pe j i 1 0) [j]) none
    |none=>none
   |_=>none
  |.pt j o=>match(T t).ar with
   |some (n,_,d)=>match hg j with
    |some (.arr _ r f _)=>cond (beq o 0 && beq d r.w) (aW (aZ (List.range n) i) λ_=>aW (aZ f i) λ_=>k (.pe j i d 0) [j]) none
    |_=>aW (aZ (List.range n) i) λm=>k (.pt j (o+m*d)) []
   |none=>none
  |.fp h=>match(T t).ar with
   |some (n,_,d)=>aW (aZ (List.range n) i) λm=>k (.fp (h.drop (m*d))) []
   |none=>none
  |_=>none
 |_=>none
def afQ(T:EQ->bz)(t:EQ)(g:Nat)(b:EV)(k:EV->a_->At a):At a:=
 match b with
 |.sc (.i _) i=>match ac1 afx g with
  |some (c,l)=>match(T t).ar with
   |some (n,_,d)=>cond (beq d 1) (aW (aZ (List.range n) i) λ_=>aW (aZ l i) λx=>k (.fp [.sc (.i c) x]) []) none
   |none=>none
  |none=>none
 |_=>none
def OF(T:EQ->bz)(t:EQ)(f:Nat)(b:EV)(k:EV->At a):At a:=
 match b with
 |.ag e=>match(T t).fd[f]? with
  |some (d,true,m)=>cond (Nat.ble (d+m) e.length) (k (.ag ((e.drop d).take m))) none
  |some (d,false,m)=>cond (Nat.ble (d+m) e.length) (match e[d]? with
   |some c=>k c
   |none=>none) none
  |none=>none
 |_=>none
def pQ:EV->At (Do EV)
 |.ag a=>some a
 |c=>cond (AV.one (enc c)) (some [c]) none
def Et{d:Do EV}(h:pQ y=some d):cellsOf (enc y)=some (cg d):=by
 have f:∀a:AV,a.one=true->(∀l,a≠.ag l)->cellsOf a=some [a]:=by
  intro a b c;cases a<;>first|(simp[AV.one]at b;done)|(simp only[cellsOf,b,ax0])
 cases y with
 |ag l=>simp only[pQ,axq]at h;subst h;rfl
 |_=>
  simp only[pQ]at h;obtain⟨b,c⟩:=aY h;simp only[axq]at c;subst c;refine f _ b λl e=>?_;rw[e]at b;simp[AV.one]at b
def owE(hg:Nat->At eh):EV->In
 |.ow k=>match hg k with
  |some (.arr ..)=>true
  |some (.nr ..)=>true
  |some (.qr ..)=>true
  |_=>false
 |_=>true
def owU:EV->a_
 |.ow k=>[k]
 |_=>[]
def OG{hg:Nat->At eh}(h:owE hg y=true)(c:Hk hg B t)(d:∀k,(owU y).contains k=true->B.contains k=true):qq t.h (enc y)=true:=by
 cases y with
 |ow k=>
  simp only[owE]at h;split at h
  next a r e wr b=>have:=c.at (d k (by simp[owU])) b;simp only[enc,qq,this,cx]
  next a r e f b=>have:=c.at (d k (by simp[owU])) b;simp only[enc,qq,this,cx]
  next a f g e b=>have:=c.at (d k (by simp[owU])) b;simp only[enc,qq,this,cx]
  .cases h
 |sc s x=>cases s<;>rfl
 |_=>rfl
def IY(ev:Nat->EV)(hg:Nat->At eh):AM->At (Do (Nat×Do EV)×a_)
 |[]=>some ([],[])
 |(i,x)::b=>match pQ (eO ev x)with
  |some a=>cond (owE hg (eO ev x)) (match IY ev hg b with
   |some (r,us)=>some ((i,a)::r,owU (eO ev x)++us)
   |none=>none) none
  |none=>none
def qI(a:Do EV)(o:Nat):Do EV->Do EV
 |[]=>a
 |x::b=>qI (a.set o x) (o+1) b
def qJ(a:Do EV)(o:Nat)(x:EV):cg (a.set o x)=(cg a).set o (enc x):=by
 rw[dW,dW,azk]
def rL:∀(b a:Do EV) (o:Nat),cg (qI a o b)=setCells (cg a) o (cg b)
 |[],a,o=>rfl
 |x::b,a,o=>by rw[qI,rL b,qJ];rfl
def Rr(c:bw)(a:Do EV):Do (Nat×Do EV)->At (Do EV)
 |[]=>some a
 |(i,d)::e=>match c[i]? with
  |some (b,size)=>cond (beq d.length size && Nat.ble (b+size) a.length) (Rr c (qI a b d) e) none
  |none=>none
def Ad{f g:Nat->FL}(h:∀i p,f i=some p->g i=some p):∀{α:Type} {c:Do (Nat×Do α)} {b r:Do α},gI f b c=some r->gI g b c=some r
 |_,[],b,r,a=>a
 |_,(i,l)::c,b,r,a=>by
  simp only[gI]at a⊢;split at a
  .cases a
  next j k e=>
   rw[h _ _ e];simp only;split at a
   next d=>rw[axn d];exact Ad h a
   .cases a
def alH:Do (Nat×Do EV)->Do (Nat×Do AV)
 |[]=>[]
 |(i,x)::r=>(i,cg x)::alH r
def Rs{e:bw}:∀{f:Do (Nat×Do EV)} {a b:Do EV},Rr e a f=some b->gI (λi=>e[i]?) (cg a) (alH f)=some (cg b)
 |[],a,b,h=>by simp only[Rr,axq]at h;subst h;rfl
 |(i,p)::n,a,b,h=>by
  simp only[Rr]at h;split at h
  next m o l=>obtain⟨c,k⟩:=aY h;simp only[axo]at c;have g:=axu c.1;have j:=axv c.2;have d:=Rs k;rw[rL]at d;simp only[alH,gI,l,fK];rw[axn ⟨g,j⟩];exact d
  .cases h
def Mz{ev:Nat->EV}{hg:Nat->At eh}{b:St}{p:a_}(o:Sk ev b)(m:Hk hg p b):∀{d:AM} {r:Do (Nat×Do EV)} {f:a_},IY ev hg d=some (r,f)->(∀k,f.contains k=true->p.contains k=true)->
 va b d=some (alH r)/\xB b d=true
 |[],r,f,h,j=>by simp only[IY,axq,axI]at h;obtain⟨rfl,rfl⟩:=h;exact⟨rfl,rfl⟩
 |(i,x)::d,r,f,h,j=>by
  simp only[IY]at h;split at h
  next w g=>
   obtain⟨q,c⟩:=aY h;split at c
   next y z s=>
    simp only[axq,axI]at c;obtain⟨rfl,rfl⟩:=c;obtain⟨u,v⟩:=Mz o m s (λk a=>j k (by simp at a⊢;exact .inr a));have t:b.ev x=enc (eO ev x):=o.is rfl (λe=>by rw[e]at g;simp[pQ,enc,AV.one]at g);have l:=Et g;have n:=OG q m (λk a=>j k (by simp at a⊢;exact .inl a));rw[<-t]at l n;refine⟨?_,?_⟩
    .simp only[va,l,u];rfl
    .simp only[xB,n,v];rfl
   .cases c
  .cases h
def OH(T:EQ->bz)(ev:Nat->EV)(hg:Nat->At eh)(t:EQ)(c:AM)(k:EV->a_->At a):At a:=
 match(T t).pl with
 |some (z,l)=>match IY ev hg c with
  |some (d,e)=>match Rr l (z.map cvE) d with
   |some b=>k (.ag b) e
   |none=>none
  |none=>none
 |none=>none
section
variable{P:Fd}{T:EQ->bz}{ev:Nat->EV}{hg:Nat->At eh}
def RS.avi{a d:In}(f:P.underlying k=some .bool)(g:t.ev c=.v (.bool a))(h:t.ev e=.v (.bool d)):
 RS P ⟨K,.binOp .neq k c e G,b,H,J,N⟩ t (.v (.bool (!(a==d)))):=
 RS.bin g h (λw=>by simp[eqGuard]) λw=>run_neq_bool w k a d f
def RS.YB{a:BinOp}(g:a=.and\/a=.or\/a=.xor\/a=.andNot)(d:t.ev c=.v (.int C A))(f:t.ev e=.v (.int C S)):
 RS P ⟨K,.binOp a k c e G,b,H,J,N⟩ t (.v (.int C (OB a C A S))):=by
 rw[OC];rcases g with rfl|rfl|rfl|rfl
 .exact RS.bin d f (λw=>by simp[eqGuard]) λw=>by simp[binOp_and,intBits_and]
 .exact RS.bin d f (λw=>by simp[eqGuard]) λw=>by simp[binOp_or,intBits_or]
 .exact RS.bin d f (λw=>by simp[eqGuard]) λw=>by simp[binOp_xor,intBits_xor]
 .exact RS.bin d f (λw=>by simp[eqGuard]) λw=>by simp[binOp_andNot,intBits_andNot]
def RS.shl{d l:IntKind}{a f z:Int}(g:Wm d a f=some z)(i:t.ev c=.v (.int d a))(j:t.ev e=.v (.int l f)):
 RS P ⟨K,.binOp .shl k c e G,b,H,J,N⟩ t (.v (.int d z)):=by
 unfold Wm at g;split at g
 .cases g
 next h=>cases g;exact RS.bin i j (λw=>by simp[eqGuard]) λw=>by simp[binOp_shl,Op.shift,h]
def RS.shr{d l:IntKind}{a f z:Int}(g:afN d a f=some z)(i:t.ev c=.v (.int d a))(j:t.ev e=.v (.int l f)):
 RS P ⟨K,.binOp .shr k c e G,b,H,J,N⟩ t (.v (.int d z)):=by
 unfold afN at g;split at g
 .cases g
 next h=>cases g;exact RS.bin i j (λw=>by simp[eqGuard]) λw=>by simp[binOp_shr,Op.shift,h]
def RS.Eh{o:Oper}(h:RS P o t s)(f:Wk s R):RS P o t R:=λg b e a w hg=>by
 obtain⟨v,c,d⟩:=h g b e a w hg;exact⟨v,f _ _ _ c,d⟩
def Wk.un{c:AV}:Wk c .un:=λ_ _ _ _=>.un
def RS.conv{a d n:IntKind}(l:P.underlying k=some (.int n))(g:P.underlying G=some (.int d))(m:t.ev c=.v (.int a A)):
 RS P ⟨K,.convert k G c,b,H,J,N⟩ t (.v (.int d (d.wrap A))):=λr p e q w h=>by
 have f:=h.ev c;rw[m]at f;refine⟨_,.v,λo _=>?_⟩;have j:=f.bR;have i:P.intKind G=d:=by simp[Program.intKind,g]
 have:=run_convert_int o k G a A (by rw[l];rfl) (by rw[i];exact g);rw[i]at this;simp only[execOp,j,axE,this,axF,axH]
def RS.neg(f:t.ev c=.v (.int C A)):
 RS P ⟨K,.unOp .neg k c,b,H,J,N⟩ t (.v (.int C (C.wrap (0 - A)))):=λl g e i w h=>by
 have a:=h.ev c;rw[f]at a;refine⟨_,.v,λj _=>?_⟩;have d:=a.bR;simp only[execOp,d,unary_neg,Op.intArith,axE,axH,axF]
def alI{w:BinOp}{x:EV->At a}{r:a}(h:oC w C A S x=some r)(y:eO ev c=.sc (.i C) A)(B:eO ev e=.sc (.i C) S):
 ∃g,V4 P (.binOp w b c e k) ev hg g []/\x g=some r:=by
 have m:∀i,Sk ev i->i.ev c=.v (.int C A):=λi j=>j.is y d9;have n:∀i,Sk ev i->i.ev e=.v (.int C S):=λi j=>j.is B d9;cases w with
 |add=>exact⟨_,λi d q p l o j s=>RS.add (m i j) (n i j),h⟩
 |sub=>exact⟨_,λi d q p l o j s=>RS.sub (m i j) (n i j),h⟩
 |mul=>exact⟨_,λi d q p l o j s=>RS.mul (m i j) (n i j),h⟩
 |lss=>exact⟨_,λi d q p l o j s=>RS.lss (m i j) (n i j),h⟩
 |leq=>exact⟨_,λi d q p l o j s=>RS.leq (m i j) (n i j),h⟩
 |gtr=>exact⟨_,λi d q p l o j s=>RS.gtr (m i j) (n i j),h⟩
 |geq=>exact⟨_,λi d q p l o j s=>RS.geq (m i j) (n i j),h⟩
 |eql=>exact⟨_,λi d q p l o j s=>RS.eql (m i j) (n i j),h⟩
 |and=>exact⟨_,λi d q p l o j s=>RS.YB (.inl rfl) (m i j) (n i j),h⟩
 |or=>exact⟨_,λi d q p l o j s=>RS.YB (.inr (.inl rfl)) (m i j) (n i j),h⟩
 |xor=>exact⟨_,λi d q p l o j s=>RS.YB (.inr (.inr (.inl rfl))) (m i j) (n i j),h⟩
 |andNot=>exact⟨_,λi d q p l o j s=>RS.YB (.inr (.inr (.inr rfl))) (m i j) (n i j),h⟩
 |neq=>
  refine⟨_,λi d q p l o j s=>?_,h⟩;have:=RS.neq (P:=P) (d:=d) (ty:=q) (pos:=p) (af:=l) (gd:=o) (t:=b) (t2:=k) (m i j) (n i j);rw[decide_not]at this;exact this
 |rem=>
  simp only[oC]at h;obtain⟨z,t,v⟩:=br h;unfold LS at t;split at t
  .cases t
  next u=>cases t;exact⟨_,λi d q p l o j s=>RS.rem (m i j) (n i j) u,v⟩
 |quo=>
  simp only[oC]at h;obtain⟨z,t,v⟩:=br h;unfold IX at t;split at t
  .cases t
  next u=>cases t;exact⟨_,λi d q p l o j s=>RS.quo (m i j) (n i j) u,v⟩
 |_=>cases h
def Eu:∀(s:Sc) {b rest:Do EV} {x:s.c9},Wn s b=some (x,rest)->s.key=true->∃f,b=f++rest/\cg f=bJ s x
 |.pr a c,b,rest,x,h,d=>by
  simp only[Sc.key,axo]at d;simp only[Wn]at h;split at h
  next o m g=>
   split at h
   next vb n i=>simp only[axq,axI]at h;obtain⟨rfl,rfl⟩:=h;obtain⟨p,rfl,j⟩:=Eu a g d.1;obtain⟨q,rfl,l⟩:=Eu c i d.2;exact⟨p++q,d5,by rw[lU,j,l];rfl⟩
   .cases h
  .cases h
 |.u,b,rest,x,h,d=>by
  simp only[Wn,axq,axI]at h;obtain⟨-,rfl⟩:=h;exact⟨[],rfl,rfl⟩
 |.i k,b,rest,x,h,d=>by
  cases b with
  |nil=>simp[Wn]at h
  |cons c b=>
   cases c with
   |sc s y=>
    simp only[Wn]at h;split at h
    next z e=>simp only[axq,axI]at h;obtain⟨rfl,rfl⟩:=h;obtain⟨rfl,rfl⟩:=dm e;exact⟨[_],rfl,rfl⟩
    .cases h
   |_=>simp[Wn]at h
 |.b,b,rest,x,h,d=>by
  cases b with
  |nil=>simp[Wn]at h
  |cons c b=>
   cases c with
   |sc s y=>
    simp only[Wn]at h;split at h
    next z e=>simp only[axq,axI]at h;obtain⟨rfl,rfl⟩:=h;obtain⟨rfl,rfl⟩:=dm e;exact⟨[_],rfl,rfl⟩
    .cases h
   |_=>simp[Wn]at h
 |.sl r,b,rest,x,h,d=>by simp[Sc.key]at d
def LR.db{Rd:bI}{E:At Env}:∀(s:Sc) (x:s.c9) {b:bH},s.key=true->LR (VR Rd E) (bJ s x) b->b=db s x
 |.i k,x,b,_,h=>by
  obtain⟨d,e⟩:=h
  match b,d with
  |[u],_=>exact axD (λz=>[z]) (e 0 _ _ rfl rfl).bR
 |.b,x,b,_,h=>by
  obtain⟨d,e⟩:=h
  match b,d with
  |[u],_=>exact axD (λz=>[z]) (e 0 _ _ rfl rfl).bR
 |.u,x,b,_,h=>ayn h.1
 |.sl r,x,b,f,_=>by simp[Sc.key]at f
 |.pr a c,x,b,f,h=>by
  simp only[Sc.key,axo]at f;have j:b.length=(bJ a x.1).length+(bJ c x.2).length:=by rw[h.1];simp[bJ]
  have d:=h.take (bJ a x.1).length;have e:=h.drop (bJ a x.1).length;simp only[bJ,aAb,List.drop_left]at d e;have g:=LR.db a x.1 f.1 d;have i:=LR.db c x.2 f.2 e;rw[<-ayP (bJ a x.1).length b,g,i];rfl
def RS.an7{x y:I.c9}(d:afM P k I)(o:t.ev c=.ag (bJ I x))(p:t.ev e=.ag (bJ I y)):
 RS P ⟨K,.binOp .eql k c e G,b,H,J,N⟩ t (.v (.bool (jc I x y)))/\RS P ⟨K,.binOp .neq k c e G,b,H,J,N⟩ t (.v (.bool (!(jc I x y)))):=by
 refine⟨λv m a n w h=>?_,λv m a n w h=>?_⟩
 all_goals
  have i:=h.ev c;have j:=h.ev e;rw[o]at i;rw[p]at j;obtain⟨z,f,q⟩:=VR.ff i;obtain⟨A,g,r⟩:=VR.ff j;rw[LR.db I x d.1 q]at f;rw[LR.db I y d.1 r]at g;refine⟨_,.v,λl _=>?_⟩;have s:=(d.2 x y l).1;have u:=(d.2 x y l).2;simp only[execOp,f,g,axE,u,axF,binOp,s,axH]
def afR(C:gJ P T){E:BinOp}{i:EV->At a}{r:a}(h:afO T E b (eO ev c) (eO ev e) i=some r):
 ∃g,V4 P (.binOp E b c e k) ev hg g []/\i g=some r:=by
 unfold afO at h;split at h
 next Q j n=>
  split at h
  next R l o=>
   split at h
   .obtain⟨z,u,D⟩:=br h
    exact⟨_,λw d x v p q m t=>RS.shl u (m.is n d9) (m.is o d9),D⟩
   .obtain⟨z,u,D⟩:=br h
    exact⟨_,λw d x v p q m t=>RS.shr u (m.is n d9) (m.is o d9),D⟩
   .split at h
    next z u=>obtain⟨f,rfl⟩:=dm u;cases f;exact alI h n o
    .cases h
  .cases h
 next N n=>
  split at h
  next O o=>
   split at h
   next s m=>
    split at h
    next S J=>
     split at h
     next U K=>
      have y:=C.eq _ _ m;obtain⟨L,F,H⟩:=Eu s J y.1;obtain⟨M,G,I⟩:=Eu s K y.1;simp only[ax6]at F G;subst F G;split at h
      .refine⟨_,λw d x v p q m t=>(RS.an7 y ?_ ?_).1,h⟩
       .rw[m.is n d9,enc,H]
       .rw[m.is o d9,enc,I]
      .refine⟨_,λw d x v p q m t=>(RS.an7 y ?_ ?_).2,h⟩
       .rw[m.is n d9,enc,H]
       .rw[m.is o d9,enc,I]
      .cases h
     .cases h
    .cases h
   .cases h
  .cases h
 next j n=>
  split at h
  next l o=>
   split at h
   .obtain⟨A,B⟩:=aY h
    exact⟨_,λw d x v p q m t=>RS.avc (C.bo _ A) (m.is n d9) (m.is o d9),B⟩
   .obtain⟨A,B⟩:=aY h
    exact⟨_,λw d x v p q m t=>RS.avi (C.bo _ A) (m.is n d9) (m.is o d9),B⟩
   .cases h
  .cases h
 .cases h
def alJ{l:UnOp}{k:EV->At a}{r:a}(h:ao4 l (eO ev c) k=some r):∃f,V4 P (.unOp l b c) ev hg f []/\k f=some r:=by
 unfold ao4 at h;split at h
 .split at h
  next g i=>exact⟨_,λq d s p m n j o=>RS.not (j.is i d8),h⟩
  .cases h
 .split at h
  next t g i=>exact⟨_,λq d s p m n j o=>RS.neg (j.is i d8),h⟩
  .cases h
 .cases h
def afS(m:gJ P T){k:EV->a_->At a}{r:a}(o:W[0]? =some b)(n:(T b).k7=true)(h:afP hg (eO ev c) k=some r):
 ∃f y,V4 P (.call ⟨.builtin .len, #[c],W⟩) ev hg f y/\k f y=some r:=by
 unfold afP at h;split at h
 next x w i=>refine⟨_,_,λt d u s p q g l=>RS.len (m.k7 _ n) o ?_,h⟩;rw[g.is i d8];simp only[enc,encS,uY,axx]
 next x w i=>refine⟨_,_,λt d u s p q g l=>RS.len (m.k7 _ n) o ?_,h⟩;rw[g.is i d8];simp only[enc,encS,uY,axx]
 next i=>refine⟨_,_,λt d u s p q g l=>RS.len (m.k7 _ n) o ?_,h⟩;rw[g.is i d8];rfl
 next j i=>
  split at h
  next z x w wr v=>refine⟨_,_,λt d u s p q g l=>RS.len (m.k7 _ n) o ?_,h⟩;rw[g.is i d8];simp only[enc,uY,l.at d5 v,cx,axx]
  next z A B w v=>refine⟨_,_,λt d u s p q g l=>RS.len (m.k7 _ n) o ?_,h⟩;rw[g.is i d8];simp only[enc,uY,l.at d5 v,cx,axx]
  .cases h
 .cases h
def adb(q:gJ P T){k:EV->a_->At a}{r:a}(w:W[0]? =some b)(h:Wo T hg b (eO ev c) k=some r):
 ∃f l,V4 P (.call ⟨.builtin .len, #[c],W⟩) ev hg f l/\k f l=some r:=by
 unfold Wo at h;split at h
 next j x=>
  split at h
  next d i m g t=>
   split at h
   next tz u=>obtain⟨C,z⟩:=tz;refine⟨_,_,λA o B y n p v s=>?_,h⟩;have:=RS.avf (P:=P) (st:=A) (dd:=o) (ty:=B) (pos:=y) (af:=n) (gd:=p) (k:=j) (es:=oA i m g) w (q.mp _ _ u) (v.is x d8) (s.at d5 t);rw[show(oA i m g).length=g.length by simp[oA]]at this;exact this
   .cases h
  .cases h
 .cases h
def qK(a:Do EV)(m:Nat):cg (a.take m)=(cg a).take m:=by rw[dW,dW,azN]
def ni(a:Do EV)(m:Nat):cg (a.drop m)=(cg a).drop m:=by rw[dW,dW,az1]
def Wq{k:Do EV->a_->At a}{r:a}(h:HB hg y m k=some r):
 ∃w v,(∀g l,(∀x,v.contains x=true->l.contains x=true)->Hk hg l g->mq g (enc y) m=some (cg w))/\k w v=some r:=by
 unfold HB at h;split at h
 next w=>obtain⟨d,f⟩:=aY h;refine⟨_,_,λg l u n=>?_,f⟩;simp only[enc,mq,fK];rw[axn (axv d),qK]
 next j o=>
  split at h
  next t w z=>obtain⟨d,f⟩:=aY h;refine⟨_,_,λg l u n=>?_,f⟩;simp only[enc,mq,n.at (u j d5) z,cx,fK];simp only[axo]at d;rw[axn ⟨Es d.1,axv d.2⟩,qK,ni]
  .cases h
 next j i K o=>
  split at h
  next t C A wr z=>obtain⟨d,f⟩:=aY h;obtain⟨x,e,p⟩:=br f;simp only[axo]at d;have D:=axu d.1;have E:=axv d.2;obtain⟨H,e⟩:=eM e;refine⟨_,_,λg l u n=>?_,p⟩;simp only[enc,mq,n.at (u j d5) z,cx,axM,e,ayt,e6];rw[axn ⟨bv,D.symm⟩,qK,ni,gO]
  next t C A I z=>
   obtain⟨d,f⟩:=aY h;simp only[axo]at d;have D:=axu d.1.1;have E:=axu d.1.2;have G:=axu d.2;have look:∀{v:a_} {c:EV},(Aa C A I)[i.toNat]? =some (enc c)->v.contains j=true->∀g l,(∀x,v.contains x=true->l.contains x=true)->Hk hg l g->mq g (enc (.pe j i K o)) m=some (cg [c]):=λF N g l u n=>by
    simp only[enc,mq,n.at (u j N) z,cx,F];rw[axn ⟨D,E,G⟩];rfl
   have plain:∀{k:Do EV->a_->At a},(∀x,A[i.toNat]? =some x->(Aa C A I)[i.toNat]? =some (nrA C x))->(aW (aZ A i) λx=>cond (nH x) (k [.nil] [j]) (k [.sc (.sl C) x] [j]))=some r->
    ∃w v,(∀g l,(∀x,v.contains x=true->l.contains x=true)->Hk hg l g->mq g (enc (.pe j i K o)) m=some (cg w))/\k w v=some r:=λ{k} M h=>by
    obtain⟨x,e,p⟩:=br h;obtain⟨H,e⟩:=eM e;have F:=M x e;cases x with
    |nil=>exact⟨_,_,look (c:=.nil) F d5,p⟩
    |cons b O=>exact⟨_,_,look (c:=.sc (.sl C) (b::O)) F d5,p⟩
   split at f
   .refine plain (λx e=>?_) f
    simp only[Aa,axM,e,ayt]
   next J y=>
    rcases bQ f with⟨B,f⟩|⟨B,f⟩
    .cases y with
     |some q=>
      obtain⟨x,e,p⟩:=br f;obtain⟨H,e⟩:=eM e;have B:i.toNat=J.toNat:=ayh B;refine⟨_,_,look (c:=.ow q) ?_ d5,p⟩;have L:i.toNat<A.length:=(axs.1 e).1;simp only[Aa,<-B,enc,nrH];rw[aCa (by simpa using L)]
     |none=>cases f
    .refine plain (λx e=>?_) f
     have B:¬i.toNat=J.toNat:=ay_ B;simp only[Aa];rw[aAM bv,axM,e];rfl
  next t I s A z=>
   obtain⟨d,f⟩:=aY h;simp only[axo]at d;have D:=axu d.1.1;have E:=axu d.1.2;have G:=axu d.2;split at f
   next q=>obtain⟨x,e,p⟩:=br f;obtain⟨H,e⟩:=eM e;refine⟨_,_,λg l u n=>?_,p⟩;simp only[enc,mq,n.at (u j d5) z,cx,axM,e,ayt];rw[axn ⟨D,E,G⟩];rfl
   .cases f
  .cases h
 .cases h
def Rt{a:Do EV}(h:YA D a=some y):afA D (cg a)=some (enc y):=by
 unfold YA at h;split at h
 .cases h;rfl
 .cases h;rfl
 .cases h
def ade(n:gJ P T){k:EV->a_->At a}{r:a}(h:Wp T hg b (eO ev c) k=some r):∃f g,V4 P (.load b c) ev hg f g/\k f g=some r:=by
 unfold Wp at h;split at h
 next v m s=>
  obtain⟨w,g,l,i⟩:=Wq h;split at i
  next f o=>refine⟨f,g,λj d z y u x q p=>RS.AW ?_,i⟩;have t:j.ev c=enc (eO ev c):=q.is rfl (λe=>by rw[e]at h;simp[HB]at h);simp only[AW,n.ty _ _ s,t,l j g (λ_ h=>h) p];exact Rt o
  .cases i
 .cases h
def adf{p q:EV}(h:OD p d=some q):gM (enc p) d=some (enc q):=by
 unfold OD at h;split at h
 .cases h;rfl
 .cases h;rfl
 .cases h;simp only[enc,gM,ni]
 .cases h
def rM(h:aZ (List.range d) A=some m):0<=A/\A<d/\m=A.toNat:=by
 obtain⟨e,a⟩:=eM h;obtain⟨b,c⟩:=axs.1 a;simp at b c;omega
def Wr(H:gJ P T){k:EV->a_->At a}{r:a}(h:OE T hg b (eO ev c) (eO ev e) k=some r):∃l U,V4 P (.indexAddr b c e) ev hg l U/\k l U=some r:=by
 unfold OE at h;split at h
 next Y i I=>
  split at h
  next M G w=>
   split at h
   next f J O z v=>obtain⟨p,D⟩:=aY h;obtain⟨g,q,u⟩:=br D;obtain⟨t,q⟩:=eM q;simp only[axo]at p;have y:=axu p.1;have A:0<J:=axv p.2;refine⟨_,_,λK d F E B C s x=>?_,u⟩;have:=RS.Ym (P:=P) (d:=d) (ty:=F) (pos:=E) (af:=B) (gd:=C) (H.el _ _ v) (by rw[y];exact s.is w d9) (s.is I d9) t (by rw[axM,q];rfl) A;rw[enc,gO];exact this
   .cases h
  next M G w=>
   split at h
   next f J O z v=>obtain⟨p,D⟩:=aY h;obtain⟨g,q,u⟩:=br D;obtain⟨t,q⟩:=eM q;simp only[axo]at p;have y:=axu p.1;have A:0<J:=axv p.2;refine⟨_,_,λK d F E B C s x=>?_,u⟩;have:=RS.Ym (P:=P) (d:=d) (ty:=F) (pos:=E) (af:=B) (gd:=C) (H.el _ _ v) (by rw[y];exact s.is w d9) (s.is I d9) t (by rw[axM,q];rfl) A;rw[enc,gO];exact this
   .cases h
  next j w=>
   split at h
   next S M G wr N=>
    split at h
    next f J O z v=>obtain⟨p,D⟩:=aY h;obtain⟨g,q,u⟩:=br D;obtain⟨t,q⟩:=eM q;simp only[axo]at p;have y:=axu p.1;have A:=axu p.2;have R:=(axs.1 q).1;refine⟨_,_,λK d F E B C s x=>?_,u⟩;refine RS.alx (rows:=List.map (bJ M) G) (wr:=wr) (H.el _ _ v) (s.is w d9) ?_ (s.is I d9) t (by rw[axx];omega);rw[x.at d5 N,y,A];rfl
    .cases h
   next S M G L N=>
    split at h
    next f J O z v=>
     obtain⟨p,D⟩:=aY h;obtain⟨g,q,u⟩:=br D;obtain⟨t,q⟩:=eM q;simp only[axo]at p;have y:=axu p.1;have A:=axu p.2;subst y;subst A;have R:=(axs.1 q).1;refine⟨_,_,λK d F E B C s x=>?_,u⟩;refine RS.Yy (cs:=Aa M G L) (H.el _ _ v) (s.is w d9) ?_ (s.is I d9) t ?_
     .rw[x.at d5 N];rfl
     .have:(Aa M G L).length=G.length:=by
       unfold Aa;split<;>simp
      rw[this];omega
    .cases h
   next S L V G N=>
    split at h
    next f J O z v=>
     obtain⟨p,D⟩:=aY h;obtain⟨g,q,u⟩:=br D;obtain⟨t,q⟩:=eM q;simp only[axo]at p;have y:=axu p.1;have A:=axu p.2;subst y;subst A;have R:=(axs.1 q).1;refine⟨_,_,λK d F E B C s x=>?_,u⟩;refine RS.Yy (cs:=G.map (qrA V L)) (H.el _ _ v) (s.is w d9) ?_ (s.is I d9) t ?_
     .rw[x.at d5 N];rfl
     .rw[axx];omega
    .cases h
   .cases h
  next j o w=>
   split at h
   next n f J v=>
    split at h
    .obtain⟨Q,h⟩:=aY h
     obtain⟨g,q,h⟩:=br h;obtain⟨m,X,u⟩:=br h;obtain⟨t,p,rfl⟩:=rM q;simp only[axo]at Q;have L:=axu Q.1;subst L;exact⟨_,_,λK d F E B C s x=>RS.Wh (H.ar _ _ v) (s.is I d9) t p (s.is w d9),u⟩
    .obtain⟨g,q,u⟩:=br h
     obtain⟨t,p,rfl⟩:=rM q;exact⟨_,_,λK d F E B C s x=>RS.AQ (H.ar _ _ v) (s.is I d9) t p (by rw[s.is w d9];rfl),u⟩
   .cases h
  next W w=>
   split at h
   next n f J v=>obtain⟨g,q,u⟩:=br h;obtain⟨t,p,rfl⟩:=rM q;refine⟨_,_,λK d F E B C s x=>RS.AQ (H.ar _ _ v) (s.is I d9) t p ?_,u⟩;rw[s.is w d9];simp only[enc,gM,ni]
   .cases h
  .cases h
 .cases h
def VR.ao6{Rd:bI}(h:VR Rd X (.fp i) v)(d:i[0]? =some s):VR Rd X (.fp [s]) v:=by
 cases h with
 |fp e k g f=>
  cases e with
  |nil=>
   have:=(axs.1 d).1;simp at k;omega
  |cons a e=>
   refine VR.fp [a] rfl (λj m l b c=>?_) (λj l b=>?_)
   .cases j with
    |zero=>simp at b c;subst b;subst c;exact g 0 _ _ d rfl
    |succ j=>simp at b
   .cases j with
    |zero=>simp at b;subst b;exact f 0 _ rfl
    |succ j=>simp at b
def RS.imp'{P:Fd}{o:Oper}(h:RS P o t s)(c:∀Rd E u,VR Rd E s u->VR Rd E R u):RS P o t R:=λg b e a w hg=>by
 obtain⟨v,f,d⟩:=h g b e a w hg;exact⟨v,c _ _ _ f,d⟩
def afT(v:gJ P T){k:EV->a_->At a}{r:a}(h:afQ T b d (eO ev c) k=some r):∃f s,V4 P (.indexAddr b (.global d) c) ev hg f s/\k f s=some r:=by
 unfold afQ at h;split at h
 next K i F=>
  split at h
  next G l z=>
   split at h
   next n e N y=>
    obtain⟨m,o⟩:=aY h;have m:=axu m;subst m;obtain⟨g,w,o⟩:=br o;obtain⟨t,B,rfl⟩:=rM w;obtain⟨x,p,A⟩:=br o;obtain⟨_,p⟩:=eM p;refine⟨_,_,λM j O L H I C J=>?_,A⟩;refine RS.imp' (RS.AQ (q:=.fp ((l.map λx=>AV.v (.int G x)).drop (i.toNat*1))) (v.ar _ _ y) (C.is F d8) t B ?_) λRd E u D=>?_
    .simp only[St.ev,gA,z,gM]
    .exact D.ao6 (by rw[ayM,ayO,ayQ,axM,p];rfl)
   .cases h
  .cases h
 .cases h
def Ws(o:gJ P T){k:EV->At a}{r:a}(h:OF T b d (eO ev c) k=some r):∃f,V4 P (.field b c d) ev hg f []/\k f=some r:=by
 unfold OF at h;split at h
 next z p=>
  split at h
  next v m l=>obtain⟨j,i⟩:=aY h;refine⟨_,λx g y w q s n u=>RS.field (o.fd _ _ _ l) (n.is p d8) (by rw[fK];exact axv j) (.inl ⟨rfl,?_⟩),i⟩;simp only[enc,qK,ni]
  next v m l=>
   obtain⟨j,i⟩:=aY h;split at i
   next f t=>refine⟨_,λx g y w q s n u=>RS.field (o.fd _ _ _ l) (n.is p d8) (by rw[fK];exact axv j) (.inr ⟨rfl,?_⟩),i⟩;rw[dW,axM,t];rfl
   .cases i
  .cases h
 .cases h
def Wt(n:gJ P T){k:EV->a_->At a}{r:a}{i:Ix}(h:OH T ev hg b i.toList k=some r):∃c e,V4 P (.build b i) ev hg c e/\k c e=some r:=by
 unfold OH at h;split at h
 next z l q=>
  split at h
  next B e u=>
   split at h
   next x o=>refine⟨_,_,λC d D A w y v p=>?_,h⟩;obtain⟨j,m⟩:=Mz v p u λ_ h=>h;have g:=Rs o;rw[Rq]at g;obtain⟨f,s,t⟩:=n.pl _ _ _ q;exact RS.build s j m (Ad t g)
   .cases h
  .cases h
 .cases h
def zeroV:(s:Sc)->s.c9
 |.i _=>(0:Int)
 |.b=>false
 |.sl r=>([]:Do r.c9)
 |.pr x y=>(zeroV x,zeroV y)
 |.u=>()
def u0:Sc->bH->At bH
 |.i k,a=>match a with
  |.int l n::r=>if k=l/\n=0 then some r else none
  |_=>none
 |.b,a=>match a with
  |.bool c::r=>cond c none (some r)
  |_=>none
 |.sl _,a=>match a with
  |.slice none 0 0::r=>some r
  |_=>none
 |.pr x y,a=>match u0 x a with
  |some b=>u0 y b
  |none=>none
 |.u,a=>some a
def oN:∀(s:Sc) {b rest:bH},u0 s b=some rest->∃d,b=d++rest/\pP (d.map mG) (bJ s (zeroV s))/\d.all Value.oneCell'=true/\d.all (λv=>(mG v).one)=true
 |.i k,b,rest,h=>by
  simp only[u0]at h;split at h
  .split at h
   next f=>cases h;obtain⟨rfl,rfl⟩:=f;exact⟨[_],rfl,.cons (Wk.refl (.v (.int _ 0))) .nil,rfl,rfl⟩
   .cases h
  .cases h
 |.b,b,rest,h=>by
  simp only[u0]at h;split at h
  next c m=>
   cases c with
   |true=>cases h
   |false=>
    cases h;exact⟨[_],rfl,.cons (Wk.refl (.v (.bool false))) .nil,rfl,rfl⟩
  .cases h
 |.sl r,b,rest,h=>by
  simp only[u0]at h;split at h
  .cases h
   exact⟨[_],rfl,.cons (Wk.empty rfl) .nil,rfl,rfl⟩
  .cases h
 |.pr a c,b,rest,h=>by
  simp only[u0]at h;split at h
  next l e=>obtain⟨p,rfl,p1,p2,p3⟩:=oN a e;obtain⟨q,rfl,g,i,j⟩:=oN c h;refine⟨p++q,d5,?_,by simp only[aBu,p2,i];rfl,by simp only[aBu,p3,j];rfl⟩;rw[aya];exact p1.append g
  .cases h
 |.u,b,rest,h=>by
  simp only[u0,axq]at h;subst h;exact⟨[],rfl,.nil,rfl,rfl⟩
def ao7(s:Sc)(z:Id):In:=match s with
 |.pr x y=>match z with
  |.agg a=>match u0 (.pr x y) a.toList with
   |some []=>true
   |_=>false
  |_=>false
 |.u=>match z with
  |.agg a=>match u0 .u a.toList with
   |some []=>true
   |_=>false
  |_=>false
 |.i k=>match z with
  |.agg _=>false
  |z=>match u0 (.i k) [z]with
   |some []=>true
   |_=>false
 |.b=>match z with
  |.agg _=>false
  |z=>match u0 .b [z]with
   |some []=>true
   |_=>false
 |.sl r=>match z with
  |.agg _=>false
  |z=>match u0 (.sl r) [z]with
   |some []=>true
   |_=>false
def pP.single(h:pP [s] [R]):Wk s R:=by
 cases h with
 |cons h _=>exact h
def YC(h:ao7 I v=true):Wk (QW v) (enc (jG I (zeroV I))):=by
 have one:∀{I:Sc} {v:Id} {c:AV},u0 I [v]=some []->bJ I (zeroV I)=[c]->Wk (mG v) c:=by
  intro I v c h j;obtain⟨g,a,b,_⟩:=oN I h;rw[ax6]at a;subst a;rw[j]at b;exact b.single
 have f:∀{v:Id},(∀i,v≠.agg i)->QW v=mG v:=by
  intro v d;unfold QW;split
  .exact absurd rfl (d _)
  .rfl
 unfold ao7 at h;split at h
 .split at h
  .split at h
   next a=>obtain⟨g,b,e,_⟩:=oN _ a;rw[ax6]at b;simp only[QW,jG,enc,gO,b];exact Wk.ag e
   .cases h
  .cases h
 .split at h
  .split at h
   next a=>obtain⟨g,b,e,_⟩:=oN _ a;rw[ax6]at b;simp only[QW,jG,enc,b];exact Wk.ag e
   .cases h
  .cases h
 .split at h
  .cases h
  next d=>
   split at h
   next a=>rw[f d];exact one a rfl
   .cases h
 .split at h
  .cases h
  next d=>
   split at h
   next a=>rw[f d];exact one a rfl
   .cases h
 .split at h
  .cases h
  next d=>
   split at h
   next a=>rw[f d];exact one a rfl
   .cases h
def lV(d:TypeDesc)(s:Sc):In:=match s with
 |.i k=>match d with
  |.int l=>decide (k=l)
  |_=>false
 |.b=>match d with
  |.bool=>true
  |_=>false
 |.pr (.i .i64) (.i .i64)=>match d with
  |.tuple ⟨[]⟩=>true
  |_=>false
 |_=>false
def vk(h:lV j I=true)(x:I.c9):lQ j (rK I x)/\I.key=true:=by
 unfold lV at h;split at h
 .split at h
  .exact⟨by simpa[rK,lQ,MapKept.IsKey]using h,rfl⟩
  .cases h
 .split at h
  .exact⟨trivial,rfl⟩
  .cases h
 .split at h
  .exact⟨⟨x.1,x.2,rfl⟩,rfl⟩
  .cases h
 .cases h
def OI:(s:Sc)->EV->At s.c9
 |.pr a b,c=>match c with
  |.ag d=>match Wn (.pr a b) d with
   |some (x,[])=>some x
   |_=>none
  |_=>none
 |.i k,c=>Mx (.i k) c
 |.b,c=>Mx .b c
 |.sl _,_=>none
 |.u,_=>none
def qL(T:EQ->bz)(hg:Nat->At eh)(t:EQ)(c b:EV)(h:In)(k:EV->a_->At a):At a:=
 match c with
 |.mp j=>match hg j with
  |some (.mp d e f g)=>match(T t).mp with
   |some (i,z)=>match OI e b with
    |some x=>cond (lV d e && lV i e && ao7 f z) (cond h (k (.tu [jG f ((bL e g x).getD (zeroV f)),.sc .b (bL e g x).isSome]) [j]) (k (jG f ((bL e g x).getD (zeroV f))) [j])) none
    |none=>none
   |none=>none
  |_=>none
 |_=>none
def qM{d b:TypeDesc}(h:lV d I=true)(a:lV b I=true):d=b:=by
 unfold lV at h a;split at h
 .split at h
  .simp only at a
   split at a
   .have c:=ayh h
    have e:=ayh a;rw[<-c,<-e]
   .cases a
  .cases h
 .split at h
  .simp only at a
   split at a
   .rfl
   .cases a
  .cases h
 .split at h
  .simp only at a
   split at a
   .rfl
   .cases a
  .cases h
 .cases h
def YD{s:Sc}{x:s.c9}(c:(match s with
 |.i _=>true
 |.b=>true
 |_=>false)=true) (b:Mx s y=some x):enc y=.v (rK s x):=by
 have e:encS s x=.v (rK s x):=by cases s<;>simp at c<;>rfl
 rw[<-e];cases y with
 |sc d a=>obtain⟨rfl,rfl⟩:=dm b;rfl
 |nil=>cases s<;>simp[Mx]at b c
 |ts r f=>obtain⟨rfl,rfl⟩:=dm b;simp at c
 |_=>simp[Mx]at b
def A0{x:I.c9}(h:lV j I=true)(d:OI I y=some x):∀(Rd:bI) E u,VR Rd E (enc y) u->u=rK I x:=by
 intro Rd E u e;cases I with
 |i k=>rw[YD (s:=.i k) rfl d]at e;exact e.bR
 |b=>rw[YD (s:=.b) rfl d]at e;exact e.bR
 |sl r=>cases d
 |u=>cases d
 |pr a p=>
  have g:=(vk h x).2;simp only[OI]at d;split at d
  next q=>
   split at d
   next c n=>cases d;obtain⟨s,f,l⟩:=Eu _ n g;rw[ax6]at f;subst f;simp only[enc,l]at e;obtain⟨t,m,o⟩:=VR.ff e;rw[m,LR.db _ _ g o];rfl
   .cases d
  .cases d
def Ru(E:gJ P T){k:EV->a_->At a}{r:a}(h:qL T hg b (eO ev c) (eO ev e) D k=some r):∃i L,V4 P (.lookup b c e D) ev hg i L/\k i L=some r:=by
 unfold qL at h;split at h
 next j I=>
  split at h
  next d m B s F=>
   split at h
   next U z H=>
    split at h
    next g o=>
     obtain⟨C,O⟩:=aY h;simp only[axo]at C;obtain⟨⟨n,M⟩,N⟩:=C;have Q:=qM n M;subst Q;obtain⟨J,K⟩:=vk n g;have R:=YC N;have G:eO ev e≠.un:=λf=>by rw[f]at o;cases m<;>simp[OI,Mx]at o
     have look:Wk ((fm (oA m B s) (rK m g)).getD (QW z)) (enc (jG B ((bL m s g).getD (zeroV B)))):=by
      rw[qF K];cases bL m s g with
      |none=>exact R
      |some v=>exact Wk.refl _
     rcases bQ O with⟨x,u⟩|⟨x,u⟩
     .refine⟨_,_,λS q A y p t l w=>?_,u⟩
      rw[x];have:=RS.afI (P:=P) (dd:=q) (ty:=A) (pos:=y) (af:=p) (gd:=t) (E.mp _ _ H) (l.is I d9) (w.at d5 F) (by rw[l.is rfl G];exact A0 n o) J;refine this.Eh (Wk.tu (.cons look (.cons ?_ .nil)));rw[qF K,Option.isSome_map];exact Wk.refl _
     .refine⟨_,_,λS q A y p t l w=>?_,u⟩
      rw[x];exact(RS.lookup (P:=P) (dd:=q) (ty:=A) (pos:=y) (af:=p) (gd:=t) (E.mp _ _ H) (l.is I d9) (w.at d5 F) (by rw[l.is rfl G];exact A0 n o) J).Eh look
    .cases h
   .cases h
  .cases h
 .cases h
def OJ(F:gJ P T){k:EV->a_->At a}{r:a}(h:qL T hg b (eO ev c) (eO ev e) false k=some r):∃j d i l m f,hg j=some (.mp d i l m)/\i.key=true/\k (jG l ((bL i m f).getD (zeroV l))) [j]=some r/\
 ∀(o:St) (n:Do (i.c9×l.c9)) (q:jl) (x:EQ) (w:String) (p:dM) (t:fJ),Sk ev o->(bL i n f).getD (zeroV l)=(bL i m f).getD (zeroV l)->bc o.h j=some (cx (.mp d i l n))->RS P ⟨q,.lookup b c e false,x,w,p,t⟩ o (enc (jG l ((bL i m f).getD (zeroV l)))):=by
 unfold qL at h;split at h
 next j M=>
  split at h
  next d i l m I=>
   split at h
   next Q z L=>
    split at h
    next f u=>
     obtain⟨y,E⟩:=aY h;simp only[axo]at y;obtain⟨⟨s,C⟩,D⟩:=y;have G:=qM s C;subst G;obtain⟨O,B⟩:=vk s f;have N:=YC D;have J:eO ev e≠.un:=λg=>by rw[g]at u;cases i<;>simp[OI,Mx]at u
     refine⟨j,d,i,l,m,f,I,B,E,λo n q x w p t A H K=>?_⟩;have look:Wk ((fm (oA i l n) (rK i f)).getD (QW z)) (enc (jG l ((bL i m f).getD (zeroV l)))):=by
      rw[qF B,<-H];cases bL i n f with
      |none=>exact N
      |some v=>exact Wk.refl _
     exact(RS.lookup (P:=P) (dd:=q) (ty:=x) (pos:=w) (af:=p) (gd:=t) (F.mp _ _ L) (A.is M (by intro g;cases g)) K (by rw[A.is rfl J];exact A0 s u) O).Eh look
    .cases h
   .cases h
  .cases h
 .cases h
def ex2(c b:EV)(k:IntKind->Int->Int->At a):At a:=match c with
 |.sc (.i d) x=>match b with
  |.sc (.i e) y=>match eG (.i e) (.i d) y with
   |some z=>k d x z
   |none=>none
  |_=>none
 |_=>none
def afU{k:IntKind->Int->Int->At a}{r:a}(h:ex2 (eO ev c) (eO ev e) k=some r):∃g d b,eO ev c=.sc (.i g) d/\eO ev e=.sc (.i g) b/\k g d b=some r:=by
 unfold ex2 at h;split at h
 next m d i=>
  split at h
  next n b j=>
   split at h
   next z l=>obtain⟨f,rfl⟩:=dm l;cases f;exact⟨m,d,b,i,j,h⟩
   .cases h
  .cases h
 .cases h
def OK(T:EQ->bz)(ev:Nat->EV)(hg:Nat->At eh)(b:Builtin)(d:gr)(f:jk)(k:EV->a_->At a):At a:=
 match b with
 |.len=>match d with
  |⟨[x]⟩=>match f[0]? with
   |some t=>cond (T t).k7 (afP hg (eO ev x) k) (Wo T hg t (eO ev x) k)
   |none=>none
  |_=>none
 |.min=>match d with
  |⟨[x,y]⟩=>ex2 (eO ev x) (eO ev y) λe c b=>k (.sc (.i e) (if b<c then b else c)) []
  |_=>none
 |.max=>match d with
  |⟨[x,y]⟩=>ex2 (eO ev x) (eO ev y) λe c b=>k (.sc (.i e) (if b>c then b else c)) []
  |_=>none
 |_=>none
def alK(s:ByteArray)(i:Int):sV:=aZ (s.data.toList.map λb:UInt8=>(b.toNat:Int)) i
def exR(T:EQ->bz)(ev:Nat->EV)(hg:Nat->At eh)(u:Op)(k:EV->a_->At a):At a:=
 match u with
 |.move x=>k (eO ev x) []
 |.assign x=>k (eO ev x) []
 |.pick c x y=>match eO ev c with
  |.sc .b b=>cond b (k (eO ev x) []) (k (eO ev y) [])
  |_=>none
 |.load t x=>Wp T hg t (eO ev x) k
 |.binOp o t x y _=>afO T o t (eO ev x) (eO ev y) λc=>k c []
 |.unOp o _ x=>ao4 o (eO ev x) λc=>k c []
 |.convert s t x=>match eO ev x with
  |.sc (.i _) n=>match(T s).ik with
   |some _=>match(T t).ik with
    |some d=>k (.sc (.i d) (d.wrap n)) []
    |none=>none
   |none=>none
  |_=>none
 |.fieldAddr t x f=>match(T t).fd[f]? with
  |some (p,_,m)=>cond (Nat.blt 0 m) (match OD (eO ev x) p with
   |some q=>k q []
   |none=>none) none
  |none=>none
 |.field t x f=>OF T t f (eO ev x) λc=>k c []
 |.indexAddr t (.global g) y=>afQ T t g (eO ev y) k
 |.indexAddr t x y=>OE T hg t (eO ev x) (eO ev y) k
 |.extract x i=>match eO ev x with
  |.tu z=>match z[i]? with
   |some c=>k c []
   |none=>none
  |_=>none
 |.build t v=>OH T ev hg t v.toList k
 |.lookup t x y r=>qL T hg t (eO ev x) (eO ev y) r k
 |.nilCheck x=>cond (nnA (enc (eO ev x))) (k (eO ev x) []) none
 |.makeFunc j l h=>k (.cl j (l.toList.map (eO ev)) (h.toList.map (eO ev))) []
 |.call ⟨.builtin b,e,w⟩=>OK T ev hg b e w k
 |.index t (.const (.string s)) y=>match eO ev y with
  |.sc (.i _) i=>cond (T t).sg (aW (alK s i) λb=>k (.sc (.i .u8) b) []) none
  |_=>none
 |_=>none
def RS.IZ{P:Fd}{s:ByteArray}(r:P.underlying k=some .string)(u:t.ev c=.v (.int C A))(i:aZ (s.data.toList.map λS:UInt8=>(S.toNat:Int)) A=some S):
 RS P ⟨K,.index k (.const (.string s)) c,b,H,J,N⟩ t (.v (.int .u8 S)):=λy v e a w h=>by
 have d:=h.ev c;rw[u]at d;have d:=d.bR;obtain⟨g,f⟩:=eM i;rw[axM]at f;obtain⟨q,n,rfl⟩:=axW.1 f;have o:s[A.toNat]? =some q:=by
  obtain⟨m,l⟩:=axs.1 n;have p:A.toNat<s.size:=by simpa using m
  rw[getElem?_pos s A.toNat p];exact axD some l
 refine⟨_,.v,λx _=>?_⟩;have j:a.eval (.const (.string s))=.string s:=rfl;simp[execOp,Instr.index,d,j,asIntOf,axR r,g,o]
def Wu(p:gJ P T){k:EV->a_->At a}{r:a}{b:Builtin}{n:gr}(h:OK T ev hg b n W k=some r):∃c s,V4 P (.call ⟨.builtin b,n,W⟩) ev hg c s/\k c s=some r:=by
 unfold OK at h;split at h
 .split at h
  next x=>
   split at h
   next t q=>
    rcases bQ h with⟨o,i⟩|⟨o,i⟩
    .exact afS p q o i
    .exact adb p q i
   .cases h
  .cases h
 .split at h
  next x y=>obtain⟨z,f,b,j,l,m⟩:=afU h;exact⟨_,_,λB d C A u v g w=>RS.min2 (g.is j d8) (g.is l d8),m⟩
  .cases h
 .split at h
  next x y=>obtain⟨z,f,b,j,l,m⟩:=afU h;exact⟨_,_,λB d C A u v g w=>RS.max2 (g.is j d8) (g.is l d8),m⟩
  .cases h
 .cases h
def Sk.wk(a:Sk ev t)(x:If):Wk (t.ev x) (enc (eO ev x)):=by
 rcases a.x x with h|h
 .rw[h];exact Wk.un
 .rw[h];exact Wk.refl _
def Sk.wks{c:St}(b:Sk ev c):∀a:oL,pP (a.map c.ev) (a.map (enc∘eO ev))
 |[]=>.nil
 |x::a=>.cons (b.wk x) (b.wks a)
def ao8(l:gJ P T){k:EV->a_->At a}{r:a}{D:Op}(h:exR T ev hg D k=some r):∃c E,V4 P D ev hg c E/\k c E=some r:=by
 unfold exR at h;split at h
 .exact⟨_,_,λu d v t o p f s=>(RS.move _).Eh (f.wk _),h⟩
 .exact⟨_,_,λu d v t o p f s=>(RS.assign _).Eh (f.wk _),h⟩
 .split at h
  next c x y _ b B=>
   rcases bQ h with⟨z,A⟩|⟨z,A⟩
   .subst z
    exact⟨_,_,λu d v t o p f s=>(RS.arH (f.is B d8) rfl).Eh (f.wk _),A⟩
   .subst z
    exact⟨_,_,λu d v t o p f s=>(RS.arI (f.is B d8) rfl).Eh (f.wk _),A⟩
  .cases h
 .exact ade l h
 .obtain⟨c,g,j⟩:=afR l h
  exact⟨c,_,g,j⟩
 .obtain⟨c,g,j⟩:=alJ h
  exact⟨c,_,g,j⟩
 .split at h
  next n w=>
   split at h
   next N F=>
    split at h
    next K G=>exact⟨_,_,λu d v t o p f s=>RS.conv (l.ik _ _ F) (l.ik _ _ G) (f.is w d8),h⟩
    .cases h
   .cases h
  .cases h
 .split at h
  next O L m H=>
   obtain⟨g,j⟩:=aY h;split at j
   next q C=>have M:0<m:=axv g;refine⟨_,_,λu d v t o p f s=>RS.fieldAddr (l.fd _ _ _ H) bv ?_,j⟩;rw[f.is rfl (λe=>by rw[e]at C;simp[OD]at C)];exact adf C
   .cases j
  .cases h
 .obtain⟨c,g,j⟩:=Ws l h
  exact⟨c,_,g,j⟩
 .exact afT l h
 .exact Wr l h
 .split at h
  next Q w=>
   split at h
   next c B=>refine⟨_,_,λu d v t o p f s=>RS.extract (f.is w d8) ?_,h⟩;rw[dW,axM,B];rfl
   .cases h
  .cases h
 .exact Wt l h
 .exact Ru l h
 next x=>
  obtain⟨g,j⟩:=aY h;refine⟨_,_,λu d v t o p f s=>?_,j⟩;have I:eO ev x≠.un:=λe=>by rw[e]at g;simp[enc,nnA]at g
  have w:=f.is (x:=x) rfl I;rw[<-w];exact RS.nilCheck (by rw[w];exact g)
 .exact⟨_,_,λu d v t o p f s=>RS.makeFunc.Eh (by
   rw[enc,dW,dW,ayz,ayz];exact Wk.clM (f.wks _) (f.wks _)),h⟩
 .exact Wu l h
 .split at h
  next K i J=>obtain⟨g,j⟩:=aY h;obtain⟨b,z,A⟩:=br j;exact⟨_,_,λu d v t o p f s=>RS.IZ (l.sg _ g) (f.is J d8) z,A⟩
  .cases h
 .cases h
end
def FP{e:Nat}:∀(a:Do (Do AV)) (i o:Nat) (r:Do AV) (c:AV),(∀r∈a,r.length=e)->a[i]? =some r->o<e->(a.set i (r.set o c)).flatten=a.flatten.set (i*e+o) c
 |[],i,o,r,c,_,h,_=>by simp at h
 |q::a,0,o,r,c,b,h,f=>by
  simp at h;subst h;have:=b q d5;simp only[aAr,ax1,azT,axY];rw[aCb _ _ bv]
 |q::a,i+1,o,r,c,b,h,f=>by
  have g:=b q d5;have k:=FP a i o r c (λx j=>b x (by simp[j])) (by simpa using h) f;simp only[aAN,ax1];rw[k,aAO _ _ (by rw[g,ax2];omega),g];congr 2;rw[ax2];omega
def Wv{a o:Nat}(e:∀i∈h,i.length=m)(b:h[a]? =some i)(f:o<m):a*m+o<h.flatten.length:=by
 rw[ey e];have c:=(axs.1 b).1;have:(a+1)*m<=h.length*m:=azs _ c;rw[ax2]at this;omega
section
variable{P:Fd}
def Ga.u_{B:Bs}{p:bI}{k b:Nat}{t:EQ}{f:Nat}{i:Nat}:∀(xs:Do AV) (A:bH) (o:Nat) {st:St} {e:Env} {a:Act} {w:GE} {g:Do (Do AV)} {r:Do AV} (h:Ga B p e st a w) (G:bc st.h k=some (.arr t f g true)) (F:e.bX k=some b)
 (n:g[i]? =some r) (l:LR (VR (bS B p e st.h w) none) xs A) (E:∀c∈xs,c.one=true) (N:o+xs.length<=f) (m:Nat) (z:Nat) (O:z+m=i*f+o),
 ∃H J D,(storeCells ⟨b,z,none⟩ A m).run P w=.ok () J/\Ga B p H ⟨st.n,st.t,D⟩ a J/\bc D k=some (.arr t f (g.set i (setCells r o xs)) true)/\(∀j,j≠k->bc D j=bc st.h j)/\∀j,H.bX j=e.bX j
 |[],[],o,st,e,a,w,g,r,h,G,F,n,l,E,N,m,z,O=>by
  refine⟨e,w,st.h,rfl,h,?_,λ_ _=>rfl,λ_=>rfl⟩;rw[G,setCells];have:g.set i r=g:=by
   obtain⟨M,rfl⟩:=axs.1 n;exact azl M
  rw[this]
 |x::xs,u::A,o,st,e,a,w,g,r,h,G,F,n,l,E,N,m,z,O=>by
  have W:VR (bS B p e st.h w) none x u:=l.2 0 x u rfl rfl;have a4:LR (VR (bS B p e st.h w) none) xs A:=⟨by simpa using l.1,λj c v L R=>l.2 (j+1) c v (by simpa using L) (by simpa using R)⟩;obtain⟨I,ah,am,aa⟩:=h.sr.ob _ _ G;simp only[axN]at N;have a9:=I r (axB n);have a0:=FP g i o r x I n bv;have a6:=Wv I n (o:=o) bv;obtain⟨M,ap⟩:=axs.1 n;have ae:∀q∈g.set i (r.set o x),q.length=f:=λq Q=>by
   rcases azD Q with Q|rfl
   .exact I q Q
   .simpa using a9
  obtain⟨hs,S⟩:=h.sr.u_ (rows':=g.set i (r.set o x)) G F (i*f+o) W (E x d5) d5 ae a0 a6;have U:∀j,(e.cK k (some b) (e.sv k) 0).bX j=e.bX j:=λj=>by by_cases y:j=k<;>simp[Env.cK,y,F]
  have ac:∀j,(e.cK k (some b) (e.sv k) 0).sv j=e.sv j:=λj=>by by_cases y:j=k<;>simp[Env.cK,y]
  have hg:Ga B p (e.cK k (some b) (e.sv k) 0) ⟨st.n,st.t,(k,some (.arr t f (g.set i (r.set o x)) true))::st.h⟩ a (w.setCell ⟨b,i*f+o,none⟩ u):=⟨h.n,h.d,hs,(h.tr.mono S).iR U ac⟩;obtain⟨H,J,D,ab,a1,a3,a2,Z⟩:=Ga.u_ (i:=i) xs A (o+1) hg bf Env.bY (r:=r.set o x) (by rw[ayk];simp[M]) (a4.imp λ_ _ R=>R.mono S) (λc L=>E c (by simp[L])) bv (m+1) z bv;refine⟨H,J,D,?_,a1,?_,λj y=>by rw[a2 j y,bd y],λj=>by rw[Z j,U j]⟩
  .have X:(⟨b,z,none⟩:Addr).add m=⟨b,i*f+o,none⟩:=by rw[ax8,O]
   rcases aa with⟨a8,_⟩|⟨C,ag,s,Y,aq,ai,hm,V,ak,a5,an⟩
   .rw[a8]at n;simp at n
   obtain rfl:=axt (Y.symm.trans F);have a7:i*f+o<s.size:=by
    have:=a5.1;rw[ax9]at this;have h2:s.toList.length=s.size:=d5
    omega
   have aj:w.cell? ⟨C,i*f+o,none⟩=some s[i*f+o]:=by
    rw[ays w C _ s t (0,0) V];simp[a7]
   have al:=azU w C (i*f+o) s t V;have ao:u.oneCell'=true:=W.ks (E x d5) (λe k he=>by cases he);have ad:(store ⟨C,i*f+o,none⟩ u).run P w=.ok () (w.setCell ⟨C,i*f+o,none⟩ u):=by
    cases u<;>simp_all[store,Sem.run,Value.oneCell']
   simp only[storeCells,axE,X,ad,axF];exact ab
  .rw[a3,aBv];rfl
 |[],u::A,_,_,_,_,_,_,_,_,_,_,_,l,_,_,_,_,_=>by have:=l.1;simp at this
 |x::xs,[],_,_,_,_,_,_,_,_,_,_,_,l,_,_,_,_,_=>by have:=l.1;simp at this
variable{st:St}{d:Nat}{ty:EQ}{pos:String}{af:dM}{gd:fJ}{K:St->Prop}
def SS.afV{t v:EQ}{x y:If}{k c l o:Nat}{m:Hp}{n:Nat}(R:st.ev x=.pe k c l o)(M:kx st.h (st.ev y)=some (m,s))(J:bc m k=some (.arr v l h true))(U:h[c]? =some i)
 (X:V7 P t=some (D,n)) (p:cellsOf s=some u) (N:u.length=n) (a0:u.all AV.one=true) (a3:o+n<=l) (E:K ⟨st.n,st.t,(k,some (.arr v l (h.set c (setCells i o u)) true))::m⟩):
 SS P ⟨none,.store t x y,ty,pos,af,gd⟩ st K:=by
 intro w0 a2 e a w next Q f O
 obtain⟨e1,a1,Z⟩:=vd f.sr (f.ev y) M;have z:=f.cS a1;obtain⟨B,Y,A⟩:=AT p Z;have r:=z.ev x;have S:(St.mk st.n st.t m).ev x=.pe k c l o:=by
  cases x<;>exact R
 rw[S]at r;generalize F:a.eval x=g at r;cases r with
 | @pe _ _ _ _ _ b G=>
  obtain⟨td,j,g2,C,_,rfl⟩:=iK X;obtain⟨e',w',h',V,H,L,I,_⟩:=Ga.u_ (P:=P) u B o z J G U A (λs p=>axO.1 a0 s p) bv 0 (c*l+o) rfl;refine xA (w':=w') ?_ (O _ E _ _ _ (H.lR (λj=>by
   by_cases q:j=k
   .subst q;rw[bf];exact L.symm
   .rw[bd q];exact(I j q).symm)))
  have W:B.length=j.size:=by rw[A.1];exact N
  simp[execOp,Instr.storeAt,Instr.sureAddr,F,storeVar,Y,cM w C,W,V]
def OR.A_{Rd:bI}{k:Nat}{j rows':Do (Do AV)}{wr:In}(e:rJ j rows')(y:∀c∈rows'.flatten,c.one=true)(h:OR Rd L o m (.arr b k j wr)):OR Rd L o m (.arr b k rows' wr):=by
 obtain⟨l,z,n,p⟩:=h;refine⟨e.wid l,y,n,?_⟩;rcases p with⟨rfl,f,g⟩|⟨a,w,x,q,f,g,r,s,t,u,v⟩
 .cases e
  exact .inl ⟨rfl,f,g⟩
 .have i:=e.flat.len
  exact .inr ⟨a,w,x,q,by rw[e.len];exact f,by rw[e.len];exact g,r,s,t,by rw[i];exact e.flat.lr u,by rw[i];exact v⟩
def cA.alL{A:Do (Nat×AV)}{k:Nat}{o p:Ob}{h:Hp}(H:∀Rd e w,OR Rd e w k o->OR Rd e w k p):cA P ⟨m,A,(k,some o)::h⟩ ⟨m,A,(k,some p)::h⟩:=by
 intro B x e a w c;have i:∀j,(∃ob,bc ((k,some o)::h) j=some ob)↔∃ob,bc ((k,some p)::h) j=some ob:=λj=>by
  by_cases g:j=k
  .subst g;simp[bc]
  .simp[bc,g]
 have y:∀b t u,bS B x e ((k,some o)::h) w b t u↔bS B x e ((k,some p)::h) w b t u:=λb t u=>by
  unfold bS;refine and_congr azy (and_congr azy ⟨λs j ob f l=>?_,λs j ob f l=>?_⟩)
  .obtain⟨n,r⟩:=(i j).2 ⟨ob,f⟩
   exact s j n r l
  .obtain⟨n,r⟩:=(i j).1 ⟨ob,f⟩
   exact s j n r l
 refine⟨e,c.n,c.d,⟨c.sr.ext,c.sr.kW,λj ob f=>?_,λj ob b f l=>?_,λj z ob n b F G C D=>?_,c.sr.yv⟩,c.tr.mono λb o u=>(y b o u).1⟩
 .refine OR.mono (λb o u=>(y b o u).1) ?_
  by_cases g:j=k
  .subst g
   rw[bf]at f;cases f;exact H _ _ _ (c.sr.ob j o bf)
  .rw[bd g]at f
   exact c.sr.ob j ob (by rw[bd g];exact f)
 .obtain⟨v,q⟩:=(i j).2 ⟨ob,f⟩
  exact c.sr.base j v b q l
 .obtain⟨v,q⟩:=(i j).2 ⟨ob,F⟩
  obtain⟨I,E⟩:=(i z).2 ⟨n,G⟩;exact c.sr.inj j z v I b q E C D
def cA.A_{n:Nat}{e:Do (Nat×AV)}{k:Nat}{t:EQ}{b:Nat}{a rows':Do (Do AV)}{wr:In}{h:Hp}(g:rJ a rows')(f:∀c∈rows'.flatten,c.one=true):
 cA P ⟨n,e,(k,some (.arr t b a wr))::h⟩ ⟨n,e,(k,some (.arr t b rows' wr))::h⟩:=cA.alL λ_ _ _ h=>h.A_ g f
def cA.wkT{f:Do (Nat×AV)}{i:Nat}(g:Wk s R):cA P ⟨m,(i,s)::f,n⟩ ⟨m,(i,R)::f,n⟩:=by
 intro k h e a w b;refine⟨e,b.n,b.d,b.sr,λj=>?_⟩;have:=b.tr j;by_cases c:j=i
 .subst c
  simp only[bM,ax0]at this⊢;exact g _ _ _ this
 .simp only[bM,c,ayl]at this⊢
  exact this
end
variable{Q:jj}
def jN{hg:Nat->At eh}{h:Hp}{x:I.c9}{m:eW}(c:oM hg I y=some (x,m,B))(i:HC hg V h)(l:∀k,B.contains k=true->V.contains k=true)(j:I.w=1/\∀b:I.c9,bJ I b=[encS I b]):
 (∃f,ir h (enc y)=some (bE m++h,f)/\f.one=true/\pP [f] (bJ I x))/\G5 hg m:=by
 obtain⟨⟨f,e,o⟩,p⟩:=afL c i l;refine⟨⟨f,e,?_,by rw[j.2];exact .cons o .nil⟩,p⟩;unfold oM at c;split at c
 next k=>
  split at c
  next t r A wr v=>
   split at c
   next b g=>simp only[axq,axI]at c;obtain⟨rfl,rfl,rfl⟩:=c;obtain⟨C,w⟩:=i k (l k d5) t r _ wr v;simp only[enc,ir,w,axq,axI]at e;rw[<-e.2];rfl
   .cases c
  .cases c
 .split at c
  next b g=>
   rw[IW (afK g)]at e;simp only[axq,axI]at e;rw[<-e.2];clear e o p c i l;cases y with
   |sc z D=>
    obtain⟨rfl,rfl⟩:=dm g;have:=j.1;cases z with
    |pr a q=>
     have s:=qA (.pr a q) (zeroV (.pr a q)) .un (by rw[j.2];simp[encS]);cases s
    |u=>simp[Sc.w]at this
    |_=>rfl
   |nil=>rfl
   |ts r A=>rfl
   |_=>simp[Mx]at g
  .cases c
def xG{hg:Nat->At eh}:∀(s:Sc) {h:Hp} {l rest:Do EV} {x:s.c9} {g:eW} {i j:a_} (b:iS hg s l=some (x,rest,g,i)) (e:HC hg j h) (f:∀k,i.contains k=true->j.contains k=true),
 (∃C z,l=C++rest/\jb h (cg C)=some (bE g++h,z)/\pP z (bJ s x)/\z.all AV.one=true)/\G5 hg g
 |.pr a c,h,l,rest,x,g,i,j,b,e,f=>by
  simp only[iS]at b;split at b
  next R z A B m=>
   split at b
   next vb N O Q E=>
    simp only[axq,axI]at b;obtain⟨rfl,rfl,rfl,rfl⟩:=b;obtain⟨⟨K,p1,rfl,F,L,H⟩,D⟩:=xG a m e (λk u=>f k (by simp at u⊢;exact .inl u));obtain⟨⟨q0,q1,rfl,G,M,I⟩,J⟩:=xG c E (e.put D λk h=>h) (λk u=>f k (by simp at u⊢;exact .inr u));refine⟨⟨K++q0,p1++q1,d5,?_,L.append M,by rw[aBu,H,I];rfl⟩,λk o p=>?_⟩
    .rw[lU,fL,axS]
     exact LQ F G
    .rcases axy.1 p with p|p
     .exact J k o p
     .exact D k o p
   .cases b
  .cases b
 |.u,h,l,rest,x,g,i,j,b,e,f=>by
  simp only[iS,axq,axI]at b;obtain⟨-,rfl,rfl,rfl⟩:=b;exact⟨⟨[],[],rfl,rfl,.nil,rfl⟩,λk o p=>by cases p⟩
 |.i k,h,[],rest,x,g,i,j,b,e,f=>by simp[iS]at b
 |.b,h,[],rest,x,g,i,j,b,e,f=>by simp[iS]at b
 |.sl r,h,[],rest,x,g,i,j,b,e,f=>by simp[iS]at b
 |.i k,h,c::l,rest,x,g,i,j,b,e,f=>by
  simp only[iS]at b;split at b
  next a A B m=>simp only[axq,axI]at b;obtain⟨rfl,rfl,rfl,rfl⟩:=b;obtain⟨⟨q,t,v,y⟩,w⟩:=jN m e f ⟨rfl,λ_=>rfl⟩;exact⟨⟨[c],[q],rfl,Ab t,y,by simp[v]⟩,w⟩
  .cases b
 |.b,h,c::l,rest,x,g,i,j,b,e,f=>by
  simp only[iS]at b;split at b
  next a A B m=>simp only[axq,axI]at b;obtain⟨rfl,rfl,rfl,rfl⟩:=b;obtain⟨⟨q,t,v,y⟩,w⟩:=jN m e f ⟨rfl,λ_=>rfl⟩;exact⟨⟨[c],[q],rfl,Ab t,y,by simp[v]⟩,w⟩
  .cases b
 |.sl r,h,c::l,rest,x,g,i,j,b,e,f=>by
  simp only[iS]at b;split at b
  next a A B m=>simp only[axq,axI]at b;obtain⟨rfl,rfl,rfl,rfl⟩:=b;obtain⟨⟨q,t,v,y⟩,w⟩:=jN m e f ⟨rfl,λ_=>rfl⟩;exact⟨⟨[c],[q],rfl,Ab t,y,by simp[v]⟩,w⟩
  .cases b
def vl(h:s.one=true):cellsOf s=some [s]:=by
 cases s<;>first|(simp[AV.one]at h;done)|simp only[cellsOf,h,ax0]
def FQ{hg:Nat->At eh}{h:Hp}{x:I.c9}{r:eW}(b:qG hg I y=some (x,r,B))(m:HC hg V h)(o:∀k,B.contains k=true->V.contains k=true):
 (∃c s,kx h (enc y)=some (bE r++h,c)/\cellsOf c=some s/\pP s (bJ I x)/\s.all AV.one=true)/\G5 hg r:=by
 unfold qG at b;split at b
 next w=>
  split at b
  .split at b
   next a u v q=>simp only[axq,axI]at b;obtain⟨rfl,rfl,rfl⟩:=b;obtain⟨⟨t,j,l,e,f,p⟩,g⟩:=xG _ q m o;simp only[ax6]at l;subst l;exact⟨⟨.ag j,j,by simp only[enc,kx,e],rfl,f,p⟩,g⟩
   .cases b
  .split at b
   next a u v q=>simp only[axq,axI]at b;obtain⟨-,rfl,rfl⟩:=b;obtain⟨⟨t,j,l,e,f,p⟩,g⟩:=xG _ q m o;simp only[ax6]at l;subst l;exact⟨⟨.ag j,j,by simp only[enc,kx,e],rfl,f,p⟩,g⟩
   .cases b
  .cases b
 .split at b
  .cases b
  .cases b
  .obtain⟨⟨c,e,i,f⟩,g⟩:=jN b m o ⟨rfl,λ_=>rfl⟩
   exact⟨⟨c,[c],OA e,vl i,f,by simp[i]⟩,g⟩
  .obtain⟨⟨c,e,i,f⟩,g⟩:=jN b m o ⟨rfl,λ_=>rfl⟩
   exact⟨⟨c,[c],OA e,vl i,f,by simp[i]⟩,g⟩
  .obtain⟨⟨c,e,i,f⟩,g⟩:=jN b m o ⟨rfl,λ_=>rfl⟩
   exact⟨⟨c,[c],OA e,vl i,f,by simp[i]⟩,g⟩
structure Src where
 r:Sc
 xs:List r.c9
 tt:Bool
 os:eW
 us:a_
def MA(hg:Nat->At eh):EV->At Src
 |.sc (.sl r) a=>some ⟨r,a,false,[],[]⟩
 |.ts r a=>some ⟨r,a,true,[],[]⟩
 |.ow j=>match hg j with
  |some (.arr t r a _)=>some ⟨r,a,false,[(j,some (.arr t r a false))],[j]⟩
  |_=>none
 |_=>none
def Ba{hg:Nat->At eh}{h:Hp}{s:Src}(a:MA hg y=some s)(g:HC hg B h)(i:∀k,s.us.contains k=true->B.contains k=true):
 ir h (enc y)=some (bE s.os++h,.sl s.tt s.r.w (List.map (bJ s.r) s.xs))/\G5 hg s.os/\y≠.un:=by
 unfold MA at a;split at a
 .simp only[axq]at a;subst a
  exact⟨rfl,λk o b=>(by cases b),by intro e;cases e⟩
 .simp only[axq]at a;subst a
  exact⟨rfl,λk o b=>(by cases b),by intro e;cases e⟩
 next j=>
  split at a
  next t r f wr c=>
   simp only[axq]at a;subst a;obtain⟨m,l⟩:=g j (i j d5) t r f wr c;refine⟨?_,?_,by intro e;cases e⟩
   .simp only[enc,ir,l];rfl
   .intro k o b
    simp only[axK,axI]at b;obtain⟨rfl,rfl⟩:=b;exact⟨t,r,f,wr,c,rfl⟩
  .cases a
 .cases a
def j0(b:Do a)(l h:Int):At (Do a):=if 0<=l/\l<=h/\h<=b.length then some ((b.take h.toNat).drop l.toNat)else none
def Rv(b:Do a)(l h m:Int):At (Do a):=if 0<=l/\l<=h/\h<=m/\m<=b.length then some ((b.take h.toNat).drop l.toNat)else none
def u4(ev:Nat->EV)(x:If):sV:=match eO ev x with
 |.sc (.i _) i=>some i
 |_=>none
def kA{ev:Nat->EV}{x:If}(h:u4 ev x=some A)(a:Sk ev t):∃k,t.ev x=.v (.int k A):=by
 unfold u4 at h;split at h
 next k c b=>cases h;exact⟨k,a.is b d8⟩
 .cases h
def I0:If->If->In
 |.tmp i,.tmp j=>beq i j
 |.const (.int _ a),.const (.int _ b)=>decide (a=b)
 |_,_=>false
def ao9:jj->If->In
 |some x,y=>I0 x y
 |none,_=>false
def Ew{ev:Nat->EV}(h:I0 c e=true)(b:u4 ev c=some A)(a:u4 ev e=some S):A=S:=by
 unfold I0 at h;split at h
 .have:=axu h
  subst this;rw[b]at a;exact axt a
 .simp[u4,eO,cvE]at b a h
  rw[<-b,<-a,h]
 .cases h
def loE(ev:Nat->EV):jj->sV
 |none=>some 0
 |some x=>u4 ev x
def hiE(ev:Nat->EV)(n:Nat):jj->sV
 |none=>some (n:Int)
 |some x=>u4 ev x
def afW{ev:Nat->EV}(h:loE ev Q=some A)(c:Sk ev t)(a:0<=A):uZ t 0 Q=some A.toNat:=by
 cases Q with
 |none=>simp only[loE,axq]at h;subst h;rfl
 |some x=>
  obtain⟨k,b⟩:=kA (x:=x) h c;simp only[uZ,b,a,ax0]
def afX{ev:Nat->EV}{n:Nat}(h:hiE ev n Q=some A)(c:Sk ev t)(a:0<=A):uZ t n Q=some A.toNat:=by
 cases Q with
 |none=>simp only[hiE,axq]at h;subst h;simp[uZ]
 |some x=>
  obtain⟨k,b⟩:=kA (x:=x) h c;simp only[uZ,b,a,ax0]
def OL(T:EQ->bz)(ev:Nat->EV)(hg:Nat->At eh)(t:EQ)(x:If)(f c g:jj)(k:EV->eW->a_->At a):At a:=
 match MA hg (eO ev x)with
 |some s=>match(T t).el with
  |some (_,i,_,_)=>cond (beq i s.r.w) (match loE ev f with
   |some l=>match hiE ev s.xs.length c with
    |some h=>match g with
     |none=>aW (j0 s.xs l h) λb=>k (cond (s.tt && c.isNone) (.ts s.r b) (.sc (.sl s.r) b)) s.os s.us
     |some m=>cond (ao9 c m) (match u4 ev m with
      |some _=>aW (j0 s.xs l h) λb=>k (.ts s.r b) s.os s.us
      |none=>none) (match c with
      |none=>none
      |some _=>match u4 ev m with
       |some e=>aW (Rv s.xs l h e) λb=>cond (decide (h=e)) (k (.ts s.r b) s.os s.us) none
       |none=>none)
    |none=>none
   |none=>none) none
  |none=>none
 |none=>none
section
variable{P:Fd}{T:EQ->bz}{ev:Nat->EV}{hg:Nat->At eh}{n d:Nat}{ty:EQ}{pos:String}{af:dM}{gd:fJ}
def SS.mT{o:Oper}{c a b:St}(h:SS P o c λs=>s=a)(e:cA P a b):SS P o c λs=>s=b:=h.mono λs f=>by subst f;exact⟨_,e,rfl⟩
def Ww(R:gJ P T){k:EV->eW->a_->At a}{r:a}{G u A:jj}(x:d<n)(h:OL T ev hg b c G u A k=some r):
 ∃f L M,FS P ⟨some d,.slice b c G u A,ty,pos,af,gd⟩ n ev hg f L M .no/\k f L M=some r:=by
 unfold OL at h;split at h
 next s Z=>
  split at h
  next e sz a0 z S=>
   obtain⟨J,v⟩:=aY h;clear h;have hw:=axu J;clear J;subst hw;have h:=v;clear v;split at h
   next l U=>
    split at h
    next o C=>
     have H:∀(m:sV) (B:Do s.r.c9) (f:EV),(0<=l/\l<=o/\o<=s.xs.length)->B=(s.xs.take o.toNat).drop l.toNat->(∀j,m=some j->o<=j/\j<=s.xs.length)->(∀st,Sk ev st->mxA st A=some (m.map Int.toNat))->(A.isSome=true->u.isSome=true)->
      Wk (z1 s.tt (List.map (bJ s.r) s.xs) s.r.w l.toNat o.toNat (m.map Int.toNat)) (enc f)->FS P ⟨some d,.slice b c G u A,ty,pos,af,gd⟩ n ev hg f s.os s.us .no:=by
      intro m B f t i V Y X F st hn q Q hf;obtain⟨N,h2,O⟩:=Ba Z Q.hc λ_ h=>h;have hx:=q.is rfl O;have:=SS.slice (P:=P) (ty:=ty) (pos:=pos) (af:=af) (gd:=gd) (d:=d) (h':=bE s.os++st.h) (tt:=s.tt) (rows:=List.map (bJ s.r) s.xs) (l:=l.toNat) (h:=o.toNat) (m:=m.map Int.toNat) (K:=λs'=>s'=⟨st.n,(d,z1 s.tt (List.map (bJ s.r) s.xs) s.r.w l.toNat o.toNat (m.map Int.toNat))::st.t,bE s.os++st.h⟩)
       (R.el _ _ S) (by rw[hx];exact N) (afW U q t.1) (by rw[axx];exact afX C q bv) (Y st q) X bv (by rw[axx];omega) (by
        intro y hy;obtain⟨j,w,rfl⟩:=axW.1 hy;have:=V j w;rw[axx];omega) bv rfl
      exact this.mT (cA.wkT F)
     have I:∀g:In,AV.sl g s.r.w (((List.map (bJ s.r) s.xs).take o.toNat).drop l.toNat)=.sl g s.r.w (List.map (bJ s.r) ((s.xs.take o.toNat).drop l.toNat)):=λg=>by
      rw[<-azN,<-az1]
     split at h
     .obtain⟨B,i,p⟩:=br h
      unfold j0 at i;split at i
      next t=>
       cases i;refine⟨_,_,_,H none _ _ t rfl d5 (λst q=>rfl) d5 ?_,p⟩;unfold z1;rw[I];simp only[azj,zZ,axx];cases a2:s.tt with
       |false=>
        simp only[Bool.false_and];exact Wk.refl _
       |true=>
        cases u with
        |none=>
         simp only[hiE,axq]at C;subst C;simp only[axw,aAP,Bool.true_and,Option.isNone_none];exact Wk.refl _
        |some y=>
         simp only[Bool.true_and,Option.isNone_some];cases a1:o.toNat==s.xs.length with
         |true=>exact Wk.tight
         |false=>exact Wk.refl _
      .cases i
     next m=>
      rcases bQ h with⟨D,h⟩|⟨D,h⟩
      .split at h
       next j w=>
        obtain⟨B,i,p⟩:=br h;unfold j0 at i;split at i
        next t=>
         cases i;have W:j=o:=by
          cases u with
          |none=>cases D
          |some y=>exact(Ew D C w).symm
         subst W;refine⟨_,_,_,H (some j) _ _ t rfl (by rintro y ⟨⟩;omega) (λst q=>?_) (λ_=>by cases u with|none=>cases D|some y=>rfl) ?_,p⟩
         .obtain⟨kk,E⟩:=kA w q
          have v:0<=j:=bv
          simp[mxA,uZ,E,v]
         .unfold z1
          rw[I];simp only[ayt,zZ,aAP];exact Wk.refl _
        .cases i
       .cases h
      .split at h
       .cases h
       next y=>
        split at h
        next j w=>
         obtain⟨B,i,p⟩:=br h;unfold Rv at i;split at i
         next t=>
          cases i;have mk:=λf F=>H (some j) _ f ⟨t.1,t.2.1,bv⟩ rfl (by rintro y ⟨⟩;omega) (λst q=>by
           obtain⟨kk,E⟩:=kA w q;have v:0<=j:=bv
           simp[mxA,uZ,E,v]) (λ_=>rfl) F
          rcases bQ p with⟨x,p⟩|⟨x,p⟩
          .refine⟨_,_,_,mk (.ts s.r _) ?_,p⟩
           have x:o=j:=by simpa using x
           subst x;unfold z1;rw[I];simp only[ayt,zZ,aAP];exact Wk.refl _
          .cases p
         .cases i
        .cases h
    .cases h
   .cases h
  .cases h
 .cases h
end
def vj.x{d:Nat}{a:St}(b:vj (.one d) a)(x:If):(a.ev x).gC (λk=>k==d)=true:=by
 cases x with
 |tmp i=>exact b.t i
 |const v=>show(mG v).gC _=true;unfold mG;split<;>rfl
 |global g=>show(gA g).gC _=true;unfold gA;split<;>rfl
 |func f=>rfl
def Rx(h:cellsOf s=some i)(a:s.gC U=true):AV.nD U i=true:=by
 cases s with
 |ag l=>simp only[cellsOf,axq]at h;subst h;simpa[AV.gC]using a
 |_=>
  simp only[cellsOf]at h;split at h
  .simp only[axq]at h;subst h;simp[AV.nD,a]
  .cases h
def rN{d:Nat}:∀{a:Do AV},AV.nD (λk=>k==d) a=true->a.map (AV.kill d)=a
 |[],_=>rfl
 |c::a,h=>by
  simp only[AV.nD,axo]at h;rw[axJ,qx h.1,rN h.2]
def vm{hg:Nat->At eh}(d:Nat):∀{os:eW} {h:Hp},G5 hg os->bx d (bE os++h)=bE os++bx d h
 |[],h,_=>rfl
 |(k,o)::os,h,a=>by
  obtain⟨t,r,f,wr,e,rfl⟩:=a k o d5;have c:=vm d (os:=os) (h:=h) λk o b=>a k o (by simp[b]);simp only[bE,ayB,bx,c];rfl
def alM(p:Nat->In)(v:Id):(mG v).gC p=true:=by unfold mG;split<;>rfl
def Ry(p:Nat->In):∀z:bH,AV.nD p (z.map mG)=true
 |[]=>rfl
 |v::z=>by simp only[axJ,AV.nD,alM,Ry p z];rfl
def oD(a:Int)(b:Nat):ca:=if 0<=a/\b*a.toNat<=140737488355328/\a.toNat<=maxLen then some a.toNat else none
def er(b:Nat)(c ys:Do a):At (Do a):=if(c.length+ys.length)*b<=140737488355328/\c.length+ys.length<=maxLen then some (c++ys)else none
def rO:Do a->In
 |[]=>true
 |_::_=>false
def Ex(ev:Nat->EV)(hg:Nat->At eh)(r:Sc):Nat->AM->At (Do r.c9×eW×a_)
 |_,[]=>some ([],[],[])
 |j,(i,x)::b=>cond (beq i j) (match qG hg r (eO ev x)with
  |some (v,os,c)=>match Ex ev hg r (j+1) b with
   |some (e,a,us2)=>some (v::e,a++os,c++us2)
   |none=>none
  |none=>none) none
def afY(T:EQ->bz)(ev:Nat->EV)(hg:Nat->At eh)(d:Nat)(t:EQ)(g:Nat)(c:AM)(k:EV->eW->a_->Fr->At a):At a:=
 match g with
 |0=>match c with
  |[]=>match(T t).el with
   |some (_,b,_,_)=>cond (Nat.blt 0 b) (k .nil [] [] .no) none
   |none=>none
  |_=>none
 |m+1=>match(T t).el with
  |some (e,b,_,_)=>match(T t).co with
   |some r=>match Ex ev hg r 0 c with
    |some (f,h,i)=>cond (beq b r.w && beq f.length (m+1) && Nat.ble ((m+1)*b) 16777216 && Nat.blt 0 b) (k (.ow d) ((d,some (.arr e r f true))::h) i (.one d)) none
    |none=>none
   |none=>none
  |none=>none
def Wx(T:EQ->bz)(ev:Nat->EV)(hg:Nat->At eh)(d:Nat)(t:EQ)(f:Nat)(h:AM)(k:EV->eW->a_->Fr->At a):At a:=
 match f with
 |0=>none
 |m+1=>match(T t).el with
  |some (e,b,_,_)=>match(T t).co with
   |some r=>match Ex ev hg r 0 h with
    |some (c,g,i)=>cond (beq b r.w && beq c.length (m+1) && Nat.ble ((m+1)*b) 16777216 && Nat.blt 0 b) (k (.ts r c) g i .no) none
    |none=>none
   |none=>none
  |none=>none
def I1(T:EQ->bz)(ev:Nat->EV)(hg:Nat->At eh)(d:Nat)(t:EQ)(x y:If)(k:EV->eW->a_->Fr->At a):At a:=
 match(T t).el with
 |some (e,h,b,_)=>match MA hg (eO ev y)with
  |some s=>cond (beq h s.r.w && Nat.blt 0 h) (match eO ev x with
   |.nil=>aW (er b [] s.xs) λc=>k (.ow d) ((d,some (.arr e s.r c true))::s.os) s.us (.one d)
   |.ts r f=>match eG (.sl r) (.sl s.r) f with
    |some g=>cond (rO s.xs) none (aW (er b (show Do s.r.c9 from g) s.xs) λc=>k (.ow d) ((d,some (.arr e s.r c true))::s.os) s.us (.one d))
    |none=>none
   |.ow j=>match hg j with
    |some (.arr i r f wr)=>match eG (.sl r) (.sl s.r) f with
     |some g=>cond (beq e i && !(s.us.contains j) && !(beq d j)) (aW (er b (show Do s.r.c9 from g) s.xs) λc=>k (.ow d) ((d,some (.arr e s.r c wr))::(j,none)::s.os) (j::s.us) (.one d)) none
     |none=>none
    |_=>none
   |_=>none) none
  |none=>none
 |none=>none
def adg(s:Sc)(c:EV):At s.c9:=match s with
 |.i k=>match c with
  |.sc b x=>eG b (.i k) x
  |_=>none
 |.b=>match c with
  |.sc b x=>eG b .b x
  |_=>none
 |.pr a e=>match c with
  |.ag f=>cond (Sc.key (.pr a e)) (match Wn (.pr a e) f with
   |some (x,[])=>some x
   |_=>none) none
  |_=>none
 |_=>none
def YE{x:I.c9}(h:adg I y=some x):enc y=enc (jG I x)/\(enc y).fz=false\/enc y=enc (jG I x)/\(enc y).fz=true:=by
 have:enc y=enc (jG I x):=by
  unfold adg at h;split at h
  .split at h
   .obtain⟨rfl,rfl⟩:=dm h;rfl
   .cases h
  .split at h
   .obtain⟨rfl,rfl⟩:=dm h;rfl
   .cases h
  .split at h
   .obtain⟨e,a⟩:=aY h
    split at a
    next j f=>cases a;obtain⟨g,b,c⟩:=Eu _ f e;rw[ax6]at b;subst b;simp only[enc,jG,c,gO]
    .cases a
   .cases h
  .cases h
 cases i:(enc y).fz with
 |true=>exact .inr ⟨this,rfl⟩
 |false=>exact .inl ⟨this,rfl⟩
def MB{h:Hp}:∀{cs:Do AV},(∀c∈cs,c.fz=true)->jb h cs=some (h,cs)
 |[],_=>rfl
 |c::cs,a=>by
  have e:=MB (h:=h) (cs:=cs) λc b=>a c (by simp[b]);simp only[jb,IW (a c d5),e]
def I2{h:Hp}(s:Sc)(x:s.c9):kx h (enc (jG s x))=some (h,enc (jG s x)):=by
 cases s with
 |pr a b=>
  simp only[jG,enc,gO,kx,MB (Oz (.pr a b) x)]
 |_=>rfl
def vo(hg:Nat->At eh)(c:EV):(r:Sc)->r.c9->Nat->Nat->At (r.c9×eW×a_)
 |.pr a b2,x,o,m=>cond (beq o 0 && beq m (a.w+b2.w)) (qG hg (.pr a b2) c) (cond (Nat.blt o a.w) (match vo hg c a x.1 o m with
  |some (y,b,e)=>some ((y,x.2),b,e)
  |none=>none) (match vo hg c b2 x.2 (o - a.w) m with
  |some (y,b,e)=>some ((x.1,y),b,e)
  |none=>none))
 |.i k,_,o,m=>cond (beq o 0 && beq m 1) (qG hg (.i k) c) none
 |.b,_,o,m=>cond (beq o 0 && beq m 1) (qG hg .b c) none
 |.sl r,_,o,m=>cond (beq o 0 && beq m 1) (qG hg (.sl r) c) none
 |.u,_,_,_=>none
def iw:∀(xs a b:Do AV) (o:Nat),o+xs.length<=a.length->setCells (a++b) o xs=setCells a o xs++b
 |[],a,b,o,h=>rfl
 |x::xs,a,b,o,h=>by
  simp only[axN]at h;simp only[setCells];rw[aCb _ _ bv];exact iw xs _ b (o+1) d7
def fA:∀(c a b:Do AV) (o:Nat),a.length<=o->setCells (a++b) o c=a++setCells b (o - a.length) c
 |[],a,b,o,h=>rfl
 |x::c,a,b,o,h=>by
  simp only[setCells];rw[aAO _ _ h,fA c a _ (o+1) bv];congr 2;omega
def rP:∀(b a:Do AV),b.length=a.length->setCells a 0 b=b
 |[],[],_=>rfl
 |x::b,y::a,h=>by
  simp only[setCells,aAr];have:=fA b [x] a 1 d5;simp only[ayI,azz,aAQ,axY]at this⊢;rw[this,rP b a (by simpa using h)]
def alN{hg:Nat->At eh}{h:Hp}(K:HC hg B h):∀(r:Sc) (x:r.c9) (o m:Nat) {c:r.c9} {l:eW} {s:a_},vo hg y r x o m=some (c,l,s)->(∀k,s.contains k=true->B.contains k=true)->
 (∃q f,kx h (enc y)=some (bE l++h,q)/\cellsOf q=some f/\f.all AV.one=true/\f.length=m/\o+m<=r.w/\pP (setCells (bJ r x) o f) (bJ r c))/\G5 hg l:=by
 have C:∀(r:Sc) (x:r.c9) (o m:Nat) {c:r.c9} {l:eW} {s:a_},beq o 0=true->beq m r.w=true->qG hg r y=some (c,l,s)->(∀k,s.contains k=true->B.contains k=true)->
  (∃q f,kx h (enc y)=some (bE l++h,q)/\cellsOf q=some f/\f.all AV.one=true/\f.length=m/\o+m<=r.w/\pP (setCells (bJ r x) o f) (bJ r c))/\G5 hg l:=by
  intro r x o m c l s e g L p;have e:=axu e;have g:=axu g;subst e g;obtain⟨⟨q,f,w,z,v,A⟩,E⟩:=FQ L K p;have J:f.length=r.w:=by rw[<-v.len,e6]
  refine⟨⟨q,f,w,z,A,J,bv,?_⟩,E⟩;rw[rP f _ (by rw[e6];exact J)];exact v
 intro r
 induction r with
 |pr a U N O=>
  intro x o m c l s j p;simp only[vo]at j;rcases bQ j with⟨e,g⟩|⟨e,g⟩
  .simp only[axo]at e
   exact C _ x o m e.1 e.2 g p
  .rcases bQ g with⟨H,t⟩|⟨H,t⟩
   .split at t
    next S Q R I=>simp only[axq,axI]at t;obtain⟨rfl,rfl,rfl⟩:=t;obtain⟨⟨q,f,w,z,v,A,E,F⟩,G⟩:=N x.1 o m I p;refine⟨⟨q,f,w,z,v,A,by simp only[Sc.w];omega,?_⟩,G⟩;simp only[bJ];rw[iw _ _ _ _ (by rw[e6];omega)];exact F.append (pP.refl _)
    .cases t
   .split at t
    next S Q R I=>
     simp only[axq,axI]at t;obtain⟨rfl,rfl,rfl⟩:=t;have V:a.w<=o:=by
      cases D:Nat.blt o a.w with
      |true=>rw[D]at H;cases H
      |false=>
       have:¬o<a.w:=λM=>by
        have:=aBw M;rw[show Nat.blt o a.w=Nat.ble (o+1) a.w from rfl]at D;rw[this]at D;cases D
       omega
     obtain⟨⟨q,f,w,z,v,A,E,F⟩,G⟩:=O x.2 (o - a.w) m I p;refine⟨⟨q,f,w,z,v,A,by simp only[Sc.w];omega,?_⟩,G⟩;simp only[bJ];rw[fA _ _ _ _ (by rw[e6];omega),e6];exact(pP.refl _).append F
    .cases t
 |i k=>
  intro x o m c l s j p;simp only[vo]at j;obtain⟨e,g⟩:=aY j;simp only[axo]at e;exact C _ x o m e.1 e.2 g p
 |b=>
  intro x o m c l s j p;simp only[vo]at j;obtain⟨e,g⟩:=aY j;simp only[axo]at e;exact C _ x o m e.1 e.2 g p
 |sl r W=>
  intro x o m c l s j p;simp only[vo]at j;obtain⟨e,g⟩:=aY j;simp only[axo]at e;exact C _ x o m e.1 e.2 g p
 |u=>
  intro x o m c l s j p;simp[vo]at j
def afZ:Oo->Int->In
 |none,_=>true
 |some (a,_),i=>decide (i.toNat=a.toNat)
def OM(T:EQ->bz)(ev:Nat->EV)(hg:Nat->At eh)(t:EQ)(x y:If)(k:eW->a_->At a):At a:=
 match(T t).ty with
 |some (_,m)=>match eO ev x with
  |.pt j o=>match hg j with
   |some (.box c e)=>match pQ (eO ev y)with
    |some xs=>cond (!(beq c Iz) && beq xs.length m && Nat.ble (o+m) e.length && (cg xs).all AV.one && owE hg (eO ev y) && xs.all (owE hg)) (k [(j,some (.box c (qI e o xs)))] (j::owU (eO ev y)++xs.flatMap owU)) none
    |none=>none
   |_=>none
  |.pe j i f o=>match hg j with
   |some (.arr c r xs true)=>cond (beq f r.w) (aW (aZ xs i) λb=>match vo hg (eO ev y) r b o m with
    |some (h,q,g)=>cond (g.contains j) none (k ((j,some (.arr c r (xs.set i.toNat h) true))::q) (j::g))
    |none=>none) none
   |some (.nr c r xs l)=>cond (beq f 1 && beq o 0 && beq m 1) (match eO ev y with
    |.ow p=>match hg p with
     |some (.arr _ _ _ _)=>cond (afZ l i) (aW (aZ xs i) λ_=>k [(j,some (.nr c r xs (some (i,some p))))] [j,p]) none
     |_=>none
    |_=>none) none
   |_=>none
  |_=>none
 |none=>none
def Bb(T:EQ->bz)(ev:Nat->EV)(hg:Nat->At eh)(t:EQ)(x y v:If)(k:eW->a_->At a):At a:=
 match eO ev x with
 |.mp j=>match hg j with
  |some (.mp d e f g)=>match(T t).mp with
   |some (h,_)=>match OI e (eO ev y)with
    |some c=>match adg f (eO ev v)with
     |some b=>cond (lV d e && lV h e) (k [(j,some (.mp d e f (dO e g c b)))] [j]) none
     |none=>none
    |none=>none
   |none=>none
  |_=>none
 |_=>none
def ao_:bH->In
 |[.slice none 0 0]=>true
 |_=>false
def I3(T:EQ->bz)(ev:Nat->EV)(d:Nat)(t:EQ)(x y:If)(k:EV->eW->a_->Fr->At a):At a:=
 match(T t).el with
 |some (e,f,b,z)=>match(T t).co with
  |some (.sl r)=>cond (beq f 1 && I0 x y && ao_ z) (match u4 ev x with
   |some c=>match u4 ev y with
    |some _=>aW (oD c b) λm=>k (.ow d) [(d,some (.nr e r (replicate m ([]:Do r.c9)) none))] [] (.one d)
    |none=>none
   |none=>none) none
  |_=>none
 |none=>none
def af0(T:EQ->bz)(ev:Nat->EV)(hg:Nat->At eh)(t:EQ)(j o:Nat)(e c f:jj)(k:EV->a_->At a):At a:=
 match(T t).ar with
 |some (n,_,b)=>match hg j with
  |some (.arr _ r g _)=>cond (beq o 0 && beq b r.w && f.isNone && Nat.ble n 1000000) (match loE ev e with
   |some l=>match hiE ev n c with
    |some h=>aW (j0 (replicate n ()) l h) λ_=>k (.sw j l (h - l) b) [j]
    |none=>none
   |none=>none) none
  |_=>none
 |none=>none
def adh(r:Sc):Nat->bH->In
 |0,z=>z.isEmpty
 |n+1,z=>match u0 r z with
  |some a=>adh r n a
  |none=>false
def exM(T:EQ->bz)(ev:Nat->EV)(hg:Nat->At eh)(d:Nat)(w:Op)(k:EV->eW->a_->Fr->At a):At a:=
 match w with
 |.box t x=>match pQ (eO ev x)with
  |some u=>cond (!(beq t Iz) && owE hg (eO ev x)) (k (.pt d 0) [(d,some (.box t u))] (owU (eO ev x)) (.one d)) none
  |none=>none
 |.alloc t=>cond (!(beq t Iz)) (match(T t).ze with
  |some z=>match(T t).ar with
   |some (n,_,g)=>cond (Nat.ble n 3) (k (.pt d 0) [(d,some (.box t (z.map cvE)))] [] (.one d)) (match(T t).co with
    |some r=>cond (beq g r.w && adh r n z && Nat.ble n 1000000) (k (.pt d 0) [(d,some (.arr t r (replicate n (zeroV r)) true))] [] (.one d)) none
    |none=>none)
   |none=>k (.pt d 0) [(d,some (.box t (z.map cvE)))] [] (.one d)
  |none=>none) none
 |.makeSlice t x y=>match(T t).el with
  |some (e,g,b,z)=>match(T t).co with
   |some r=>cond (beq g r.w && Nat.blt 0 g && I0 x y) (match u0 r z with
    |some []=>match u4 ev x with
     |some f=>match u4 ev y with
      |some _=>aW (oD f b) λm=>k (.ow d) [(d,some (.arr e r (replicate m (zeroV r)) true))] [] (.one d)
      |none=>none
     |none=>none
    |_=>none) none
   |none=>none
  |none=>none
 |.makeMap t none=>match(T t).mp with
  |some (s,_)=>match(T t).kv with
   |some (l,D)=>cond (lV s l) (k (.mp d) [(d,some (.mp s l D []))] [] (.one d)) none
   |none=>none
  |none=>none
 |.slice t x p i q=>match eO ev x with
  |.pt j o=>af0 T ev hg t j o p i q λc h=>k c [] h .no
  |_=>OL T ev hg t x p i q λc A h=>k c A h .no
 |.buildSlice t v B=>afY T ev hg d t v B.toList k
 |.call ⟨.builtin .append,⟨[x,y]⟩,⟨[t,C]⟩⟩=>cond (beq t C) (I1 T ev hg d t x y k) none
 |_=>none
section
variable{P:Fd}{T:EQ->bz}{ev:Nat->EV}{hg:Nat->At eh}{n d:Nat}{ty:EQ}{pos:String}{af:dM}{gd:fJ}
def FS.box{t:EQ}{x:If}{b:Do EV}(o:t≠Iz)(p:d<n)(c:pQ (eO ev x)=some b)(l:owE hg (eO ev x)=true):
 FS P ⟨some d,.box t x,ty,pos,af,gd⟩ n ev hg (.pt d 0) [(d,some (.box t b))] (owU (eO ev x)) (.one d):=by
 intro a q m j g;have i:a.ev x=enc (eO ev x):=m.is rfl (λe=>by rw[e]at c;simp[pQ,enc,AV.one]at c);have f:=Et c;rw[<-i]at f;have k:=rN (Rx f (g.x x));have:=SS.box (P:=P) (t:=t) (ty:=ty) (pos:=pos) (af:=af) (gd:=gd) (d:=d) (K:=λs=>s=⟨a.n,kz (some d) (.pt d 0) (c8 d a.t),bE [(d,some (.box t b))]++bx d a.h⟩) o f (by rw[i];exact OG l j λ_ h=>h) bv (by rw[k];rfl);exact SS.fresh g.t g.h this
def FS.alloc(c:gJ P T){t:EQ}{z:bH}(f:t≠Iz)(i:d<n)(g:(T t).ze=some z):
 FS P ⟨some d,.alloc t,ty,pos,af,gd⟩ n ev hg (.pt d 0) [(d,some (.box t (z.map cvE)))] [] (.one d):=by
 intro a j l h b;have e:=rN (Ry (λk=>k==d) z);have:=SS.alloc (P:=P) (st:=a) (t:=t) (ty:=ty) (pos:=pos) (af:=af) (gd:=gd) (d:=d) (K:=λs=>s=⟨a.n,kz (some d) (.pt d 0) (c8 d a.t),bE [(d,some (.box t (z.map cvE)))]++bx d a.h⟩) f (c.ze _ _ g) bv (by rw[e];simp only[bE,Option.map,cx,Rq];rfl);exact SS.fresh b.t b.h this
def rJ.rep{a c:Do AV}(h:pP a c):∀m,rJ (replicate m a) (replicate m c)
 |0=>.nil
 |m+1=>.cons h (rJ.rep h m)
def eU(r:Sc)(e:Do r.c9):∀c∈(List.map (bJ r) e).flatten,c.one=true:=by
 intro c a;obtain⟨l,b,a⟩:=azm.1 a;obtain⟨x,_,rfl⟩:=axC.1 b;exact qA r x c a
def FS.make(w:gJ P T){t e:EQ}{x y:If}{g b:Nat}{z:bH}{r:Sc}{a:Int}{m:Nat}(J:d<n)(A:(T t).el=some (e,g,b,z))(B:g=r.w)(v:0<g)(F:u0 r z=some [])(D:u4 ev x=some a)(E:u4 ev y=some a)(c:oD a b=some m):
 FS P ⟨some d,.makeSlice t x y,ty,pos,af,gd⟩ n ev hg (.ow d) [(d,some (.arr e r (replicate m (zeroV r)) true))] [] (.one d):=by
 intro f L o I l;unfold oD at c;split at c
 next k=>
  cases c;obtain⟨O,i,p,q,u⟩:=oN r F;rw[ax6]at i;subst i;obtain⟨M,G⟩:=kA D o;obtain⟨N,H⟩:=kA E o;have j:((a.toNat:Nat):Int)=a:=bv
  have:=SS.make (P:=P) (t:=t) (ty:=ty) (pos:=pos) (af:=af) (gd:=gd) (d:=d) (n:=a.toNat) (K:=λs=>s=⟨f.n,kz (some d) (.ow d) (c8 d f.t),[(d,some (.arr e g (replicate a.toNat (z.map mG)) true))]++bx d f.h⟩) (w.el _ _ A) (by rw[j];exact G) (by rw[j];exact H) k.2.1 k.2.2 q u v bv rfl;refine(SS.fresh l.t l.h this).mT ?_;subst B;have C:=rJ.rep p a.toNat;refine cA.A_ (h:=f.h) (rows':=List.map (bJ r) (replicate a.toNat (zeroV r))) ?_ (eU r _);rw[aBx];exact C
 .cases c
def Bc(c:AV):∀m:Nat,(replicate m [c]).flatten=replicate m c
 |0=>rfl
 |m+1=>by rw[ayY,ax1,Bc c m];rfl
def alP(h:ao_ F=true):F=[.slice none 0 0]:=by
 unfold ao_ at h;split at h
 .rfl
 .cases h
def Rz(G:gJ P T){k:EV->eW->a_->Fr->At a}{r:a}(S:d<n)(h:I3 T ev d b c e k=some r):
 ∃g C D t,FS P ⟨some d,.makeSlice b c e,ty,pos,af,gd⟩ n ev hg g C D t/\k g C D t=some r:=by
 unfold I3 at h;split at h
 next g X i z H=>
  split at h
  next N R=>
   obtain⟨u,j⟩:=aY h;simp only[axo]at u;obtain⟨⟨p,E⟩,q⟩:=u;have p:=axu p;have q:=alP q;subst p;subst q;split at j
   next f v=>
    split at j
    next O w=>
     obtain⟨m,l,I⟩:=br j;obtain rfl:=Ew E v w;refine⟨_,_,_,_,λo U B Q A=>?_,I⟩;unfold oD at l;split at l
     next y=>
      cases l;obtain⟨V,L⟩:=kA v B;obtain⟨W,M⟩:=kA w B;have x:((f.toNat:Nat):Int)=f:=bv
      have:=SS.make (P:=P) (t:=b) (ty:=ty) (pos:=pos) (af:=af) (gd:=gd) (d:=d) (n:=f.toNat) (K:=λs=>s=⟨o.n,kz (some d) (.ow d) (c8 d o.t),[(d,some (.arr g 1 (replicate f.toNat ([Value.slice none 0 0].map mG)) true))]++bx d o.h⟩) (G.el _ _ H) (by rw[x];exact L) (by rw[x];exact M) y.2.1 y.2.2 rfl rfl bv bv rfl;refine(SS.fresh A.t A.h this).mT ?_;refine cA.alL (h:=o.h) λRd e0 Y J=>?_;have:=J.ao2;have F:(replicate f.toNat ([Value.slice none 0 0].map mG)).flatten=Aa N (replicate f.toNat []) none:=by
       show(replicate f.toNat [AV.sl true 0 []]).flatten=_;rw[Bc,Aa,aBx];rfl
      rw[F]at this;exact this
     .cases l
    .cases j
   .cases j
  .cases h
 .cases h
def YF{r:Sc}:∀{n:Nat} {z:bH},adh r n z=true->∃a:Do bH,a.length=n/\a.flatten=z/\rJ (a.map (List.map mG)) (replicate n (bJ r (zeroV r)))/\∀y∈a,y.all (λv=>(mG v).one)=true
 |0,z,h=>by
  have:z=[]:=by simpa[adh]using h
  subst this;exact⟨[],rfl,rfl,.nil,λy b=>(by cases b)⟩
 |n+1,z,h=>by
  simp only[adh]at h;split at h
  next o k=>
   obtain⟨l,rfl,c,m,e⟩:=oN r k;obtain⟨a,f,g,i,j⟩:=YF h;refine⟨l::a,by simp[f],by simp[g],?_,λy b=>?_⟩
   .rw[axJ,ayY]
    exact .cons c i
   .rcases axP.1 b with rfl|b
    .exact e
    .exact j y b
  .cases h
def FS.IT(A:gJ P T){t:EQ}{z:bH}{m e:Nat}{r:Sc}(Q:d<n)(L:(T t).ze=some z)(o:e=r.w)(B:adh r m z=true)(R:m<=1000000):
 FS P ⟨some d,.alloc t,ty,pos,af,gd⟩ n ev hg (.pt d 0) [(d,some (.arr t r (replicate m (zeroV r)) true))] [] (.one d):=by
 intro g S I O l;obtain⟨i,p,u,k,w⟩:=YF B;have E:(i.map (List.map mG)).flatten=z.map mG:=by rw[<-u,List.map_flatten]
 have F:∀q∈i.map (List.map mG),q.length=e:=by
  have N:∀{a c:Do (Do AV)},rJ a c->(∀x∈c,x.length=e)->∀x∈a,x.length=e:=by
   intro a c C
   induction C with
   |nil=>intro _ x b;cases b
   |cons h I M=>
    intro f x b;rcases axP.1 b with rfl|b
    .rw[<-h.len];exact f _ d5
    .exact M (λy j=>f y (by simp[j])) x b
  refine N k λx b=>?_;rw[aB3 b,e6,o]
 have G:∀c∈(i.map (List.map mG)).flatten,c.one=true:=by
  intro c f;obtain⟨q,H,D⟩:=azm.1 f;obtain⟨y,j,rfl⟩:=axC.1 H;obtain⟨v,J,rfl⟩:=axC.1 D;exact axO.1 (w y j) v J
 have:=SS.IT (P:=P) (t:=t) (ty:=ty) (pos:=pos) (af:=af) (gd:=gd) (d:=d) (K:=λs=>s=⟨g.n,kz (some d) (.pt d 0) (c8 d g.t),[(d,some (.arr t e (i.map (List.map mG)) true))]++bx d g.h⟩) (A.ze _ _ L) F (by rw[axx,p]) E G (by unfold maxLen;omega) bv rfl;refine(SS.fresh l.t l.h this).mT ?_;subst o;refine cA.A_ (h:=g.h) (rows':=List.map (bJ r) (replicate m (zeroV r))) ?_ (eU r _);rw[aBx];exact k
def af1(C:gJ P T){k:EV->a_->At a}{r:a}{j o:Nat}{z y u:jj}(H:eO ev c=.pt j o)(h:af0 T ev hg b j o z y u k=some r):
 ∃f A,V4 P (.slice b c z y u) ev hg f A/\k f A=some r:=by
 unfold af0 at h;split at h
 next n e O G=>
  split at h
  next J N Q wr M=>
   obtain⟨x,g⟩:=aY h;clear h;simp only[axo]at x;obtain⟨⟨⟨i,K⟩,m⟩,v⟩:=x;have i:=axu i;subst i;have m:u=none:=by simpa using m
   subst m;have v:=axv v;split at g
   next l F=>
    split at g
    next p D=>
     obtain⟨q,s,E⟩:=br g;refine⟨_,_,λI d ty pos af gd t L=>?_,E⟩;unfold j0 at s;split at s
     next w=>
      rw[aAs]at w;have:=RS.ao1 (P:=P) (st:=I) (dd:=d) (ty:=ty) (pos:=pos) (af:=af) (gd:=gd) (C.ar _ _ G) (t.is H d8) (afW F t w.1) (afX D t bv) (l:=l.toNat) (h:=p.toNat) bv bv (by unfold maxLen;omega);have B:(p - l).toNat=p.toNat - l.toNat:=bv
      simp only[enc,B];exact this
     .cases s
    .cases g
   .cases g
  .cases h
 .cases h
def FS.makeMap(e:gJ P T){t:EQ}{b:TypeDesc}{z:Id}{g h:Sc}(j:d<n)(f:(T t).mp=some (b,z)):
 FS P ⟨some d,.makeMap t none,ty,pos,af,gd⟩ n ev hg (.mp d) [(d,some (.mp b g h []))] [] (.one d):=by
 intro a k l i c;have:=SS.makeMap (P:=P) (t:=t) (ty:=ty) (pos:=pos) (af:=af) (gd:=gd) (d:=d) (K:=λs=>s=⟨a.n,kz (some d) (.mp d) (c8 d a.t),[(d,some (.mp b []))]++bx d a.h⟩) (e.mp _ _ f) bv rfl;exact SS.fresh c.t c.h this
def Ey{b ys e:Do a}(h:er m b ys=some e):(b.length+ys.length)*m<=140737488355328/\b.length+ys.length<=maxLen/\e=b++ys:=by
 unfold er at h;split at h
 next c=>cases h;exact⟨c.1,c.2,rfl⟩
 .cases h
def RA(S:gJ P T){k:EV->eW->a_->Fr->At a}{r:a}(hd:d<n)(h:I1 T ev hg d b c e k=some r):
 ∃g Z us W,FS P ⟨some d,.call ⟨.builtin .append, #[c,e], #[b,b]⟩,ty,pos,af,gd⟩ n ev hg g Z us W/\k g Z us W=some r:=by
 unfold I1 at h;split at h
 next f N l z U=>
  split at h
  next s L=>
   obtain⟨R,t⟩:=aY h;clear h;simp only[axo]at R;have y:=axu R.1;have Q:0<N:=axv R.2;split at t
   next H=>
    obtain⟨zs,I,w⟩:=br t;obtain⟨C,D,rfl⟩:=Ey I;refine⟨_,_,_,_,?_,w⟩;intro st X x A v;obtain⟨E,F,G⟩:=Ba L A.hc λ_ h=>h;have:=SS.Ms (P:=P) (t:=b) (x:=c) (y:=e) (ty:=ty) (pos:=pos) (af:=af) (gd:=gd) (d:=d) (K:=λJ=>J=⟨st.n,kz (some d) (.ow d) (c8 d st.t),((d,some (.arr f N (List.map (bJ s.r) s.xs) true))::bE s.os)++bx d st.h⟩)
     (S.el _ _ U) (x.is H d9) (by rw[x.is rfl G,y];exact E) Q (by rw[axx];simpa using D) (by rw[axx];simpa using C) bv (by rw[vm d F];rfl)
    have o:=SS.fresh v.t v.h this;rw[y]at o;exact o
   next r' B H=>
    split at t
    next a7 m=>
     obtain⟨O,rfl⟩:=dm m;cases O;rcases bQ t with⟨_,o⟩|⟨Y,o⟩
     .cases o
     obtain⟨zs,I,w⟩:=br o;obtain⟨C,D,rfl⟩:=Ey I;refine⟨_,_,_,_,?_,w⟩;intro st X x A v;obtain⟨E,F,G⟩:=Ba L A.hc λ_ h=>h;have a1:0<s.xs.length:=by
      cases a5:s.xs with
      |nil=>rw[a5]at Y;cases Y
      |cons i aS=>simp
     have:=SS.Rl (P:=P) (t:=b) (x:=c) (y:=e) (ty:=ty) (pos:=pos) (af:=af) (gd:=gd) (d:=d) (rows:=List.map (bJ s.r) B) (K:=λJ=>J=⟨st.n,kz (some d) (.ow d) (c8 d st.t),((d,some (.arr f N (List.map (bJ s.r) B++List.map (bJ s.r) s.xs) true))::bE s.os)++bx d st.h⟩)
      (S.el _ _ U) (by rw[x.is H d9,y];rfl) (by rw[x.is rfl G,y];exact E) (by rw[axx];exact a1) Q (by simp only[axx];exact D) (by simp only[axx];exact C) bv (by rw[vm d F];rfl)
     have o:=SS.fresh v.t v.h this;rw[y,<-aya]at o;exact o
    .cases t
   next j H=>
    split at t
    next e' r' B wr hj=>
     split at t
     next a7 m=>
      obtain⟨O,rfl⟩:=dm m;cases O;obtain⟨q,o⟩:=aY t;simp only[axo,ayC]at q;obtain⟨⟨V,q2⟩,M⟩:=q;have V:=axu V;subst V;have M:d≠j:=λf=>by rw[f,axX]at M;cases M
      obtain⟨zs,I,w⟩:=br o;obtain⟨C,D,rfl⟩:=Ey I;refine⟨_,_,_,_,?_,w⟩;intro st X x A v;have a4:∀k,s.us.contains k=true->(j::s.us).contains k=true:=λk w=>by simp at w⊢;exact .inr w
      obtain⟨E,F,G⟩:=Ba L A.hc a4;have a0:bc (bE s.os++st.h) j=some (.arr f s.r.w (List.map (bJ s.r) B) wr):=by
       rw[eB,HA];have a2:s.os.any (λp=>p.1==j)=false:=by
        have a6:∀g,MA hg g=some s->∀p∈s.os,s.us.contains p.1=true:=by
         intro g m p u;unfold MA at m;split at m
         .simp only[axq]at m;rw[<-m]at u;cases u
         .simp only[axq]at m;rw[<-m]at u;cases u
         .split at m
          .simp only[axq]at m
           rw[<-m]at u⊢;simp at u;simp[u]
          .cases m
         .cases m
        cases ha:s.os.any (λp=>p.1==j)with
        |false=>rfl
        |true=>
         obtain⟨p,u,a3⟩:=ay7.1 ha;have:=a6 _ L p u;rw[show p.1=j by simpa using a3]at this;rw[this]at q2;cases q2
       rw[a2];exact A.at d5 hj
      have:=SS.Rk (P:=P) (t:=b) (x:=c) (y:=e) (ty:=ty) (pos:=pos) (af:=af) (gd:=gd) (d:=d) (k:=j) (rows:=List.map (bJ s.r) B) (wr:=wr) (K:=λJ=>J=⟨st.n,kz (some d) (.ow d) (c8 d st.t),((d,some (.arr f N (List.map (bJ s.r) B++List.map (bJ s.r) s.xs) wr))::(j,none)::bE s.os)++bx d st.h⟩)
       (S.el _ _ U) (x.is H d9) (by rw[x.is rfl G,y];exact E) (by rw[y];exact a0) M Q (by simp only[axx];exact D) (by simp only[axx];exact C) bv (by rw[vm d F];rfl)
      have o:=SS.fresh v.t v.h this;rw[y,<-aya]at o;exact o
     .cases t
    .cases t
   .cases t
  .cases h
 .cases h
def RC{h c e:Hp}(a:kx h s=some (c,R))(b:pH c i=some (e,u)):pH h (s::i)=some (e,R::u):=by
 simp only[pH,a,b]
def Ez{r:Sc}:∀{t:AM} {j:Nat} {m:Do r.c9} {l:eW} {u w:a_} {st:St} {h:Hp},Ex ev hg r j t=some (m,l,u)->Sk ev st->HC hg w h->(∀k,u.contains k=true->w.contains k=true)->
 ∃s f,pH h (t.map λp=>st.ev p.2)=some (bE l++h,s)/\mi (t.map (·.1)) s=some f/\G5 hg l/\f.length=m.length/\rJ (f.map (·.2)) (List.map (bJ r) m)/\(∀q∈f,q.2.all AV.one=true)/\∀i q,f[i]? =some q->q.1=j+i
 |[],j,m,l,u,w,st,h,a,A,y,B=>by
  simp only[Ex,axq,axI]at a;obtain⟨rfl,rfl,rfl⟩:=a;exact⟨[],[],rfl,rfl,λk o c=>(by cases c),rfl,.nil,λq b=>(by cases b),λi q b=>(by simp at b)⟩
 |(i,x)::t,j,m,l,u,w,st,h,a,A,y,B=>by
  simp only[Ex]at a;obtain⟨z,a⟩:=aY a;have z:=axu z;split at a
  next v W Y C=>
   split at a
   next a0 X Z K=>
    simp only[axq,axI]at a;obtain⟨rfl,rfl,rfl⟩:=a;obtain⟨⟨F,V,G,H,I,J⟩,E⟩:=FQ C y (λk g=>B k (by simp at g⊢;exact .inl g));obtain⟨s,f,M,N,O,Q,R,S,U⟩:=Ez (st:=st) K A (y.put E λk h=>h) (λk g=>B k (by simp at g⊢;exact .inr g));have L:st.ev x=enc (eO ev x):=A.is rfl (λe=>by
     rw[e]at C;cases r<;>simp[qG,oM,Mx]at C)
    refine⟨F::s,(i,V)::f,?_,?_,λk o c=>?_,by simp[Q],.cons I R,?_,?_⟩
    .rw[axJ,fL,axS]
     exact RC (by rw[L];exact G) M
    .simp only[axJ,mi,H,N]
    .rcases axy.1 c with c|c
     .exact O k o c
     .exact E k o c
    .intro q b
     rcases axP.1 b with rfl|b
     .exact J
     .exact S q b
    .intro D q b
     cases D with
     |zero=>simp at b;subst b;simpa using z
     |succ D=>
      have:=U D q (by simpa using b);omega
   .cases a
  .cases a
def EA{sz:Nat}:∀(a:Do (Nat×Do AV)) (b:Do AV) (j:Nat),b.length=j*sz->(∀i q,a[i]? =some q->q.1=j+i/\q.2.length=sz)->
 gI (λi=>some (i*sz,sz)) (b++replicate (a.length*sz) .un) a=some (b++(a.map (·.2)).flatten)
 |[],b,j,e,f=>by simp[gI]
 |(i,xs)::a,b,j,e,f=>by
  obtain⟨g,c⟩:=f 0 (i,xs) rfl;simp only[ayO]at g;subst g;have k:replicate ((a.length+1)*sz) AV.un=replicate sz .un++replicate (a.length*sz) .un:=by
   rw[List.replicate_append_replicate];congr 1;rw[ax2];omega
  have l:setCells (b++replicate ((a.length+1)*sz) AV.un) (i*sz) xs=(b++xs)++replicate (a.length*sz) .un:=by
   rw[k,fA _ _ _ _ bv,e,aAQ,iw _ _ _ _ (by simp only[aAs];simp only at c;omega),rP _ _ (by simp only[aAs];simp only at c;omega),axS]
  simp only[axN,gI];rw[axn ⟨c,by simp only[axG,aAs,e,ax2];omega⟩,l];have:=EA (sz:=sz) a (b++xs) (i+1) (by simp only at c;simp only[axG,e,c,ax2];omega) (λm q h=>by
   have:=f (m+1) q (by simpa using h);exact⟨bv,this.2⟩)
  rw[this];simp
def Ae{sz:Nat}:∀(a:Do (Do AV)),(∀r∈a,r.length=sz)->chunk sz a.length a.flatten=a
 |[],_=>rfl
 |r::a,h=>by
  have b:=h r d5;simp only[axN,chunk,ax1];rw[aAc b,List.drop_left' b,Ae a λx c=>h x (by simp[c])]
def af2(Q:gJ P T){B:Ix}{k:EV->eW->a_->Fr->At a}{r:a}(hd:d<n)(h:afY T ev hg d b m B.toList k=some r):
 ∃c u M N,FS P ⟨some d,.buildSlice b m B,ty,pos,af,gd⟩ n ev hg c u M N/\k c u M N=some r:=by
 unfold afY at h;split at h
 .split at h
  next S=>
   split at h
   next e p j z G=>obtain⟨w,F⟩:=aY h;refine⟨_,_,_,_,λst hn I O A=>?_,F⟩;have Y:0<p:=axv w;have:=SS.buildSlice (P:=P) (t:=b) (len:=0) (parts:=B) (ty:=ty) (pos:=pos) (af:=af) (gd:=gd) (d:=d) (h':=st.h) (aS:=[]) (qs:=[]) (cs:=[]) (K:=λL=>L=⟨st.n,(d,.sl true p [])::st.t,st.h⟩) (Q.el _ _ G) (by rw[S];rfl) (by rw[S];rfl) (by simp[gI]) rfl d5 Y bv rfl;exact this.mT (cA.wkT Wk.Wi)
   .cases h
  .cases h
 next g=>
  split at h
  next e p j z G=>
   split at h
   next W a5=>
    split at h
    next vs u M hv=>
     obtain⟨w,F⟩:=aY h;simp only[axo]at w;obtain⟨⟨⟨v,C⟩,D⟩,E⟩:=w;have v:=axu v;have C:=axu C;have D:=axv D;have E:0<p:=axv E;refine⟨_,_,_,_,λst hn I O A=>?_,F⟩;obtain⟨X,s,q1,q2,q3,q4,J,q6,q7⟩:=Ez (st:=st) hv I O.hc λ_ h=>h;have V:∀q∈s,q.2.length=p:=λq t=>by
      obtain⟨i,hi,rfl⟩:=ayb t;have A:=J.flat;have:∀(f c:Do (Do AV)),rJ f c->(∀x∈c,x.length=p)->∀x∈f,x.length=p:=by
       intro f c Z
       induction Z with
       |nil=>simp
       |cons h I ih=>
        intro R x o;rcases axP.1 o with rfl|o
        .rw[<-h.len];exact R _ d5
        .exact ih (λy hy=>R y (by simp[hy])) x o
      exact this _ _ J (λx o=>by obtain⟨y,_,rfl⟩:=axC.1 o;rw[e6,v]) _ (axC.2 ⟨_,azR hi,rfl⟩)
     have H:=EA (sz:=p) s [] 0 d5 (λi q t=>⟨q7 i q t,V q (axB t)⟩);simp only[ax3]at H;have U:s.length=g+1:=by rw[q4,C]
     rw[U]at H;have a0:chunk p (g+1) (s.map (·.2)).flatten=s.map (·.2):=by
      have:=Ae (sz:=p) (s.map (·.2)) (λx o=>by obtain⟨q,t,rfl⟩:=axC.1 o;exact V q t);rw[axx,U]at this;exact this
     have:=SS.AZ (P:=P) (t:=b) (len:=g+1) (parts:=B) (ty:=ty) (pos:=pos) (af:=af) (gd:=gd) (d:=d) (h':=bE u++st.h) (aS:=X) (qs:=s) (cs:=(s.map (·.2)).flatten) (K:=λL=>L=⟨st.n,kz (some d) (.ow d) (c8 d st.t),((d,some (.arr e p (s.map (·.2)) true))::bE u)++bx d st.h⟩) (Q.el _ _ G) q1 q2 H (by
      rw[axO];intro x o;obtain⟨l,hl,o⟩:=azm.1 o;obtain⟨q,t,rfl⟩:=axC.1 hl;exact axO.1 (q6 q t) x o) D E bv (by rw[a0,vm d q3];rfl)
     refine(SS.fresh A.t A.h this).mT ?_;subst v;exact cA.A_ (h:=bE u++st.h) (rows':=List.map (bJ W) vs) J (eU W _)
    .cases h
   .cases h
  .cases h
def adi(R:gJ P T){D:Ix}{k:EV->eW->a_->Fr->At a}{r:a}(hd:d<n)(h:Wx T ev hg d b m D.toList k=some r):
 ∃c u F G,FS P ⟨some d,.buildSlice b m D,ty,pos,af,gd⟩ n ev hg c u F G/\k c u F G=some r:=by
 unfold Wx at h;split at h
 .cases h
 next g=>
  split at h
  next e t j z V=>
   split at h
   next rc a0=>
    split at h
    next vs u F Z=>
     obtain⟨H,O⟩:=aY h;simp only[axo]at H;obtain⟨⟨⟨v,w⟩,A⟩,B⟩:=H;have v:=axu v;have w:=axu w;have A:=axv A;have B:0<t:=axv B;refine⟨_,_,_,_,λst hn L Q W=>?_,O⟩;obtain⟨N,p,q1,q2,q3,q4,E,q6,q7⟩:=Ez (st:=st) Z L Q.hc λ_ h=>h;have M:∀q∈p,q.2.length=t:=λq s=>by
      obtain⟨i,X,rfl⟩:=ayb s;have W:=E.flat;have:∀(f c:Do (Do AV)),rJ f c->(∀x∈c,x.length=t)->∀x∈f,x.length=t:=by
       intro f c S
       induction S with
       |nil=>simp
       |cons h L ih=>
        intro I x o;rcases axP.1 o with rfl|o
        .rw[<-h.len];exact I _ d5
        .exact ih (λy hy=>I y (by simp[hy])) x o
      exact this _ _ E (λx o=>by obtain⟨y,_,rfl⟩:=axC.1 o;rw[e6,v]) _ (axC.2 ⟨_,azR X,rfl⟩)
     have C:=EA (sz:=t) p [] 0 d5 (λi q s=>⟨q7 i q s,M q (axB s)⟩);simp only[ax3]at C;have J:p.length=g+1:=by rw[q4,w]
     rw[J]at C;have U:chunk t (g+1) (p.map (·.2)).flatten=p.map (·.2):=by
      have:=Ae (sz:=t) (p.map (·.2)) (λx o=>by obtain⟨q,s,rfl⟩:=axC.1 o;exact M q s);rw[axx,J]at this;exact this
     have:=SS.buildSlice (P:=P) (t:=b) (len:=g+1) (parts:=D) (ty:=ty) (pos:=pos) (af:=af) (gd:=gd) (d:=d) (h':=bE u++st.h) (aS:=N) (qs:=p) (cs:=(p.map (·.2)).flatten) (K:=λs'=>s'=⟨st.n,(d,.sl true t (p.map (·.2)))::st.t,bE u++st.h⟩) (R.el _ _ V) q1 q2 C (by
      rw[axO];intro x o;obtain⟨l,Y,o⟩:=azm.1 o;obtain⟨q,s,rfl⟩:=axC.1 Y;exact axO.1 (q6 q s) x o) A B bv (by rw[U])
     refine this.mT (cA.wkT ?_);rw[v];exact Wk.rows E (eU rc vs)
    .cases h
   .cases h
  .cases h
def Af(p:gJ P T){A:Op}{k:EV->eW->a_->Fr->At a}{r:a}(l:d<n)(h:exM T ev hg d A k=some r):
 ∃c s q w,FS P ⟨some d,A,ty,pos,af,gd⟩ n ev hg c s q w/\k c s q w=some r:=by
 unfold exM at h;split at h
 .split at h
  next J t=>obtain⟨i,g⟩:=aY h;simp only[axo]at i;exact⟨_,_,_,_,FS.box (Es i.1) l t i.2,g⟩
  .cases h
 .obtain⟨v,h⟩:=aY h
  have v:=Es v;split at h
  next z u=>
   split at h
   next m e I K=>
    rcases bQ h with⟨_,h⟩|⟨_,h⟩
    .exact⟨_,_,_,_,FS.alloc p v l u,h⟩
    .split at h
     next H M=>obtain⟨i,g⟩:=aY h;simp only[axo]at i;exact⟨_,_,_,_,FS.IT p l u (axu i.1.1) i.1.2 (axv i.2),g⟩
     .cases h
   .exact⟨_,_,_,_,FS.alloc p v l u,h⟩
  .cases h
 .split at h
  next e I b z E=>
   split at h
   next H t=>
    obtain⟨i,g⟩:=aY h;clear h;simp only[axo]at i;obtain⟨⟨B,C⟩,D⟩:=i;split at g
    next u=>
     split at g
     next f y=>
      split at g
      next c t=>obtain⟨m,x,F⟩:=br g;have:=Ew D y t;subst this;exact⟨_,_,_,_,FS.make p l E (axu B) (axv C) u y t x,F⟩
      .cases g
     .cases g
    .cases g
   .cases h
  .cases h
 .split at h
  next O z x=>
   split at h
   next N Q L=>obtain⟨i,g⟩:=aY h;exact⟨_,_,_,_,FS.makeMap p l x,g⟩
   .cases h
  .cases h
 .split at h
  next j o G=>obtain⟨c,q,i,g⟩:=af1 p G h;exact⟨c,_,q,_,FS.read i l,g⟩
  .obtain⟨c,s,q,i,g⟩:=Ww p l h
   exact⟨c,s,q,_,i,g⟩
 .obtain⟨c,s,q,w,i,g⟩:=af2 p l h
  exact⟨c,s,q,_,i,g⟩
 .obtain⟨i,g⟩:=aY h
  have:=axu i;subst this;exact RA p l g
 .cases h
def rJ.set(a:Nat)(b:pP i u):rJ (h.set a i) (h.set a u):=by
 induction h generalizing a with
 |nil=>exact .nil
 |cons r h c=>
  cases a with
  |zero=>exact .cons b (rJ.refl h)
  |succ a=>exact .cons (pP.refl r) (c a)
def qN{hg:Nat->At eh}{x:I.c9}{b:eW}(h:oM hg I y=some (x,b,B)):∀p∈b,B.contains p.1=true:=by
 unfold oM at h;split at h
 .split at h
  .split at h
   .simp only[axq,axI]at h
    obtain⟨_,rfl,rfl⟩:=h;intro p a;simp at a;simp[a]
   .cases h
  .cases h
 .split at h
  .simp only[axq,axI]at h
   obtain⟨_,rfl,rfl⟩:=h;intro p a;cases a
  .cases h
def Bd{hg:Nat->At eh}:∀(s:Sc) {j f:Do EV} {x:s.c9} {b:eW} {e:a_},iS hg s j=some (x,f,b,e)->∀p∈b,e.contains p.1=true
 |.pr a c,j,f,x,b,e,h=>by
  simp only[iS]at h;split at h
  next g=>
   split at h
   next l=>
    simp only[axq,axI]at h;obtain⟨_,_,rfl,rfl⟩:=h;intro p i;simp only[aAR,axy,ayd];rcases axy.1 i with i|i
    .have:=Bd c l p i;simp at this;exact .inr this
    .have:=Bd a g p i;simp at this;exact .inl this
   .cases h
  .cases h
 |.u,j,f,x,b,e,h=>by
  simp only[iS,axq,axI]at h;obtain⟨_,_,rfl,rfl⟩:=h;intro p i;cases i
 |.i k,[],f,x,b,e,h=>by simp[iS]at h
 |.b,[],f,x,b,e,h=>by simp[iS]at h
 |.sl r,[],f,x,b,e,h=>by simp[iS]at h
 |.i k,c::j,f,x,b,e,h=>by
  simp only[iS]at h;split at h
  next g=>simp only[axq,axI]at h;obtain⟨_,_,rfl,rfl⟩:=h;exact qN g
  .cases h
 |.b,c::j,f,x,b,e,h=>by
  simp only[iS]at h;split at h
  next g=>simp only[axq,axI]at h;obtain⟨_,_,rfl,rfl⟩:=h;exact qN g
  .cases h
 |.sl r,c::j,f,x,b,e,h=>by
  simp only[iS]at h;split at h
  next g=>simp only[axq,axI]at h;obtain⟨_,_,rfl,rfl⟩:=h;exact qN g
  .cases h
def RD{hg:Nat->At eh}{x:I.c9}{b:eW}(h:qG hg I y=some (x,b,B)):∀p∈b,B.contains p.1=true:=by
 unfold qG at h;split at h
 .split at h
  .split at h
   next a=>simp only[axq,axI]at h;obtain⟨_,rfl,rfl⟩:=h;exact Bd _ a
   .cases h
  .split at h
   next a=>simp only[axq,axI]at h;obtain⟨_,rfl,rfl⟩:=h;exact Bd _ a
   .cases h
  .cases h
 .split at h
  .cases h
  .cases h
  .exact qN h
  .exact qN h
  .exact qN h
def alQ{hg:Nat->At eh}:∀(r:Sc) (x:r.c9) (o m:Nat) (b:r.c9) (c:eW) (e:a_),vo hg y r x o m=some (b,c,e)->∀p∈c,e.contains p.1=true:=by
 intro r
 induction r with
 |pr a j g i=>
  intro x o m b c e h;simp only[vo]at h;rcases bQ h with⟨_,h⟩|⟨_,h⟩
  .exact RD h
  .rcases bQ h with⟨_,h⟩|⟨_,h⟩
   .split at h
    next f=>simp only[axq,axI]at h;obtain⟨_,rfl,rfl⟩:=h;exact g _ _ _ _ _ _ f
    .cases h
   .split at h
    next f=>simp only[axq,axI]at h;obtain⟨_,rfl,rfl⟩:=h;exact i _ _ _ _ _ _ f
    .cases h
 |u=>intro x o m b c e h;simp[vo]at h
 |_=>
  intro x o m b c e h;simp only[vo]at h;obtain⟨_,h⟩:=aY h;exact RD h
def Wy(L:gJ P T){k:eW->a_->At a}{r:a}(h:OM T ev hg b c e k=some r):
 ∃v A,FS P ⟨none,.store b c e,ty,pos,af,gd⟩ n ev hg .un v A .no/\k v A=some r:=by
 unfold OM at h;split at h
 next ag m N=>
  split at h
  next j o H=>
   split at h
   next G R C=>
    split at h
    next w O=>
     obtain⟨x,y⟩:=aY h;simp only[axo]at x;obtain⟨⟨⟨⟨⟨a0,F⟩,I⟩,J⟩,a4⟩,a5⟩:=x;refine⟨_,_,λst Z z u X=>?_,y⟩;have E:st.ev e=enc (eO ev e):=z.is rfl (λf=>by rw[f]at O;simp[pQ,enc,AV.one]at O);have U:=Et O;rw[<-E]at U;refine SS.qp (Es a0) (z.is H d9) (u.at d5 C) (L.ty _ _ N) U (by rw[fK];exact axu F) J (by rw[E];exact OG a4 u (λk s=>by simp at s⊢;exact .inr (.inl s))) ?_ (by rw[fK];exact axv I) ?_
     .rw[axO]
      intro l V;rw[dW]at V;obtain⟨Q,W,rfl⟩:=axC.1 V;refine OG (axO.1 a5 Q W) u λk s=>?_;simp only[aAR,axP,axy,ayJ,ayd]at s⊢;exact .inr ⟨Q,W,s⟩
     .simp only[bE,Option.map,cx,rL];rfl
    .cases h
   .cases h
  next j i sz o H=>
   split at h
   next G t w C=>
    obtain⟨x,y⟩:=aY h;have F:=axu x;obtain⟨g,B,s⟩:=br y;obtain⟨i0,B⟩:=eM B;split at s
    next a' v A D=>
     rcases bQ s with⟨_,s⟩|⟨a6,s⟩
     .cases s
     refine⟨_,_,λst Z z u X=>?_,s⟩;have aj:∀k,A.contains k=true->(j::A).contains k=true:=λk s=>by simp at s⊢;exact .inr s
     obtain⟨⟨c1,R,S,g2,g3,g4,g5,g6⟩,g7⟩:=alN u.hc t g o m D aj;have E:st.ev e=enc (eO ev e):=z.is rfl (λf=>by
      rw[f]at S;have ad:∀(r:Sc) (c:r.c9) (o m:Nat),vo hg .un r c o m=none:=by
       intro r
       induction r with
       |pr g b2 ak al=>
        intro c o m;simp only[vo,ak,al,qG,Bool.cond_self]
       |_=>intro c o m;simp[vo,qG,oM,Mx]
      rw[f,ad]at D;cases D)
     have aa:bc (bE v++st.h) j=some (.arr G t.w (List.map (bJ t) w) true):=by
      have hb:=(u.hc.put g7 λk h=>h) j d5 _ _ _ _ C;rw[eB,HA];cases a9:v.any (λp=>p.1==j)with
      |false=>exact u.at d5 C
      |true=>
       exfalso;obtain⟨p,ae,ah⟩:=ay7.1 a9;have am:∀(r:Sc) (c:r.c9) (o m:Nat) (y':r.c9) (v:eW) (A:a_),vo hg (eO ev e) r c o m=some (y',v,A)->∀p∈v,A.contains p.1=true:=alQ;have:=am _ _ _ _ _ _ _ D p ae;rw[show p.1=j by simpa using ah]at this;rw[this]at a6;cases a6
     have ai:(List.map (bJ t) w)[i.toNat]? =some (bJ t g):=by rw[axM,B];rfl
     subst F;have:=SS.afV (P:=P) (t:=b) (x:=c) (y:=e) (ty:=ty) (pos:=pos) (af:=af) (gd:=gd) (K:=λs'=>s'=⟨st.n,st.t,(j,some (.arr G t.w ((List.map (bJ t) w).set i.toNat (setCells (bJ t g) o R)) true))::(bE v++st.h)⟩)
      (z.is H d9) (by rw[E];exact S) aa ai (L.ty _ _ N) g2 g4 g3 g5 rfl
     refine this.mT ?_;refine cA.A_ (h:=bE v++st.h) ?_ (eU t _);rw[azk];exact rJ.set _ g6
    .cases s
   next G t w M C=>
    obtain⟨x,y⟩:=aY h;simp only[axo]at x;have F:=axu x.1.1;have I:=axu x.1.2;have J:=axu x.2;subst F;subst I;subst J;split at y
    next p E=>
     split at y
     next t2 r2 ys wr2 D=>
      obtain⟨Y,h3⟩:=aY y;obtain⟨g,B,s⟩:=br h3;obtain⟨i0,B⟩:=eM B;refine⟨_,_,λst Z z u X=>?_,s⟩;have a7:bc st.h p=some (cx (.arr t2 r2 ys wr2)):=u.at d5 D;have ac:i.toNat<w.length:=(axs.1 B).1;have a8:st.ev e=.ow p:=z.is E d9;have ab:(Aa t w M).length=w.length:=by
       unfold Aa;split<;>simp
      refine SS.Oy (z.is H d9) (u.at d5 C) (L.ty _ _ N) (by rw[a8];rfl) rfl (by rw[a8];simp only[qq,a7,cx]) (by simp only[qq,a7,cx]) (by rw[ab];exact ac) ?_;have:(Aa t w M).set i.toNat (.ow p)=Aa t w (some (i,some p)):=by
       unfold afZ at Y;cases M with
       |none=>rfl
       |some q=>
        obtain⟨i1,q⟩:=q;have:i.toNat=i1.toNat:=ayh Y;simp only[Aa,<-this,aBv,nrH]
      simp only[bE,Option.map,cx,this];rfl
     .cases y
    .cases y
   .cases h
  .cases h
 .cases h
def FR(B:gJ P T){x y v:If}{k:eW->a_->At a}{r:a}(h:Bb T ev hg b x y v k=some r):
 ∃s t,FS P ⟨none,.mapUpdate b x y v,ty,pos,af,gd⟩ n ev hg .un s t .no/\k s t=some r:=by
 unfold Bb at h;split at h
 next j G=>
  split at h
  next L K l M D=>
   split at h
   next Q z E=>
    split at h
    next g m=>
     split at h
     next f o=>
      obtain⟨i,w⟩:=aY h;simp only[axo]at i;have C:=qM i.1 i.2;subst C;obtain⟨I,J⟩:=vk i.1 g;refine⟨_,_,λq O p A N=>?_,w⟩;have u:enc (eO ev v)=enc (jG l f):=by rcases YE o with h|h<;>exact h.1
      have F:q.ev v=enc (eO ev v):=p.is rfl (λe=>by rw[e]at o;cases l<;>simp[adg]at o);have H:q.ev y=enc (eO ev y):=p.is rfl (λe=>by rw[e]at m;cases K<;>simp[OI,Mx]at m);refine SS.mapUpdate (B.mp _ _ E) (p.is G d8) (h1:=q.h) (c:=enc (jG l f)) (by rw[F,u];exact I2 l f) (A.at d5 D) (by rw[H];exact A0 i.1 m) I ?_;simp only[bE,Option.map,cx];rw[IV J];rfl
     .cases h
    .cases h
   .cases h
  .cases h
 .cases h
end
section
open Go Go.RowKit MapKept
section
def RE(rows:Do a)(l m:Nat)(z:a):Do a:=rows.take l++(replicate m z++rows.drop (l+m))
def RF(b:Do a)(l:Nat)(z:a):RE b l 0 z=b:=by simp[RE]
def af3{b:Do a}{l m:Nat}{z:a}(h:l<b.length):RE (b.set l z) (l+1) m z=RE b l (m+1) z:=by
 unfold RE;have c:(b.set l z).take (l+1)=b.take l++[z]:=by
  rw[List.take_succ_eq_append_getElem (by simpa using h)];rw[aAC,List.getElem_set_self,List.set_eq_of_length_le (by rw[ax9];exact Nat.min_le_left _ _)]
 have e:(b.set l z).drop (l+1+m)=b.drop (l+(m+1)):=by
  rw[List.drop_set_of_lt bv,show l+1+m=l+(m+1) by omega]
 rw[c,e,ayY];simp
def FT{α:Type}:∀(xs A B:Do α),xs.length=B.length->setCells (A++B) A.length xs=A++xs
 |[],A,B,h=>by
  have:B=[]:=ayn h.symm;subst this;rfl
 |x::xs,A,[],h=>by simp at h
 |x::xs,A,y::B,h=>by
  have e:(A++y::B).set A.length x=(A++[x])++B:=by rw[aAO _ _ (axp _)];simp
  rw[setCells,e,show A.length+1=(A++[x]).length by simp,FT xs (A++[x]) B (by simpa using h)];simp
def RG{b B:Do a}(h:b.length=B.length):setCells B 0 b=b:=FT b [] B h
section
variable{P:Fd}
def k8{a:Addr}{b:GE}:∀{us vs:bH} {i:Nat} {w:GE},(storeCells a us i).run P w=.ok () b->(storeCells a (us++vs) i).run P w=(storeCells a vs (i+us.length)).run P b
 |[],vs,i,w,h=>by
  have:w=b:=by simpa[storeCells]using h
  subst this;rfl
 |u::us,vs,i,w,h=>by
  simp only[storeCells,ayB,axE]at h⊢;cases c:(store (a.add i) u).run P w with
  |ok x e=>
   rw[c]at h;simp only[axF]at h⊢;rw[k8 h,axN,show i+1+us.length=i+(us.length+1) by omega]
  |_=>rw[c]at h;cases h
def Ga.clear{x:Bs}{s:bI}{k b:Nat}{t:EQ}{r:Nat}{zs:bH}(D:zs.all (λv=>(mG v).one)=true)(p:zs.length=r):∀(m l:Nat) {st:St} {e:Env} {a:Act} {w:GE} {f:Do (Do AV)} (h:Ga x s e st a w) (n:bc st.h k=some (.arr t r f true)) (o:e.bX k=some b)
 (z:l+m<=f.length) (q g:Nat) (B:g+q=l*r),
 ∃H F u,(storeCells ⟨b,g,none⟩ (replicate m zs).flatten q).run P w=.ok () F/\Ga x s H ⟨st.n,st.t,u⟩ a F/\bc u k=some (.arr t r (RE f l m (zs.map mG)) true)/\∀j,j≠k->bc u j=bc st.h j
 |0,l,st,e,a,w,f,h,n,o,z,q,g,B=>⟨e,w,st.h,rfl,h,by rw[RF];exact n,λ_ _=>rfl⟩
 |m+1,l,st,e,a,w,f,h,n,o,z,q,g,B=>by
  have A:l<f.length:=bv
  have C:f[l]? =some f[l]:=axz A;have R:=(h.sr.ob _ _ n).1 _ (axB C);have O:LR (VR (bS x s e st.h w) none) (zs.map mG) zs:=AR zs;obtain⟨Z,w1,h1,W,J,E,U,G⟩:=Ga.u_ (P:=P) (i:=l) (zs.map mG) zs 0 h n o C O (λc N=>by
   obtain⟨v,Q,rfl⟩:=axC.1 N;exact axO.1 D v Q) (by simp[p]) q g bv
  rw[RG (by simp[p,R])]at E;obtain⟨I,Y,M,X,L,S,V⟩:=Ga.clear D p m (l+1) J E (by rw[G];exact o) d7 (q+zs.length) g (by rw[p,ax2,azt];omega);refine⟨I,Y,M,?_,L,?_,λj y=>by rw[V j y,U j y]⟩
  .rw[ayY,ax1,k8 W];exact X
  .rw[S,af3 A]
variable{st:St}{d:Nat}{ty:EQ}{pos:String}{af:dM}{gd:fJ}{K:St->Prop}
def RH{α:Type}(z:Do α):∀(m j:Nat),0<z.length->j<m*z.length->(replicate m z).flatten[j]? =z[j % z.length]?
 |0,j,b,a=>by simp at a
 |m+1,j,b,a=>by
  rw[ayY,ax1];by_cases h:j<z.length
  .rw[aye h,azL h]
  .rw[ayG bv,RH z m (j - z.length) b (by rw[ax2,azt]at a;omega),<-aBl bv]
def SS.clear{t E s:EQ}{x:If}{k l m g G:Nat}{z:bH}{r:Do (Do AV)}(Y:LH P t=some (E,g,G,z))(Z:st.ev x=.sw k l m g)(B:bc st.h k=some (.arr s g r true))(S:l+m<=r.length)(W:0<g)
 (a0:z.all (λv=>(mG v).one)=true) (p:K ⟨st.n,st.t,(k,some (.arr s g (RE r l m (z.map mG)) true))::st.h⟩):
 SS P ⟨none,.call ⟨.builtin .clear, #[x], #[t]⟩,ty,pos,af,gd⟩ st K:=by
 intro w0 a1 e a w next Q h C
 obtain⟨i,c,p2,p3,p4,F,rfl,_,rfl⟩:=cX Y;have y:(#[x]:gr).map a.eval= #[a.eval x]:=by simp only[azM,axJ,ayy]
 have q:=h.ev x;rw[Z]at q;generalize A:a.eval x=u at q;cases q with
 | @sw _ _ _ _ _ b o a2 I V h1 h2=>
  cases m with
  |zero=>
   rw[RF]at p;refine eA (v:=undef) (w':=w) ?_ (C _ p _ _ _ (h.lR λj=>?_))
   .simp[execOp,resolve,y,A,invoke,builtin,Builtin.clear_,axR p2,undef]
   .by_cases f:j=k
    .subst f;rw[bf];exact B.symm
    .rw[bd f]
  |succ m=>
   obtain⟨e',w',h',D,M,R,N⟩:=Ga.clear (P:=P) a0 (by simpa using F) (m+1) l h B I S 0 o (by rw[V bv];rfl);have L:(Builtin.zeroCells c.cells (m+1)).toList=(replicate (m+1) c.cells.toList).flatten:=by
    have n:0<c.cells.size:=by rw[F];exact W
    refine ayR λj=>?_;have X:(Builtin.zeroCells c.cells (m+1)).toList.length=(m+1)*c.cells.size:=by simp[ay4]
    have J:((replicate (m+1) c.cells.toList).flatten).length=(m+1)*c.cells.size:=d5
    by_cases f:j<(m+1)*c.cells.size
    .rw[RH c.cells.toList (m+1) j (by simpa using n) (by simpa using f)]
     have a3:j % c.cells.toList.length<c.cells.size:=by simpa using azX j n
     have O:j<(m+1)*c.cells.size:=f;rw[ayK,ayK];have H:j % c.cells.toList.length=j % c.cells.size:=d5
     rw[H];have U:j % c.cells.size<c.cells.size:=azX j n;simp[Builtin.zeroCells,O,U]
    .rw[ax4 (by rw[X];omega),ax4 (by rw[J];omega)]
   rw[<-L]at D;refine eA (v:=undef) (w':=w') ?_ (C _ p _ _ _ (M.lR λj=>?_))
   .simp[execOp,resolve,y,A,invoke,builtin,Builtin.clear_,axR p2,undef,zeroValue,typeInfo,p3,p4,D]
   .by_cases f:j=k
    .subst f;rw[bf];exact R.symm
    .rw[bd f,N j f]
open Classical in
def LU{α:Type}:Do (Id×α)->Id->Nat
 |[],_=>0
 |(k,_)::es,x=>if k=x then 0 else LU es x+1
def MC{α:Type}:∀{a:Do (Id×α)} {x:Id},fm a x=none->LU a x=a.length
 |[],_,_=>rfl
 |(k,c)::a,x,h=>by
  rw[fm]at h;by_cases b:k=x
  .rw[axn b]at h;cases h
  .rw[axm b]at h
   rw[LU,axm b,MC h];rfl
def YG{α:Type}:∀{a:Do (Id×α)} {x:Id} {j:Nat} {c:α},a[j]? =some (x,c)->(∀(i:Nat) p,i<j->a[i]? =some p->p.1≠x)->LU a x=j
 |[],_,_,_,h,_=>by simp at h
 |(k,e)::a,x,j,c,h,b=>by
  cases j with
  |zero=>simp at h;rw[LU,axn h.1]
  |succ j=>
   rw[LU,axm (b 0 (k,e) bv rfl),YG (j:=j) (c:=c) (by simpa using h) λi p g f=>b (i+1) p bv (by simpa using f)]
def SS.mapEntry{t:EQ}{x y:If}{k:Nat}{I:TypeDesc}{z f:Id}{r:Do (Id×AV)}(ht:mapA P t=some (I,z))(hx:st.ev x=.mp k)
 (S:bc st.h k=some (.mp I r)) (hy:∀(Rd:bI) E u,VR Rd E (st.ev y) u->u=f) (B:lQ I f) (hd:d<st.n)
 (hK:K ⟨st.n,(d,.tu [(fm r f).getD (QW z),.v (.int .i64 (LU r f:Nat))])::st.t,(k,some (.mp I (pN r f ((fm r f).getD (QW z)))))::st.h⟩):SS P ⟨some d,.mapEntry t x y,ty,pos,af,gd⟩ st K:=by
 intro N O e a w next Q A hn
 obtain⟨kt,et,i,p1,p2,p3,p4⟩:=iv ht;obtain⟨b,g,D,a6,L,ah,s,C⟩:=A.Mw hx S;have ar:=hy _ _ _ (A.ev y);have X:=A.sr.base _ _ _ S L;obtain⟨c,v,j,n,o,hc,a9,H,ao,ak⟩:∃c v j n o,(fm r f).getD (QW z)=c/\VR (bS N O e st.h w) none c v/\LU r f=j/\
  (Instr.mapEntry t (.map (some b)) f).run P w=.ok (.tuple #[v,.int .i64 (j:Nat)]) {w with heap:=w.heap.setIfInBounds b (.map n o)}/\MR (bS N O e st.h w) I (pN r f c) n o:=by
  rcases C.find (P:=P) B p2 with⟨J,F,G,f4⟩|⟨j,m,c,J,F,G,f4,f5,f6,f7⟩
  .obtain⟨n,o,M,Y⟩:=LG.put (P:=P) C (λ_ _ h=>h) B p1 p2 (Ox z) s
   have a0:(Instr.mapUpdate t (.map (some b)) f z).run P w=.ok () {w with heap:=w.heap.setIfInBounds b (.map (g.push {key:=f,val:=z,born:=D}) (D+1))}:=by
    simp[Instr.mapUpdate,axR p1,ayu s,p2.Rm _ _ _ B,J,ay0 _ s,Result.andThen]
   rw[a0]at M;have hw:({w with heap:=w.heap.setIfInBounds b (.map (g.push {key:=f,val:=z,born:=D}) (D+1))}:GE)={w with heap:=w.heap.setIfInBounds b (.map n o)}:=by
    injection M
   refine⟨_,z,r.length,n,o,rfl,by rw[G];exact Ox z,MC G,?_,by rw[G];exact Y⟩;rw[<-hw];have a8:D=r.length:=by rw[C.clk,C.len]
   simp[Instr.mapEntry,axR p1,ayu s,p2.Rm _ _ _ B,J,ay0 _ s,zeroValue,typeInfo,p3,p4,goInt,a8]
  .obtain⟨n,o,M,Y⟩:=LG.put (P:=P) (R':=VR (bS N O e st.h w) none) C (λ_ _ h=>h) B p1 p2 f5 s
   have av:∀R,g[j]? =some R->({R with key:=f,val:=m.val}:MapEntry)=R:=λR a3=>by rw[F]at a3;cases a3;cases m;subst G;rfl
   have aj:g.modify j (λe=>{e with key:=f})=g.modify j (λe=>{e with key:=f,val:=m.val}):=by
    apply Array.ext_getElem?;intro q;rw[ay9,ay9];by_cases Z:j=q
    .subst Z;rw[axn rfl,axn rfl,F];cases m;rfl
    .rw[axm Z,axm Z]
   have a0:(Instr.mapUpdate t (.map (some b)) f m.val).run P w=.ok () {w with heap:=w.heap.setIfInBounds b (.map (g.modify j λe=>{e with key:=f,val:=m.val}) D)}:=by
    simp[Instr.mapUpdate,axR p1,ayu s,p2.Rm _ _ _ B,J,F,G,p2.stay _ _ B,ay0 _ s,Result.andThen]
   rw[a0]at M;have hw:({w with heap:=w.heap.setIfInBounds b (.map (g.modify j λe=>{e with key:=f,val:=m.val}) D)}:GE)={w with heap:=w.heap.setIfInBounds b (.map n o)}:=by
    injection M
   have ab:∀(i:Nat) p,i<j->r[i]? =some p->p.1≠f:=λi p ad hp an=>by
    have ag:∃U,g[i]? =some U/\U.key=p.1:=by
     have hi:i<g.size:=by rw[C.len];exact(axs.1 hp).1
     exact⟨g[i],ax_ hi,(C.key i p _ hp (ax_ hi)).1⟩
    obtain⟨U,a4,ai⟩:=ag;have ac:i<g.toList.length:=by have:=(ax7.1 a4).1;simpa using this
    have ae:j<g.toList.length:=by have:=(ax7.1 F).1;simpa using this
    have a5:=aAo.1 ((aBr g D).1 C.k6).2.2 i j ac ae ad;have e1:g.toList[i]=U:=by
     have:=(ax7.1 a4).2;simpa using this
    have e2:g.toList[j]=m:=by
     have:=(ax7.1 F).2;simpa using this
    rw[e1,e2]at a5;exact a5 (by rw[ai,an,G])
   refine⟨c,m.val,j,n,o,by rw[f4];rfl,f5,YG f6 ab,?_,Y⟩;rw[<-hw,<-aj];have a7:m.born=j:=C.V2 j m F;simp[Instr.mapEntry,axR p1,ayu s,p2.Rm _ _ _ B,J,F,G,p2.stay _ _ B,ay0 _ s,goInt,a7]
 have a1:=aAq (o':=.map n o) s;have aa:Bx N {w with heap:=w.heap.setIfInBounds b (.map n o)}:=
  A.sr.ext.step rfl rfl rfl d5 λj H _=>a1.2 j λe=>H (by rw[e];exact X.1)
 obtain⟨ap,a2⟩:=A.sr.yj (w':={w with heap:=w.heap.setIfInBounds b (.map n o)}) k (some b) (e.sv k) 0 (some (.mp I (pN r f c))) aa (.inr ⟨L.symm,rfl⟩) d5
  (λV W al=>a1.2 V λhh=>al _ S (by rw[L];exact axD some hh.symm))
  (λV W _=>by obtain rfl:=axt W;exact⟨X.1,by simpa using X.2,.inl ⟨_,S,L⟩⟩)
  (λV o' u' ob ho W aw au=>by have:e.cS k=0:=ah;omega)
  (λRd hR _ ax am=>by
   obtain rfl:=axt am;exact⟨Env.cc,b,n,o,Env.bY,a1.1,MR.mono hR ak⟩)
 rw[hc,H]at hK;have aq:=(A.tr.mono a2).iR (e':=e.cK k (some b) (e.sv k) 0) (λj=>by by_cases H:j=k<;>simp[Env.cK,H,L]) (λj=>by by_cases H:j=k<;>simp[Env.cK,H]);have l:=LR.cons ((a9.mono a2).cW (E:=some (e.cK k (some b) (e.sv k) 0))) (LR.cons (VR.v (Rd:=bS N O (e.cK k (some b) (e.sv k) 0) ((k,some (.mp I (pN r f c)))::st.h) {w with heap:=w.heap.setIfInBounds b (.map n o)}) (x:=.int .i64 (j:Nat))) LR.nil);refine eA (v:=.tuple #[v,.int .i64 (j:Nat)]) (w':={w with heap:=w.heap.setIfInBounds b (.map n o)}) ?_ (hn _ hK _ _ _ ⟨by simpa[Act.put]using A.n,A.d,ap,TR.put aq (by rw[A.n.1];exact hd) (.tu _ l.1 l.2)⟩);simp[execOp,a6,ar,ao]
def SS.entryStore{t:EQ}{x y v:If}{k i:Nat}{s:TypeDesc}{z kv:Id}{n:Do (Id×AV)}{ki:IntKind}{h1:Hp}{c c0:AV}(ht:mapA P t=some (s,z))(hx:st.ev x=.mp k)(hy:st.ev y=.v (.int ki (i:Nat)))(hl:kx st.h (st.ev v)=some (h1,c))
 (B:bc h1 k=some (.mp s n)) (J:n[i]? =some (kv,c0)) (U:K ⟨st.n,st.t,(k,some (.mp s (n.set i (kv,c))))::h1⟩):SS P ⟨none,.entryStore t x y v,ty,pos,af,gd⟩ st K:=by
 intro R S e a w next Q u hn
 obtain⟨F,a6,hv⟩:=vd u.sr (u.ev v) hl;have l:=u.cS a6;have o:(⟨st.n,st.t,h1⟩:St).ev x=.mp k:=by rw[<-hx];cases x<;>rfl
 obtain⟨b,h,m,X,p,a0,I,g⟩:=l.Mw o B;have C:=u.ev y;rw[hy]at C;have C:=C.bR;have H:=l.sr.base _ _ _ B p;have A:i<h.size:=by rw[g.len];exact(axs.1 J).1
 have Z:h.findIdx? (λe=>(e.born:Int)==(i:Int))=some i:=by
  rw[aCc];refine⟨A,?_,λq O=>?_⟩
  .rw[g.V2 i _ (ax_ A)];simp
  .rw[g.V2 q _ (ax_ bv)];simp;omega
 have a2:MR (bS R S F h1 w) s (n.set i (kv,c)) (h.modify i λe=>{e with val:=a.eval v}) m:=by
  refine⟨by simp[g.len],λq x' D o f=>?_,λD f=>?_,aBs g.k6 _ _ (λ_ _=>rfl) (λ_ _ _=>rfl),λq D f=>?_,by rw[g.clk];simp⟩
  .rw[ay9]at f
   by_cases L:i=q
   .subst L
    rw[axn rfl,ax_ A]at f;have N:i<n.length:=(axs.1 J).1;simp[N]at o f;subst o f;exact⟨(g.key i _ _ J (ax_ A)).1,hv⟩
   .rw[axm L]at f
    rw[aAM L]at o;exact g.key q x' D o f
  .obtain⟨q,O,rfl⟩:=ayb f
   have a8:q<h.size:=by simpa using O
   have:=g.isk h[q] d5;rw[aAp,aAL];split
   .exact this
   .exact this
  .rw[ay9]at f
   split at f
   .obtain⟨m0,a1,rfl⟩:=axW.1 f
    exact g.V2 q m0 a1
   .exact g.V2 q D f
 have M:=aAq (o':=.map (h.modify i λe=>{e with val:=a.eval v}) m) I;have Y:Bx R {w with heap:=w.heap.setIfInBounds b (.map (h.modify i λe=>{e with val:=a.eval v}) m)}:=
  l.sr.ext.step rfl rfl rfl d5 λj r _=>M.2 j λe=>r (by rw[e];exact H.1)
 obtain⟨a5,W⟩:=l.sr.yj (w':={w with heap:=w.heap.setIfInBounds b (.map (h.modify i λe=>{e with val:=a.eval v}) m)}) k (some b) (F.sv k) 0 (some (.mp s (n.set i (kv,c)))) Y (.inr ⟨p.symm,rfl⟩) d5
  (λE G a3=>M.2 E λhh=>a3 _ B (by rw[p];exact axD some hh.symm))
  (λE G _=>by obtain rfl:=axt G;exact⟨H.1,by simpa using H.2,.inl ⟨_,B,p⟩⟩)
  (λE o' u' ob ho G N a7=>by have:F.cS k=0:=a0;omega)
  (λRd V _ a9 a4=>by
   obtain rfl:=axt a4;exact⟨Env.cc,b,_,m,Env.bY,M.1,MR.mono V a2⟩)
 refine xA (w':={w with heap:=w.heap.setIfInBounds b (.map (h.modify i λe=>{e with val:=a.eval v}) m)}) ?_ (hn _ U _ _ _ ⟨l.n,l.d,a5,(l.tr.mono W).iR (λj=>by by_cases r:j=k<;>simp[Env.cK,r,p]) (λj=>by by_cases r:j=k<;>simp[Env.cK,r])⟩);simp[execOp,Instr.entryStore,X,C,ayu I,asInt,asIntOf,Z,ay0 _ I]
