/- part 2 -/
import Derived.Test.YtmdbmigbihboaaaGreatDoorZWholeNothing1
set_option linter.all false
noncomputable section
open Go Go.RowKit
set_option maxRecDepth 100000
namespace Go.Proofs.YtmdbmigbihboaaaGreatDoor
def ffB:Nat->Bool:=λ_=>false
mutual
def vd:∀c:AV,c.gp ffB=true
 |.un=>rfl
 |.v _=>rfl
 |.sl _ _ _=>rfl
 |.fp _=>rfl
 |.ow _=>rfl
 |.pt _ _=>rfl
 |.pe _ _ _ _=>rfl
 |.sw _ _ _ _=>rfl
 |.mp _=>rfl
 |.ag a=>by rw[AV.gp];exact sU a
 |.tu a=>by rw[AV.gp];exact sU a
 |.cl _ b a=>by rw[AV.gp,sU b,sU a];rfl
def sU:∀a:List AV,AV.lX ffB a=true
 |[]=>rfl
 |c::a=>by rw[AV.lX,vd c,sU a];rfl
end
def ae4(t:List (Nat×AV)):zd ffB t=true:=by simp[zd,vd]
def Ob.vd(o:Ob):o.gp ffB=true:=by cases o<;>simp[Ob.gp,sU]
def RR(h:Hp):oU ffB h=true:=by
 simp only[oU,aqg,apS];intro q _;refine⟨rfl,?_⟩;split
 ·exact Ob.vd _
 ·rfl
structure PD(P:Program)(l:bp)(mB:St)(pl:List En):Prop where
 len:pl.length<=l.length
 step:∀(j:Nat) o u,l[j]? =some o->pl[j]? =some u->o.dst=u.d/\DS P l mB (pl.take j) o u
 fit:∀(i j:Nat) v u,i<j->pl[i]? =some v->pl[j]? =some u->KE l i j v u/\Zg l i j v u
 KG:∀(j:Nat) u,pl[j]? =some u->zd u.fr mB.t=true/\oU u.fr mB.h=true
def KJ:Nat->bp->Bool
 |_,[]=>true
 |j,o::l=>o.after.all (λe=> !Region.binds .any e||Nat.blt e.on j) && KJ (j+1) l
def zi:∀{a:Nat} {l:bp},KJ a l=true->∀(j:Nat) o,l[j]? =some o->∀e∈o.after,Region.binds .any e=true->e.on<a+j
 |a,[],_,j,o,h=>by simp at h
 |a,x::l,b,j,o,h=>by
  simp only[KJ,apS]at b;cases j with
  |zero=>
   simp at h;subst h;intro e d c;have:=(Array.all_eq_true'.1 b.1) e d;simpa[c]using this
  |succ j=>
   intro e d c;have:=zi b.2 j o (by simpa using h) e d c;omega
variable{s:AV}{Y:Bs}{L:Env}{n:Hp}{U:Nat->Bool}{c e:Operand}{b:TypeId}{v:Value}{o:World}{E:bE}{F:bD}
mutual
def KL(d:Nat):∀c:AV,c.gp (λk=>k==d)= !c.ga d
 |.un=>rfl
 |.v _=>rfl
 |.sl _ _ _=>rfl
 |.fp _=>rfl
 |.ow _=>rfl
 |.pt _ _=>rfl
 |.pe _ _ _ _=>rfl
 |.sw _ _ _ _=>rfl
 |.mp _=>rfl
 |.ag a=>by rw[AV.gp,AV.ga];exact nV d a
 |.tu a=>by rw[AV.gp,AV.ga];exact nV d a
 |.cl _ b a=>by rw[AV.gp,AV.ga,nV d b,nV d a,Bool.not_or]
def nV(d:Nat):∀a:List AV,AV.lX (λk=>k==d) a= !AV.lV d a
 |[]=>rfl
 |c::a=>by rw[AV.lX,AV.lV,KL d c,nV d a,Bool.not_or]
end
def nW{d:Nat}(h:s.gp (λk=>k==d)=true):s.kill d=s:=by
 rw[KL]at h;unfold AV.kill;rw[apQ];cases a:s.ga d
 ·simp
 ·rw[a]at h;cases h
def Ob.nW{d:Nat}{o:Ob}(h:o.gp (λk=>k==d)=true):o.kill d=o:=by
 cases o with
 |box t e=>
  simp only[Ob.kill];congr 1;rw[aqJ (g:=id),arJ];intro c a;obtain⟨i,b,rfl⟩:=aqB a;exact Go.Proofs.YtmdbmigbihboaaaGreatDoor.nW (e_ h i _ (ap0 b))
 |arr=>rfl
 |mp=>rfl
 |nr t e=>
  simp only[Ob.kill];congr 1;rw[aqJ (g:=id),arJ];intro c a;obtain⟨i,b,rfl⟩:=aqB a;exact Go.Proofs.YtmdbmigbihboaaaGreatDoor.nW (e_ h i _ (ap0 b))
def Ob.nT{o:Ob}(h:o.gp U=true):o.jP U=o:=by
 cases o with
 |box t e=>
  simp only[Ob.jP];congr 1;rw[aqJ (g:=id),arJ];intro c a;obtain⟨i,b,rfl⟩:=aqB a;exact kG (e_ h i _ (ap0 b))
 |arr=>rfl
 |mp=>rfl
 |nr t e=>
  simp only[Ob.jP];congr 1;rw[aqJ (g:=id),arJ];intro c a;obtain⟨i,b,rfl⟩:=aqB a;exact kG (e_ h i _ (ap0 b))
section
variable{P:Program}{st:St}{d:Nat}{ty:TypeId}{pos:String}{af:dI}{gd:fE}{K:St->Prop}
def SS.mono{o:Oper}{K c:St->Prop}(h:SS P o st K)(q:∀s,K s->∃b,cn P s b/\c b):SS P o st c:=λj f e a w next Q p t=>
 h j f e a w next Q p λx v k g i m=>by
  obtain⟨b,r,u⟩:=q x v;obtain⟨l,n⟩:=r j f k g i m;exact t b u l g i n
def SS.fresh{o:Oper}{b:bU}(g:∀x,(bG st.t x).gp (λk=>k==d)=true)(c:∀k ob,a_ st.h k=some ob->ob.gp (λk=>k==d)=true)
 (h:SS P o st λa=>a=⟨st.n,jz b s (cY d st.t),n++br d st.h⟩):SS P o st λa=>a=⟨st.n,jz b s st.t,n++st.h⟩:=by
 refine h.mono λa f=>?_;subst f;refine⟨_,cn.same (λx=>?_) (λk=>?_),rfl⟩
 ·rw[iX,iX,sN,nW (g x)]
 ·rw[ep,ep,dp]
  split
  ·rfl
  ·cases e:a_ st.h k with
   |none=>rfl
   |some ob=>rw[aq3,Ob.nW (c k ob e)]
def SS.Zh{o:Oper}{b:bU}(j:∀x,(bG st.t x).gp U=true)(c:∀k ob,a_ st.h k=some ob->ob.gp U=true)(f:∀k,U k=true->a_ st.h k=none)
 (h:SS P o st λa=>a=⟨st.n,jz b s (qf U st.t),n++hL U st.h⟩):SS P o st λa=>a=⟨st.n,jz b s st.t,n++st.h⟩:=by
 refine h.mono λa i=>?_;subst i;refine⟨_,cn.same (λx=>?_) (λk=>?_),rfl⟩
 ·rw[iX,iX,lP,kG (j x)]
 ·rw[ep,ep,sR]
  split
  ·rfl
  ·split
   ·rename_i g;exact f k g
   ·cases e:a_ st.h k with
    |none=>rfl
    |some ob=>rw[aq3,Ob.nT (c k ob e)]
def SR.Ic(p:SR Y E L n o){k d:Nat}{ob:Ob}(B:a_ n k=some ob)(ab:d≠k)(X:nP d n=true)(jQ:d<4294967296):
 SR Y E (L.cK d (L.bS k) (L.sv k) (L.cM k)) ((d,some ob)::(k,none)::n) o/\∀b a u,bO Y E L n o b a u->bO Y E (L.cK d (L.bS k) (L.sv k) (L.cM k)) ((d,some ob)::(k,none)::n) o b a u:=by
 have C:∀j g,a_ ((d,some ob)::(k,none)::n) j=some g->(j=d/\g=ob)\/(j≠d/\j≠k/\a_ n j=some g):=λj g e=>by
  by_cases l:j=d
  ·subst l;rw[bf]at e;exact .inl ⟨rfl,(apZ e).symm⟩
  ·rw[bc l]at e
   by_cases r:j=k
   ·subst r;rw[bf]at e;cases e
   ·rw[bc r]at e;exact .inr ⟨l,r,e⟩
 have O:∀b a u,bO Y E L n o b a u->bO Y E (L.cK d (L.bS k) (L.sv k) (L.cM k)) ((d,some ob)::(k,none)::n) o b a u:=λb a u ⟨y,z,m⟩=>⟨y,z,λj g e f=>by
  rcases C j g e with⟨rfl,rfl⟩|⟨l,r,q⟩
  ·rw[Env.bT]at f;rw[Env.bW];exact m k _ B f
  ·rw[Env.bx l]at f;rw[Env.j0 l];exact m j _ q f⟩
 refine⟨⟨p.ext,p.jO,λj g e=>?_,λj g b e f=>?_,λj Z aa a0 b e q f A=>?_,λj e=>by rw[Env.bx (by omega),Env.db (by omega)];exact p.t_ j e⟩,O⟩
 ·rcases C j g e with⟨rfl,rfl⟩|⟨l,r,q⟩
  ·have G:=(p.ob k _ B).mono O
   have W:g.ga j=false:=vW X k _ B;cases g with
   |box t cs=>
    obtain⟨x,b,us,y,z,m⟩:=G;exact⟨by rw[Env.bW];exact x,b,us,by rw[Env.bT];exact y,z,m.1,λi c u D S=>(m.2 i c u D S).env rfl j (e5 (by simpa[Ob.ga]using W) i c D) (λ_ h=>Env.bx h) (λ_ h=>Env.db h)⟩
   |arr t sz ac wr=>
    obtain⟨x,y,z,m⟩:=G;refine⟨x,y,λhw=>by rw[Env.bW];exact z hw,?_⟩;rcases m with⟨s,v,w⟩|⟨b,M,N,s,v,w,H,I,J,F,a8⟩
    ·exact .inl ⟨s,by rw[Env.bT];exact v,by rw[Env.dJ];exact w⟩
    ·exact .inr ⟨b,M,N,by rw[Env.bT];exact s,by rw[Env.dJ];exact v,w,H,I,J,F,by rw[Env.bW];exact a8⟩
   |mp d es=>
    obtain⟨x,b,arr,a9,y,z,m⟩:=G;exact⟨by rw[Env.bW];exact x,b,arr,a9,by rw[Env.bT];exact y,z,m⟩
   |nr t cs=>
    obtain⟨x,m⟩:=G;refine⟨by rw[Env.bW];exact x,?_⟩;rcases m with⟨s,v,w⟩|⟨b,M,N,s,v,w,H,I,J,F⟩
    ·exact .inl ⟨s,by rw[Env.bT];exact v,by rw[Env.dJ];exact w⟩
    ·exact .inr ⟨b,M,N,by rw[Env.bT];exact s,by rw[Env.dJ];exact v,w,H,I,J,⟨F.1,λi c u D S=>(F.2 i c u D S).env rfl j (e5 (by simpa[Ob.ga]using W) i c D) (λ_ h=>Env.bx h) (λ_ h=>Env.db h)⟩⟩
  ·exact((p.ob j g q).mono O).env (k:=d) l (.inl (vW X j g q)) (λ_ h=>Env.bx h) (λ_ h=>Env.db h) (λ_ h=>Env.j0 h) (λb _ _=>rfl)
 ·rcases C j g e with⟨rfl,rfl⟩|⟨l,r,q⟩
  ·rw[Env.bT]at f;exact p.base k _ b B f
  ·rw[Env.bx l]at f;exact p.base j _ b q f
 ·rcases C j aa e with⟨rfl,rfl⟩|⟨l,r,U⟩
  ·rcases C Z a0 q with⟨rfl,rfl⟩|⟨R,V,Q⟩
   ·rfl
   ·rw[Env.bT]at f
    rw[Env.bx R]at A;exact absurd (p.inj _ _ _ _ _ Q B A f) V
  ·rcases C Z a0 q with⟨rfl,rfl⟩|⟨R,V,Q⟩
   ·rw[Env.bT]at A
    rw[Env.bx l]at f;exact absurd (p.inj _ _ _ _ _ U B f A) r
   ·rw[Env.bx l]at f
    rw[Env.bx R]at A;exact p.inj _ _ _ _ _ U Q f A
def WM{d:Nat}(a:nP d n=true)(k:Nat):nP d ((k,none)::n)=true:=by simpa[nP]using a
def nX(k:Nat)(c:AV):(c.kill k).kill k=c.kill k:=by
 have:=j_ k c;generalize c.kill k=x at this;unfold AV.kill;rw[apQ (by rw[this];simp)]
def Ob.nX(k:Nat)(o:Ob):(o.kill k).kill k=o.kill k:=by
 cases o with
 |box t a=>
  simp only[Ob.kill,aq4];congr 1;exact aqJ λc _=>by simp[Go.Proofs.YtmdbmigbihboaaaGreatDoor.nX]
 |arr=>rfl
 |mp=>rfl
 |nr t a=>
  simp only[Ob.kill,aq4];congr 1;exact aqJ λc _=>by simp[Go.Proofs.YtmdbmigbihboaaaGreatDoor.nX]
def oX{g:bU}{a:Act}{w f:World}(h:(Builtin.append_ #[b,b] ty #[a.eval c,a.eval e]).run P w=.ok v f):
 (execOp a.eval ⟨g,.call ⟨.builtin .append, #[c,e], #[b,b]⟩,ty,pos,af,gd⟩).run P w=.ok (.value v) f:=by
 have i:(#[c,e]:fU).map a.eval= #[a.eval c,a.eval e]:=by simp only[asd,aqc,aqZ]
 simp only[execOp,resolve,i,ap6,ap8,ap7,invoke,builtin];simp only[asT,h,ap7]
def SS.KM{t E:TypeId}{x y:Operand}{k h v:Nat}{h1:Hp}{tt wr:Bool}{rows ys:List (List AV)}(ht:FA P t=some (E,h,v,F))(hx:st.ev x=.ow k)(S:hJ st.h (st.ev y)=some (h1,.sl tt h ys))
 (O:a_ h1 k=some (.arr E h rows wr)) (L:d≠k) (W:0<h) (U:rows.length+ys.length<=maxLen) (I:(rows.length+ys.length)*v<=140737488355328) (J:d<st.n)
 (G:K ⟨st.n,(d,.ow d)::cY d st.t,(d,some (.arr E h (rows++ys) wr))::(k,none)::br d h1⟩):SS P ⟨some d,.call ⟨.builtin .append, #[x,y], #[t,t]⟩,ty,pos,af,gd⟩ st K:=by
 intro s o e a w next Q c V
 obtain⟨i,zv,p2,p3,p4,p5,rfl,rfl,_⟩:=cT ht;obtain⟨b,a3,hv⟩:=nS c.sr (c.ev y) S;have p:=c.cM a3;have q:=p.ev x;have a2:a.eval x=b.sv k:=by
  have:(⟨st.n,st.t,h1⟩:St).ev x=.ow k:=by rw[<-hx];cases x<;>rfl
  rw[this]at q;generalize a.eval x=u at q;cases q with
  |ow=>rfl
 obtain⟨X,z⟩:=p.sr.kill d;have R:a_ (br d h1) k=some (.arr E i.size rows wr):=by rw[dp,O];rfl
 obtain⟨Y,A⟩:=X.Ic R L (d_ d h1) (by have:=c.n.2;omega);have a0:=((hv.mono z).mono A).cS (E:=some (b.cK d (b.bS k) (b.sv k) (b.cM k)));obtain⟨g,r,n,l,C,Z,H⟩:=Y.append (by have:=c.n.2;omega) bf t ty i zv p2 p3 p4 rfl p5 W a0 U I;rw[Env.dJ]at C;have N:∀j,a_ ((d,some (.arr E i.size (rows++ys) wr))::(k,none)::br d h1) j=a_ ((d,some (.arr E i.size (rows++ys) wr))::br d ((d,some (.arr E i.size rows wr))::(k,none)::br d h1)) j:=λj=>by
  by_cases m:j=d
  ·subst m;rw[bf,bf]
  ·rw[bc m,bc m,dp,bc m]
   by_cases B:j=k
   ·subst B;rw[bf];rfl
   ·rw[bc B,dp]
    cases a_ h1 j with
    |none=>rfl
    |some ob=>simp[Ob.nX]
 have a1:TR (bO s o ((b.cK d (b.bS k) (b.sv k) (b.cM k)).cK d n g l) ((d,some (.arr E i.size (rows++ys) wr))::br d ((d,some (.arr E i.size rows wr))::(k,none)::br d h1)) r) ((b.cK d (b.bS k) (b.sv k) (b.cM k)).cK d n g l) ((d,.ow d)::cY d st.t) (a.tmps.setIfInBounds d g):=by
  refine TR.put ?_ (by rw[c.n.1];exact J) ?_
  ·have D:=(((((p.tr.kill d).mono z).mono A).env d (dO d st.t) (e':=b.cK d (b.bS k) (b.sv k) (b.cM k)) (λ_ f=>Env.bx f) (λ_ f=>Env.db f)).mono H)
   exact D.env d (dO d st.t) (λ_ f=>Env.bx f) (λ_ f=>Env.db f)
  ·have:=VR.ow (Rd:=bO s o ((b.cK d (b.bS k) (b.sv k) (b.cM k)).cK d n g l) ((d,some (.arr E i.size (rows++ys) wr))::br d ((d,some (.arr E i.size rows wr))::(k,none)::br d h1)) r) (e:=(b.cK d (b.bS k) (b.sv k) (b.cM k)).cK d n g l) (k:=d)
   rw[Env.dJ]at this;exact this
 have M:Ga s o _ ⟨st.n,(d,.ow d)::cY d st.t,_⟩ (a.put (some d) g) r:=⟨by simpa[Act.put]using c.n,c.d,Z,a1⟩;exact eo (oX (by rw[a2];exact C)) (V _ G _ _ _ (M.kE N))
def SS.F_{t E:TypeId}{x y:Operand}{o sz0 s:Nat}{h1:Hp}{tt:Bool}{ys:List (List AV)}(Z:FA P t=some (E,o,s,F))(hx:st.ev x=.sl true sz0 [])(R:hJ st.h (st.ev y)=some (h1,.sl tt o ys))
 (V:0<o) (S:ys.length<=maxLen) (L:ys.length*s<=140737488355328) (M:d<st.n)
 (J:K ⟨st.n,(d,.ow d)::cY d st.t,(d,some (.arr E o ys true))::br d h1⟩):SS P ⟨some d,.call ⟨.builtin .append, #[x,y], #[t,t]⟩,ty,pos,af,gd⟩ st K:=by
 intro r p e a w next Q b U
 obtain⟨i,zv,p2,p3,p4,p5,rfl,rfl,_⟩:=cT Z;obtain⟨g,a2,hv⟩:=nS b.sr (b.ev y) R;have C:=b.cM a2;have H:=b.ev x;rw[hx]at H;obtain⟨c,a3,us,A,_,_,_,_,_,a1,_⟩:=H.lW;have B:=a1 rfl;simp only[aqI]at B A;subst B;obtain⟨W,u⟩:=C.sr.kill d;obtain⟨X,v⟩:=W.CN d E i.size c (d_ d h1) (by have:=b.n.2;omega);have Y:=((hv.mono u).mono v).cS (E:=some (g.cK d none (.slice c 0 0) 0));obtain⟨h,q,n,l,D,G,z⟩:=X.append (by have:=b.n.2;omega) bf t ty i zv p2 p3 p4 rfl p5 V Y (by simpa using S) (by simpa using L);rw[Env.dJ]at D;rw[aqC]at G z;have O:∀j,a_ ((d,some (.arr E i.size ys true))::br d h1) j=a_ ((d,some (.arr E i.size ys true))::br d ((d,some (.arr E i.size [] true))::br d h1)) j:=λj=>by
  by_cases m:j=d
  ·subst m;rw[bf,bf]
  ·rw[bc m,bc m,dp,dp,bc m,dp]
   cases a_ h1 j with
   |none=>rfl
   |some ob=>simp[Ob.nX]
 have a0:TR (bO r p ((g.cK d none (.slice c 0 0) 0).cK d n h l) ((d,some (.arr E i.size ys true))::br d ((d,some (.arr E i.size [] true))::br d h1)) q) ((g.cK d none (.slice c 0 0) 0).cK d n h l) ((d,.ow d)::cY d st.t) (a.tmps.setIfInBounds d h):=by
  refine TR.put ?_ (by rw[b.n.1];exact M) ?_
  ·have I:=(((((C.tr.kill d).mono u).mono v).env d (dO d st.t) (e':=g.cK d none (.slice c 0 0) 0) (λ_ f=>Env.bx f) (λ_ f=>Env.db f)).mono z)
   exact I.env d (dO d st.t) (λ_ f=>Env.bx f) (λ_ f=>Env.db f)
  ·have:=VR.ow (Rd:=bO r p ((g.cK d none (.slice c 0 0) 0).cK d n h l) ((d,some (.arr E i.size ys true))::br d ((d,some (.arr E i.size [] true))::br d h1)) q) (e:=(g.cK d none (.slice c 0 0) 0).cK d n h l) (k:=d)
   rw[Env.dJ]at this;exact this
 have N:Ga r p _ ⟨st.n,(d,.ow d)::cY d st.t,_⟩ (a.put (some d) h) q:=⟨by simpa[Act.put]using b.n,b.d,G,a0⟩;exact eo (oX (by rw[A];exact D)) (U _ J _ _ _ (N.kE O))
end
variable{D:Bool}{i u:List AV}{m:Nat}
section
variable{P:Program}{st:St}{d:Nat}{dd:bU}{ty:TypeId}{pos:String}{af:dI}{gd:fE}{K:St->Prop}
def Bx.ext(h:Bx Y o)(c:∀b,¬Y.own b):Ext Y.w o:=⟨⟨h.os,h.tape,h.output,h.size,λb e=>h.block b λa=>by
 rcases a with a|a
 ·omega
 ·exact c b a⟩,h.drawn⟩
def Zi(b:Nat):¬(cB [] m L o).own b:=by rintro⟨p,c,h,_⟩;cases h
def ae5{b:Nat}(a:(cB [] m L o).hI b):o.heap.size<=b:=a.resolve_right (Zi b)
def Ga.ahj{e h:Env}{a:Act}{w c:World}(f:Ga Y E e st a w)(y:SR (cB [] m e w) (cRd [] m Y E e st.h w) h [] c)
 (z:VR (bO (cB [] m e w) (cRd [] m Y E e st.h w) h [] c) (some h) s v) (x:s.gp (λ_=>true)=true) (p:d<st.n):Ga Y E e ⟨st.n,(d,s)::st.t,st.h⟩ (a.put (some d) v) c:=by
 have l:Ext w c:=y.ext.ext Zi;have q:Ga Y E e st a c:=f.later l;refine q.put p ?_;have A:=z.FN (e':=e) rfl (λ_=>true) x (λj i=>by cases i) (λj i=>by cases i);refine A.mono λb o u ⟨B,C,_⟩=>?_;by_cases g:(cB [] m e w).hI b
 ·have g:=ae5 g
  exact⟨B,λt=>absurd (f.sr.ext.hI g) t,λk ob r n=>by have:=(f.sr.base _ _ _ r n).2;omega⟩
 ·exact(f.sr.later l).2 b o u (C g).1
def SS.akB{f:FuncId}{q:Op}(m:Bw P f [] u [] s)(C:Ki P ⟨some d,q,ty,pos,af,gd⟩ st f i)(D:RJ st [] (1000*(d+1)) n [] u i)(G:s.gp (λ_=>true)=true)(B:d<st.n)
 (z:K ⟨st.n,(d,s)::st.t,n⟩):SS P ⟨some d,q,ty,pos,af,gd⟩ st K:=by
 intro r g e a w next Q h H
 obtain⟨U,N,J⟩:=C m.1 r g e a w h;obtain⟨t,l,k,F,O⟩:=D r g e w _ h.sr N;have j:=h.cM l;have y:Kh (1000*(d+1)) []=true:=by
  have:=h.n.2;simp[Kh,Bv];omega
 have L:=j.sr.nt k y F;have A:=m.2 _ _ _ w U L (O.nU λb o c E=>E.nt k λp ob I=>by simp[a_]at I);unfold Oper.wp;rw[J w];show Calls P f _ w _;refine A.mono λx W S=>?_;obtain⟨v,V,rfl,M,R⟩:=S;exact H _ z t _ _ (j.ahj M R G B)
def SS.ah6{f:FuncId}{r:Op}(q:Bw P f [] u [] s)(G:s.pu=true)(C:Ki P ⟨some d,r,ty,pos,af,gd⟩ st f i)(g:Pr st [] (1000*(d+1)) [] u i)(E:s.gp (λ_=>true)=true)(B:d<st.n)
 (y:K ⟨st.n,(d,s)::st.t,st.h⟩):SS P ⟨some d,r,ty,pos,af,gd⟩ st K:=by
 intro t m e a w next Q h F
 obtain⟨R,L,H⟩:=C q.1 t m e a w h;obtain⟨n,V,M⟩:=g t m e w _ h.sr L;have z:∀b o c,RB [] (1000*(d+1)) e w b o c->bO (cB [] (1000*(d+1)) e w) (RB [] (1000*(d+1)) e w) (e.pi [] (1000*(d+1))) [] w b o c:=λb o c j=>⟨j.1,λ_=>j,λp ob l U=>by simp[a_]at l⟩;have I:SR (cB [] (1000*(d+1)) e w) (RB [] (1000*(d+1)) e w) (e.pi [] (1000*(d+1))) [] w:=
  ⟨⟨rfl,rfl,rfl,apT _,λ_ _=>rfl,apT _⟩,⟨λb o c j=>j,λb o c g=>⟨(h.sr.CM g).1,h.sr.Ku n g⟩⟩,λp ob l=>by simp[a_]at l,λp ob b l=>by simp[a_]at l,λp X ob W b l=>by simp[a_]at l,λk _=>⟨rfl,rfl⟩⟩
 have A:=q.2 _ _ _ w R I (M.nU z);unfold Oper.wp;rw[H w];show Calls P f _ w _;refine A.mono λx Y O=>?_;obtain⟨v,S,rfl,J,N⟩:=O;exact F _ y e _ _ (h.ahj (J.pure (λk ob D=>by simp[a_]at D) ⟨λb o c j=>⟨j.1.1,j.2⟩,λb o c g=>⟨h.sr.CM g,h.sr.Ku n g⟩⟩) (N.pure G) E B)
def SS.KN{t E:TypeId}{x y:Operand}{v W:Nat}{rows ys:List (List AV)}(ht:FA P t=some (E,v,W,F))(hx:st.ev x=.sl true v rows)(hl:hJ st.h (st.ev y)=some (n,.sl D v ys))
 (S:0<ys.length) (Y:0<v) (R:rows.length+ys.length<=maxLen) (J:(rows.length+ys.length)*W<=140737488355328) (hd:d<st.n)
 (hK:K ⟨st.n,(d,.ow d)::cY d st.t,(d,some (.arr E v (rows++ys) true))::br d n⟩):SS P ⟨some d,.call ⟨.builtin .append, #[x,y], #[t,t]⟩,ty,pos,af,gd⟩ st K:=by
 intro w0 V e a w next Q l hn
 obtain⟨i,g,p2,p3,p4,p5,rfl,rfl,_⟩:=cT ht;obtain⟨m,ap,hv⟩:=nS l.sr (l.ev y) hl;have A:=l.cM ap;have an:VR (bO w0 V m n w) (some m) (.sl true i.size rows) (a.eval x):=by
  have:=A.ev x;have e2:(⟨st.n,st.t,n⟩:St).ev x=st.ev x:=by cases x<;>rfl
  rw[e2,hx]at this;exact this
 obtain⟨G,ar,f,a5,a0,a2,N,_,au,ak,ha⟩:=an.lW;obtain⟨aq,H,xs,a6,a1,a3,O,_,av,_,a4⟩:=hv.lW;have a9:=ak rfl;subst a9;have aa:=ej a0;have ab:=ej a1;have s:xs.length=ys.length*i.size:=by rw[O.1,ab]
 have ao:xs≠[]:=by
  rintro rfl;have:=asj S Y;simp at s;omega
 obtain⟨z,C,rfl,a8⟩:=a4 ao;have U:∀(j:Nat) u,xs[j]? =some u->w.cell? ((⟨z,C,none⟩:Addr).add j)=some u:=λj u M=>by rw[aqz];exact(a8 j u M).1
 have B:f.length=rows.length*i.size:=by rw[N.1,aa]
 have aw:rows.length+ys.length<=9223372036854775807:=by unfold maxLen at R;exact R
 have ae:∃b,(Builtin.append_ #[t,t] ty #[a.eval x,a.eval y]).run P w=.ok (.slice (some ⟨w.heap.size,0,none⟩) (rows.length+ys.length) (grownCap w (rows.length+ys.length) b E))
  (w.drew.alloc (.cells (f.toArray++xs.toArray++Builtin.zeroCells g.cells (grownCap w (rows.length+ys.length) b E - (rows.length+ys.length))) E)):=by
  rw[a5,a6];by_cases q:rows.length=0
  ·have al:f=[]:=aqT (by rw[B,q];simp)
   subst al;simp only[q,aqq];cases G with
   |none=>
    refine⟨0,?_⟩;have:=atO (P:=P) w t ty E i g p2 p3 p4 ⟨z,C,none⟩ ys.length H xs s U S (by omega) (by
     rw[q,aqq]at J;omega)
    simpa using this
   |some G=>
    refine⟨0,?_⟩;have:=ar5 (P:=P) w t ty E i g p2 p3 p4 G 0 0 [] (by simp) (by simp) ⟨z,C,none⟩ ys.length H xs s U (by omega) (by omega) (by
     rw[q,aqq]at J;rw[aqq,nextslicecap_zero S];omega)
    simpa using this
  ·have am:f≠[]:=by
    rintro rfl;have:=asj (Nat.pos_of_ne_zero q) Y;simp at B;omega
   obtain⟨b1,o1,rfl,a7⟩:=ha am;exact⟨rows.length,ar5 (P:=P) w t ty E i g p2 p3 p4 ⟨b1,o1,none⟩ rows.length rows.length f B (λj u M=>by rw[aqz];exact(a7 j u M).1) ⟨z,C,none⟩ ys.length H xs s U (by omega) (by omega) (asF (by omega) J)⟩
 obtain⟨b,ai⟩:=ae;obtain⟨aj,I⟩:=A.sr.kill d;have ag:=are w (rows.length+ys.length) b E;have ah:=atN w (rows.length+ys.length) b E R;have ac:(rows++ys).flatten.length=f.length+xs.length:=by rw[ars,aqb,N.1,O.1]
 obtain⟨Z,X⟩:=aj.H9 d E i.size (grownCap w (rows.length+ys.length) b E) (rows:=rows++ys) (cur:=f.toArray++xs.toArray++Builtin.zeroCells g.cells (grownCap w (rows.length+ys.length) b E - (rows.length+ys.length)))
  (λr p=>by
   rcases ap3.1 p with p|p
   ·exact a0 r p
   ·exact a1 r p)
  (λc o=>by
   rw[ars]at o;rcases ap3.1 o with o|o
   ·exact a2 c o
   ·exact a3 c o)
  (by
   have m:(f.toArray++xs.toArray++Builtin.zeroCells g.cells (grownCap w (rows.length+ys.length) b E - (rows.length+ys.length))).toList.take (rows++ys).flatten.length=f++xs:=by
    rw[ar4,ar4,ac,<-aqb];exact asD
   rw[m,ars];exact(N.imp λ_ _ h=>h.mono I).append (O.imp λ_ _ h=>h.mono I)) (by rw[aqb];exact ag) ah
  (by
   simp only[ar3,arG,art,p5,B,s,<-aqv];congr 1;omega) (d_ d n) (by have:=l.n.2;omega) (w.drew.alloc (.cells (f.toArray++xs.toArray++Builtin.zeroCells g.cells (grownCap w (rows.length+ys.length) b E - (rows.length+ys.length))) E)) rfl (A.sr.ext.drew.alloc _)
 rw[aqb]at Z X;refine eo (oX ai) (hn _ hK _ _ _ ⟨by simpa[Act.put]using l.n,l.d,Z,TR.put ?_ (by rw[l.n.1];exact hd) ?_⟩)
 ·exact(((A.tr.kill d).mono I).mono X).env d (dO d st.t) (λ_ L=>Env.bx L) (λ_ L=>Env.db L)
 ·have:=VR.ow (Rd:=bO w0 V (m.cK d (some w.heap.size) (.slice (some ⟨w.heap.size,0,none⟩) (rows.length+ys.length) (grownCap w (rows.length+ys.length) b E)) 0) ((d,some (.arr E i.size (rows++ys) true))::br d n) (w.drew.alloc (.cells (f.toArray++xs.toArray++Builtin.zeroCells g.cells (grownCap w (rows.length+ys.length) b E - (rows.length+ys.length))) E))) (e:=m.cK d (some w.heap.size) (.slice (some ⟨w.heap.size,0,none⟩) (rows.length+ys.length) (grownCap w (rows.length+ys.length) b E)) 0) (k:=d)
  rw[Env.dJ]at this;exact this
end
variable{j:TypeDesc}
section
open Go Go.RowKit MapKept
variable{P:Program}
structure Pw(P:Program)(kt:TypeId)(d:TypeDesc):Prop where
 KQ:∀(e:Bool) (v:Value) (w:World),kD d v->(Instr.checkKey e 10000 kt v).run P w=.ok () w
 fnd:∀(v:Value) (l:List MapEntry),kD d v->(∀m∈l,kD d m.key)->
  ((∀w:World,(Instr.findKey kt v l).run P w=.ok none w)/\∀m∈l,m.key≠v)\/∃j m,(∀w:World,(Instr.findKey kt v l).run P w=.ok (some (j,m.val)) w)/\l[j]? =some m/\m.key=v
 stay:∀(v:Value) (w:World),kD d v->(Instr.keyThatStays v v).run P w=.ok v w
def Px:TypeDesc->Bool
 |.int _=>true
 |.bool=>true
 |_=>false
def oY(h:Px j=true):kD j v↔IsKey j v:=by
 cases j<;>simp[Px]at h<;>rfl
def C3{kt:TypeId}{d:TypeDesc}(hp:Px d=true)(hu:P.underlying kt=some d):Pw P kt d where
 KQ:=λe v w hv=>at1 hu ((oY hp).1 hv) e 9999
 fnd:=λv l hv hl=>by
  have hv':=(oY hp).1 hv;rcases findNow_spec hv' l 0 (λm hm=>(oY hp).1 (hl m hm))with⟨h1,h2⟩|⟨j,m,h1,h2,h3⟩
  ·exact .inl ⟨λw=>run_findKey hu h1,h2⟩
  ·exact .inr ⟨j,m,λw=>by have:=run_findKey (w:=w) hu h1;simpa using this,h2,h3⟩
 stay:=λv w hv=>run_keyThatStays ((oY hp).1 hv)
def akC(P:Program)(f g:Field):Bool:=decide (f.offset=0) && decide (g.offset=1) && f.name != "_"&& g.name != "_"&& (match P.underlying f.type,P.underlying g.type with
 |some (.int .i64),some (.int .i64)=>true
 |_,_=>false)
def KS(P:Program)(a:TypeId):Bool:= !(P.stoodInHeld a) && (match P.underlying a with
 |some (.struct ⟨[f,g]⟩)=>akC P f g
 |_=>false)
def ve(h:KS P b=true):P.stoodInHeld b=false/\∃f g,P.underlying b=some (.struct #[f,g])/\f.offset=0/\g.offset=1/\f.name≠ "_"/\g.name≠ "_"/\P.underlying f.type=some (.int .i64)/\P.underlying g.type=some (.int .i64):=by
 simp only[KS,apS,aq1]at h;obtain⟨m,a⟩:=h;split at a
 ·rename_i f g n
  simp only[akC,apS,aqQ,bne_iff_ne]at a;obtain⟨⟨⟨⟨d,e⟩,i⟩,j⟩,c⟩:=a;refine⟨m,f,g,n,d,e,i,j,?_⟩;split at c
  ·rename_i k l;exact⟨k,l⟩
  ·cases c
 ·cases a
def Gb(h:KS P b=true)(a e c d:Int)(w:World):(Op.equal b (.agg #[.int .i64 a,.int .i64 e]) (.agg #[.int .i64 c,.int .i64 d])).run P w=.ok (decide (a=c/\e=d)) w:=by
 obtain⟨z,f,g,u,C,D,A,B,x,y⟩:=ve h;have t:P.fieldsOf b= #[f,g]:=by simp[Program.fieldsOf,u]
 have p1:P.plainKey f.type=true:=by simp[Program.plainKey,x]
 have p2:P.plainKey g.type=true:=by simp[Program.plainKey,y]
 show(Op.equalIn (9999+1) _ _ _).run P w=_;rw[run_equalIn_struct w 9999 b _ _ (by rw[t];exact u) z,t];have k:∀i:eb,∀v,i[0]? =some v->(part f.type i f.offset).run P w=.ok v w:=λi v p=>arY w p1 (by rw[C];exact p);have q:∀i:eb,∀v,i[1]? =some v->(part g.type i g.offset).run P w=.ok v w:=λi v p=>arY w p2 (by rw[D];exact p);have j:(Op.equalIn 9999 f.type (.int .i64 a) (.int .i64 c)).run P w=.ok (a==c) w:=at2 (P:=P) w 9998 f.type .i64 .i64 a c x;have n:(Op.equalIn 9999 g.type (.int .i64 e) (.int .i64 d)).run P w=.ok (e==d) w:=at2 (P:=P) w 9998 g.type .i64 .i64 e d y;simp only[Op.eqFields,A,B,ne_eq,atj,aqs,ap6,k #[.int .i64 a,.int .i64 e] (.int .i64 a) rfl,k #[.int .i64 c,.int .i64 d] (.int .i64 c) rfl,ap7];have E:=k #[.int .i64 a,.int .i64 e] (.int .i64 a) rfl;have F:=k #[.int .i64 c,.int .i64 d] (.int .i64 c) rfl;have r:=q #[.int .i64 a,.int .i64 e] (.int .i64 e) rfl;have s:=q #[.int .i64 c,.int .i64 d] (.int .i64 d) rfl;cases l:(a==c)with
 |false=>
  rw[l]at j;have:¬a=c:=by simpa using l
  simp[j,this]
 |true=>
  rw[l]at j;have:a=c:=by simpa using l
  subst this;cases m:(e==d)with
  |false=>
   rw[m]at n;have o:¬e=d:=by simpa using m
   simp[j,n,r,s,o]
  |true=>
   rw[m]at n;have o:e=d:=by simpa using m
   subst o;simp[j,n,r,s]
def WN(h:KS P b=true)(e:Bool)(a c:Int)(w:World):(Instr.checkKey e 10000 b (.agg #[.int .i64 a,.int .i64 c])).run P w=.ok () w:=by
 obtain⟨t,f,g,o,r,s,p,q,d,i⟩:=ve h;have p1:P.plainKey f.type=true:=by simp[Program.plainKey,d]
 have p2:P.plainKey g.type=true:=by simp[Program.plainKey,i]
 have m:(part f.type #[Value.int .i64 a,.int .i64 c] f.offset).run P w=.ok (.int .i64 a) w:=arY w p1 (by rw[r];rfl);have n:(part g.type #[Value.int .i64 a,.int .i64 c] g.offset).run P w=.ok (.int .i64 c) w:=arY w p2 (by rw[s];rfl);have j:(Instr.checkKey e 9999 f.type (.int .i64 a)).run P w=.ok () w:=at1 d (k:=.int .i64 a) (by simp[IsKey]) e 9998;have l:(Instr.checkKey e 9999 g.type (.int .i64 c)).run P w=.ok () w:=at1 i (k:=.int .i64 c) (by simp[IsKey]) e 9998;rw[Instr.checkKey];simp[aqi o,ap6,p,q,m,n,j,l]
def KT{g:TypeId}(h:KS P g=true)(a b:Int):∀(l:List MapEntry) (i:Nat),(∀m∈l,∃c d:Int,m.key=.agg #[.int .i64 c,.int .i64 d])->
 ((∀w:World,(Instr.findAsking g (.agg #[.int .i64 a,.int .i64 b]) l i).run P w=.ok none w)/\∀m∈l,m.key≠.agg #[.int .i64 a,.int .i64 b])\/
  ∃j m,(∀w:World,(Instr.findAsking g (.agg #[.int .i64 a,.int .i64 b]) l i).run P w=.ok (some (i+j,m.val)) w)/\l[j]? =some m/\m.key=.agg #[.int .i64 a,.int .i64 b]
 |[],i,_=>.inl ⟨λw=>by simp[Instr.findAsking,ap8],by simp⟩
 |m::l,i,q=>by
  obtain⟨c,d,k⟩:=q m (by simp);by_cases p:a=c/\b=d
  ·obtain⟨rfl,rfl⟩:=p
   refine .inr ⟨0,m,λw=>?_,rfl,k⟩;have:=Gb h a b a b w;simp only[Instr.findAsking,k,ap6,this,ap7];simp[ap8]
  ·have t:m.key≠.agg #[.int .i64 a,.int .i64 b]:=λe=>by
    rw[k]at e;simp at e;exact p ⟨e.1.symm,e.2.symm⟩
   have r:∀w:World,(Instr.findAsking g (.agg #[.int .i64 a,.int .i64 b]) (m::l) i).run P w=(Instr.findAsking g (.agg #[.int .i64 a,.int .i64 b]) l (i+1)).run P w:=λw=>by
    have:=Gb h a b c d w;simp only[Instr.findAsking,k,ap6,this,ap7];simp[p]
   rcases KT h a b l (i+1) (λx f=>q x (by simp[f]))with⟨n,o⟩|⟨j,u,n,o,s⟩
   ·refine .inl ⟨λw=>by rw[r];exact n w,λx f=>?_⟩
    rcases aqj.1 f with rfl|f
    ·exact t
    ·exact o x f
   ·exact .inr ⟨j+1,u,λw=>by rw[r,n w];congr 3;omega,by simpa using o,s⟩
def Zj{kt:TypeId}(h:KS P kt=true):Pw P kt (.tuple #[])where
 KQ:=λe v w hv=>by
  obtain⟨a,b,rfl⟩:=hv;exact WN h e a b w
 fnd:=λv l hv hl=>by
  obtain⟨a,b,rfl⟩:=hv;obtain⟨h0,f,g,hu,_⟩:=ve h;have akD:∀w:World,(Instr.findKey kt (.agg #[.int .i64 a,.int .i64 b]) l).run P w=(Instr.findAsking kt (.agg #[.int .i64 a,.int .i64 b]) l 0).run P w:=λw=>by
   unfold Instr.findKey;rw[ap6,aqi hu,ap7];cases l with
   |nil=>simp[Instr.findNow,Instr.findAsking,ap8]
   |cons m l=>
    obtain⟨c,d,hm⟩:=hl m (by simp);simp[Instr.findNow,Instr.sameNow,hm]
  rcases KT h a b l 0 hl with⟨h1,h2⟩|⟨j,m,h1,h2,h3⟩
  ·exact .inl ⟨λw=>by rw[akD];exact h1 w,h2⟩
  ·exact .inr ⟨j,m,λw=>by rw[akD,h1 w];simp,h2,h3⟩
 stay:=λv w hv=>by
  obtain⟨a,b,rfl⟩:=hv;simp[Instr.keyThatStays,Instr.sameBits,ap8]
def ah7(P:Program)(a:TypeId):Option TypeDesc:=cond (KS P a) (some (.tuple #[])) (match P.underlying a with
 |some (.int k)=>some (.int k)
 |some .bool=>some .bool
 |_=>none)
def ae6(h:ah7 P b=some j):Pw P b j:=by
 unfold ah7 at h;cases a:KS P b with
 |true=>
  rw[a]at h;cases h;exact Zj a
 |false=>
  rw[a]at h;simp only[apW]at h;split at h
  ·rename_i k c
   cases h;exact C3 rfl c
  ·rename_i c
   cases h;exact C3 rfl c
  ·cases h
end
variable{h:List (List AV)}{X:Option Env}{a:Type}{G k:TypeId}{W:iM}
section
open Go Go.RowKit MapKept
open Classical in
noncomputable def fc{α:Type}:List (Value×α)->Value->Option α
 |[],_=>none
 |(k,c)::es,x=>if k=x then some c else fc es x
open Classical in
noncomputable def nz{α:Type}:List (Value×α)->Value->α->List (Value×α)
 |[],x,v=>[(x,v)]
 |(k,c)::es,x,v=>if k=x then(k,v)::es else(k,c)::nz es x v
def C4{α:Type}:∀{a:List (Value×α)} {x:Value},(∀p∈a,p.1≠x)->fc a x=none
 |[],_,_=>rfl
 |(k,c)::a,x,h=>by
  rw[fc,apQ (h (k,c) (by simp))];exact C4 λp b=>h p (by simp[b])
def KU{α:Type}:∀{a:List (Value×α)} {x:Value} {j:Nat} {c:α},a[j]? =some (x,c)->(∀(i:Nat) p,i<j->a[i]? =some p->p.1≠x)->fc a x=some c
 |[],_,_,_,h,_=>by simp at h
 |(k,e)::a,x,j,c,h,b=>by
  cases j with
  |zero=>simp at h;rw[fc,apR h.1,h.2]
  |succ j=>
   rw[fc,apQ (b 0 (k,e) (by omega) rfl)];exact KU (j:=j) (by simpa using h) λi p g f=>b (i+1) p (by omega) (by simpa using f)
def Gc{α:Type}:∀{a:List (Value×α)} {x:Value} {v:α},(∀p∈a,p.1≠x)->nz a x v=a++[(x,v)]
 |[],_,_,_=>rfl
 |(k,c)::a,x,v,h=>by
  rw[nz,apQ (h (k,c) (by simp)),Gc λp b=>h p (by simp[b])];rfl
def RT{α:Type}:∀{a:List (Value×α)} {x:Value} {j:Nat} {c v:α},a[j]? =some (x,c)->(∀(i:Nat) p,i<j->a[i]? =some p->p.1≠x)->nz a x v=a.set j (x,v)
 |[],_,_,_,_,h,_=>by simp at h
 |(k,e)::a,x,j,c,v,h,b=>by
  cases j with
  |zero=>simp at h;rw[nz,apR h.1,h.1];rfl
  |succ j=>
   rw[nz,apQ (b 0 (k,e) (by omega) rfl),RT (j:=j) (c:=c) (by simpa using h) λi p g f=>b (i+1) p (by omega) (by simpa using f)];rfl
def mapA(P:Program)(t:TypeId):Option (TypeDesc×Value):=
 match P.underlying t with
 |some (.map k e)=>match ah7 P k,P.info? e with
  |some d,some i=>match i.zero with
   |some z=>some (d,z)
   |none=>none
  |_,_=>none
 |_=>none
def hP{P:Program}{d:TypeDesc}(h:mapA P b=some (d,v)):∃k e i,P.underlying b=some (.map k e)/\Pw P k d/\P.info? e=some i/\i.zero=some v:=by
 unfold mapA at h;split at h
 ·rename_i k e a
  split at h
  ·rename_i j i c f
   split at h
   ·rename_i l g
    simp only[apU,aqa]at h;obtain⟨rfl,rfl⟩:=h;exact⟨k,e,i,a,ae6 c,f,g⟩
   ·cases h
  ·cases h
 ·cases h
def Kj:Value->AV
 |.agg a=>.ag (a.toList.map lq)
 |x=>lq x
def Ie{Rd:bE}(x:Value):VR Rd X (Kj x) x:=by
 unfold Kj;split
 ·rename_i a
  have h:=vY (Rd:=Rd) (E:=X) a.toList;have:=VR.ag (Rd:=Rd) (E:=X) a.toList h.1 h.2;simpa using this
 ·exact CP x
def Fz.find{P:Program}{R:a->Value->Prop}{d:TypeDesc}{g:List (Value×a)}{k:vU}(h:Fz R d g k m)(M:kD d v)(G:Pw P b d):
 ((∀w:World,(Instr.findKey b v k.toList).run P w=.ok none w)/\(∀x∈k.toList,x.key≠v)/\fc g v=none/\∀f,nz g v f=g++[(v,f)])\/
 ∃j e c,(∀w:World,(Instr.findKey b v k.toList).run P w=.ok (some (j,e.val)) w)/\k[j]? =some e/\e.key=v/\fc g v=some c/\R c e.val/\g[j]? =some (v,c)/\∀f,nz g v f=g.set j (v,f):=by
 have A:∀(j:Nat) p,g[j]? =some p->∃e,k[j]? =some e/\e.key=p.1:=λj p o=>by
  have l:j<k.size:=by rw[h.len];exact(apV.1 o).1
  exact⟨k[j],aqA l,(h.key j p _ o (aqA l)).1⟩
 rcases G.fnd v k.toList M h.isk with⟨r,q⟩|⟨j,e,r,q,s⟩
 ·have C:∀p∈g,p.1≠v:=λp o u=>by
   obtain⟨j,l,rfl⟩:=aqB o;obtain⟨e,n,N⟩:=A j _ (ap0 l);exact q e (Array.mem_toList_iff.2 (auJ n)) (N.trans u)
  exact .inl ⟨r,q,C4 C,λf=>Gc C⟩
 ·have n:k[j]? =some e:=by simpa using q
  have l:j<g.length:=by rw[<-h.len];exact(aqx.1 n).1
  have y:=h.key j _ e (ap0 l) n;have H:g[j].1=v:=y.1.symm.trans s;have t:g[j]? =some (v,g[j].2):=by rw[ap0 l,<-H]
  have z:∀(i:Nat) p,i<j->g[i]? =some p->p.1≠v:=λi p J o u=>by
   obtain⟨Q,B,O⟩:=A i p o;have S:=h.jV.2.2;have I:i<k.toList.length:=by have:=(aqx.1 B).1;simpa using this
   have L:j<k.toList.length:=by have:=(aqx.1 n).1;simpa using this
   have D:=atk.1 ((at3 k m).1 h.jV).2.2 i j I L J;have E:k.toList[i]=Q:=by
    have:=(aqx.1 B).2;simpa using this
   have F:k.toList[j]=e:=by
    have:=(aqx.1 n).2;simpa using this
   rw[E,F]at D;exact D (by rw[O,u,s])
  refine .inr ⟨j,e,g[j].2,r,n,s,KU t z,y.2,t,λf=>RT t z⟩
def Fz.put{P:Program}{R R':a->Value->Prop}{z:List (Value×a)}{y:vU}(n:Fz R j z y m)(M:∀c u,R c u->R' c u){w:Value}(s:kD j w)
 (p1:P.underlying b=some (.map k G)) (p2:Pw P k j) {c:a} {v:Value} (N:R' c v) {h:Nat} (C:o.heap[h]? =some (.map y m)):
 ∃I J,(Instr.mapUpdate b (.map (some h)) w v).run P o=.ok () {o with heap:=o.heap.setIfInBounds h (.map I J)}/\Fz R' j (nz z w c) I J:=by
 rcases n.find (P:=P) s p2 with⟨E,A,F,L⟩|⟨f,g,Y,E,A,F,L,Z,O,Q⟩
 ·refine⟨y.push {key:=w,val:=v,born:=m},m+1,?_,?_⟩
  ·simp[Instr.mapUpdate,aqi p1,aqW C,p2.KQ _ _ _ s,E,arl _ C,Result.andThen]
  ·rw[L]
   refine⟨by simp[n.len],λf x g p l=>?_,λg l=>?_,stamped_push n.jV A,λf g r=>?_,by rw[n.clk];simp⟩
   ·by_cases r:f<z.length
    ·rw[aqF r]at p
     rw[ar2,apQ (by rw[n.len];omega)]at l;exact⟨(n.key f x g p l).1,M _ _ (n.key f x g p l).2⟩
    ·have S:f=z.length:=by
      have:=(apV.1 p).1;simp at this;omega
     subst S;simp at p;rw[ar2,apR n.len.symm]at l;simp at l;subst p;subst l;exact⟨rfl,N⟩
   ·rw[Array.toList_push,ap3]at l
    rcases l with l|l
    ·exact n.isk g l
    ·simp at l;subst l;exact s
   ·rw[ar2]at r
    split at r
    ·rename_i e
     cases r;rw[e];exact n.clk
    ·exact n.Pe f g r
 ·have V:∀q,y[f]? =some q->({q with key:=w,val:=v}:MapEntry).key=q.key:=λq D=>by rw[A]at D;cases D;exact F.symm
  refine⟨y.modify f λe=>{e with key:=w,val:=v},m,?_,?_⟩
  ·simp[Instr.mapUpdate,aqi p1,aqW C,p2.KQ _ _ _ s,E,A,F,p2.stay _ _ s,arl _ C,Result.andThen]
  ·rw[Q]
   refine⟨by simp[n.len],λi x B p l=>?_,λB t=>?_,at4 n.jV _ _ (λ_ _=>rfl) (λq _ D=>V q D),λi B t=>?_,by rw[n.clk];simp⟩
   rotate_left
   ·obtain⟨i,hi,rfl⟩:=aqB t
    rw[asX,atl];split
    ·exact s
    ·exact n.isk _ (by simp)
   ·rw[arB]at t
    split at t
    ·obtain⟨X,W,rfl⟩:=aqo.1 t
     exact n.Pe i X W
    ·exact n.Pe i B t
   rw[arB]at l;by_cases H:f=i
   ·subst H
    have U:f<z.length:=(apV.1 O).1;rw[A]at l;simp at l;simp[U]at p;subst p;subst l;exact⟨rfl,N⟩
   ·rw[apQ H]at l
    rw[atm H]at p;exact⟨(n.key i x B p l).1,M _ _ (n.key i x B p l).2⟩
section
variable{P:Program}{st:St}{d:Nat}{dd:bU}{ty:TypeId}{pos:String}{af:dI}{gd:fE}{K:St->Prop}
def Ga.Ge{a:Act}(h:Ga Y E L st a o){i:List (Value×AV)}(s:st.ev c=.mp m)(r:a_ st.h m=some (.mp j i)):
 ∃b e f,a.eval c=.map (some b)/\L.bS m=some b/\L.cM m=0/\o.heap[b]? =some (.map e f)/\MR (bO Y E L st.h o) j i e f:=by
 obtain⟨l,b,e,f,k,n,p⟩:=h.sr.ob _ _ r;have g:=h.ev c;rw[s]at g;generalize a.eval c=u at g;cases g with
 |mp q=>
  obtain rfl:=apZ (q.symm.trans k);exact⟨_,e,f,rfl,k,l,n,p⟩
def RS.anY{k:Nat}{t u:TypeDesc}{es:List (Value×AV)}(q:W[0]? =some b)(p:mapA P b=some (t,v))(r:st.ev c=.mp k)(n:a_ st.h k=some (.mp u es)):
 RS P ⟨dd,.call ⟨.builtin .len, #[c],W⟩,ty,pos,af,gd⟩ st (.v (.int .i64 es.length)):=λH x e a w h=>by
 obtain⟨F,A,i,g,B,C,D⟩:=hP p;obtain⟨f,y,z,j,E,_,m,o⟩:=h.Ge r n;refine⟨_,.v,λG s=>?_⟩;have l:=s.block m;simp[execOp,resolve,invoke,builtin,Builtin.len_,q,aqi g,j,goInt,aqW l,o.len]
def RS.lookup{t:TypeId}{x y:Operand}{k:Nat}{q:TypeDesc}{z p:Value}{r:List (Value×AV)}(M:mapA P t=some (q,z))(N:st.ev x=.mp k)(J:a_ st.h k=some (.mp q r))(O:∀(Rd:bE) E u,VR Rd E (st.ev y) u->u=p)(n:kD q p):
 RS P ⟨dd,.lookup t x y false,ty,pos,af,gd⟩ st ((fc r p).getD (Kj z)):=λY R e a w h=>by
 obtain⟨X,V,i,v,g,H,I⟩:=hP M;obtain⟨b,S,U,A,W,_,B,L⟩:=h.Ge N J;have C:=O _ _ _ (h.ev y);rcases L.find (P:=P) n g with⟨f,D,s,_⟩|⟨j,m,c,f,D,s,F,G,_⟩
 ·refine⟨z,by rw[s];exact Ie z,λQ o=>?_⟩
  have l:=o.block B;simp[execOp,Instr.lookup,A,C,aqi v,aqW l,g.KQ _ _ _ n,f,zeroValue,typeInfo,H,I]
 ·refine⟨m.val,by rw[F];exact G.cS,λQ o=>?_⟩
  have l:=o.block B;simp[execOp,Instr.lookup,A,C,aqi v,aqW l,g.KQ _ _ _ n,f]
def RS.Zk{z o:Value}{p:List (Value×AV)}(Q:mapA P b=some (j,z))(R:st.ev c=.mp m)(N:a_ st.h m=some (.mp j p))(S:∀(Rd:bE) E u,VR Rd E (st.ev e) u->u=o)(v:kD j o):
 RS P ⟨dd,.lookup b c e true,ty,pos,af,gd⟩ st (.tu [(fc p o).getD (Kj z),.v (.bool (fc p o).isSome)]):=λG y f a w h=>by
 obtain⟨Z,X,i,B,s,L,M⟩:=hP Q;obtain⟨k,V,W,C,Y,_,D,O⟩:=h.Ge R N;have F:=S _ _ _ (h.ev e);rcases O.find (P:=P) v s with⟨r,H,A,_⟩|⟨n,g,l,r,H,A,I,J,_⟩
 ·have q:LR (VR (bO G y f st.h w) (some f)) [(fc p o).getD (Kj z),.v (.bool (fc p o).isSome)] [z,.bool false]:=by
   rw[A];exact LR.cons (Ie z) (LR.cons .v LR.nil)
  refine⟨_,.tu _ q.1 q.2,λU x=>?_⟩;have t:=x.block D;simp[execOp,Instr.lookup,C,F,aqi B,aqW t,s.KQ _ _ _ v,r,zeroValue,typeInfo,L,M]
 ·have q:LR (VR (bO G y f st.h w) (some f)) [(fc p o).getD (Kj z),.v (.bool (fc p o).isSome)] [g.val,.bool true]:=by
   rw[I];exact LR.cons J.cS (LR.cons .v LR.nil)
  refine⟨_,.tu _ q.1 q.2,λU x=>?_⟩;have t:=x.block D;simp[execOp,Instr.lookup,C,F,aqi B,aqW t,s.KQ _ _ _ v,r]
def SS.makeMap{t:TypeId}{z:Value}(L:mapA P t=some (j,z))(s:d<st.n)(k:K ⟨st.n,(d,.mp d)::cY d st.t,(d,some (.mp j []))::br d st.h⟩):SS P ⟨some d,.makeMap t none,ty,pos,af,gd⟩ st K:=by
 intro N H e a w next Q f B
 obtain⟨i,l⟩:=f.sr.kill d;have C:=WG w (.map #[] 0);obtain⟨F,n⟩:=i.tR d (some w.heap.size) (e.sv d) 0 (some (.mp j [])) (f.sr.ext.alloc (.map #[] 0)) (.inl ⟨d_ d st.h,by have:=f.n.2;omega⟩) (by simp) (λb g _=>Za w _ b g)
  (λb g _=>by obtain rfl:=apZ g;exact⟨f.sr.ext.hI (apT _),by simp,.inr (apT _)⟩)
  (λb o u ob D g J r=>by
   have q:=(i.base _ _ _ D g).2;refine⟨by rw[ash (w:=w) (Za w _ b q)];exact r,λ_ p=>?_⟩;obtain rfl:=apZ p;omega)
  (λRd I _ M E=>by
   obtain rfl:=apZ E;exact⟨Env.bW,w.heap.size, #[],0,Env.bT,C,rfl,λc x m G=>by simp at G,λm A=>by simp at A,stamped_empty 0,λc m y=>by simp at y,rfl⟩)
 refine eo (v:=.map (some w.heap.size)) (w':=w.alloc (.map #[] 0)) (by simp[execOp,run_makeMap]) (B _ k _ _ _ ⟨by simpa[Act.put]using f.n,f.d,F,TR.put ?_ (by rw[f.n.1];exact s) (.mp Env.bT)⟩);exact(((f.tr.kill d).mono l).mono n).env d (dO d st.t) (λ_ h=>Env.bx h) (λ_ h=>Env.db h)
def SS.mapUpdate{t:TypeId}{x y v:Operand}{k:Nat}{n:TypeDesc}{z m:Value}{r:List (Value×AV)}{h1:Hp}{c:AV}(ht:mapA P t=some (n,z))(hx:st.ev x=.mp k)(V:jx st.h (st.ev v)=some (h1,c))
 (A:a_ h1 k=some (.mp n r)) (hy:∀(Rd:bE) E u,VR Rd E (st.ev y) u->u=m) (U:kD n m) (M:K ⟨st.n,st.t,(k,some (.mp n (nz r m c)))::h1⟩):SS P ⟨none,.mapUpdate t x y v,ty,pos,af,gd⟩ st K:=by
 intro J L e a w next Q s hn
 obtain⟨kt,et,i,p1,p2,p3,p4⟩:=hP ht;obtain⟨C,a7,hv⟩:=qR s.sr (s.ev v) V;have l:=s.cM a7;have a6:(⟨st.n,st.t,h1⟩:St).ev x=.mp k:=by rw[<-hx];cases x<;>rfl
 obtain⟨b,a8,a9,O,p,W,I,Y⟩:=l.Ge a6 A;have a5:=hy _ _ _ (s.ev y);have G:=l.sr.base _ _ _ A p;have a1:∃f g,(Instr.mapUpdate t (.map (some b)) m (a.eval v)).run P w=.ok () {w with heap:=w.heap.setIfInBounds b (.map f g)}/\∀Rd,(∀b o u,bO J L C h1 w b o u->Rd b o u)->MR Rd n (nz r m c) f g:=by
  obtain⟨f,g,hr,X⟩:=Fz.put (P:=P) Y (λ_ _ h=>h) U p1 p2 hv I;exact⟨f,g,hr,λRd D=>MR.mono D X⟩
 obtain⟨f,g,a3,Z⟩:=a1;have H:=asY (o':=.map f g) I;have R:Bx J {w with heap:=w.heap.setIfInBounds b (.map f g)}:=
  l.sr.ext.step rfl rfl rfl (by simp) λj q _=>H.2 j λe=>q (by rw[e];exact G.1)
 obtain⟨a4,N⟩:=l.sr.tR (w':={w with heap:=w.heap.setIfInBounds b (.map f g)}) k (some b) (C.sv k) 0 (some (.mp n (nz r m c))) R (.inr ⟨p.symm,rfl⟩) (by simp)
  (λB F a0=>H.2 B λS=>a0 _ A (by rw[p];exact ap5 some S.symm))
  (λB F _=>by obtain rfl:=apZ F;exact⟨G.1,by simpa using G.2,.inl ⟨_,A,p⟩⟩)
  (λB o' u' ob ho F ab aa=>by have:C.cM k=0:=W;omega)
  (λRd D _ ac a2=>by
   obtain rfl:=apZ a2;exact⟨Env.bW,b,f,g,Env.bT,H.1,Z Rd D⟩)
 refine sP (w':={w with heap:=w.heap.setIfInBounds b (.map f g)}) ?_ (hn _ M _ _ _ ⟨l.n,l.d,a4,(l.tr.mono N).ir (λj=>by by_cases q:j=k<;>simp[Env.cK,q,p]) (λj=>by by_cases q:j=k<;>simp[Env.cK,q])⟩);simp[execOp,O,a5,a3]
def SS.akE{L s:Nat}(H:FA P b=some (k,L,s,F))(J:st.ev c=.sl D m h)(p:h=[]\/0<m)(B:d<st.n)
 (x:∀f:Bool,(f=true->h=[])->K ⟨st.n,(d,.v (.bool f))::st.t,st.h⟩):SS P ⟨some d,.binOp .eql b c (.const (.slice none 0 0)) G,ty,pos,af,gd⟩ st K:=by
 intro S N e a w next Q n j
 obtain⟨i,U,p2,_⟩:=cT H;have q:=n.ev c;rw[J]at q;obtain⟨g,l,M,z,I,O,C,_,_,_,y⟩:=q.lW;have A:g.isNone=true->h=[]:=λj=>by
  cases h with
  |nil=>rfl
  |cons r h=>
   have R:=I r (by simp);have p:0<m:=p.resolve_left (by simp);have E:M≠[]:=by
    rintro rfl;have:=C.1;simp at this;omega
   obtain⟨f,o,rfl,_⟩:=y E;cases j
 refine eo (v:=.bool g.isNone) (w':=w) ?_ (j _ (x g.isNone A) e _ _ (n.put B .v));have t:a.eval (.const (.slice none 0 0))=.slice none 0 0:=rfl;have u:(eqGuard .eql b c (.const (.slice none 0 0)) (.slice g h.length l) (.slice none 0 0)).run P w=.ok () w:=by simp[eqGuard]
 simp only[execOp,z,t,u,ap6,at5 w b k g h.length l 0 0 p2,ap7,ap8]
def RS.max2{o:iM}{x y:Operand}{k:IntKind}{m n:Int}(j:st.ev x=.v (.int k m))(l:st.ev y=.v (.int k n)):RS P ⟨dd,.call ⟨.builtin .max, #[x,y],o⟩,ty,pos,af,gd⟩ st (.v (.int k (if n>m then n else m))):=λr p e a w h=>by
 have b:=h.ev x;have c:=h.ev y;rw[j]at b;rw[l]at c;refine⟨_,.v,λq _=>?_⟩;have f:=b.bN;have g:=c.bN;have i:(#[x,y]:fU).map a.eval= #[.int k m,.int k n]:=by simp only[asd,aqc,aqZ,f,g]
 simp only[execOp,resolve,i,ap6,ap8,ap7,invoke,builtin,Builtin.max_,asr,ass,Builtin.max2]
end
end
variable{R:AV}{C:IntKind}
section
variable{P:Program}{st:St}{d:Nat}{dd:bU}{ty:TypeId}{pos:String}{af:dI}{gd:fE}{K:St->Prop}
def SS.C5{t:TypeId}{n l:Nat}(k:Aj P t=some F)(p:∀r∈h,r.length=l)(E:h.length=n)(m:h.flatten=F.map lq)(f:∀c∈h.flatten,c.one=true)(C:n<=maxLen)(A:d<st.n)
 (x:K ⟨st.n,(d,.pt d 0)::cY d st.t,(d,some (.arr t l h true))::br d st.h⟩):SS P ⟨some d,.alloc t,ty,pos,af,gd⟩ st K:=by
 intro L q e a w next Q b D
 obtain⟨G,y⟩:=b.sr.kill d;have B:=ej p;have I:F.length=n*l:=by rw[<-E,<-B,m,ap1]
 have o:LR (VR (bO L q e (br d st.h) w) none) h.flatten F:=by
  rw[m];exact⟨by simp,λj c u f s=>by
   rw[aqd,s]at f;simp at f;subst f;exact CP u⟩
 obtain⟨H,z⟩:=G.H9 d t l n (rows:=h) (cur:=F.toArray) p f (by
  have:F.toArray.toList.take h.flatten.length=F:=by
   rw[o.1.symm];simp
  rw[this];exact o) (by omega) C (by simp[I]) (d_ d st.h) (by have:=b.n.2;omega) (w.alloc (.cells F.toArray t)) rfl (b.sr.ext.alloc _)
 unfold Aj at k;obtain⟨i,g,k⟩:=ar9.1 k;obtain⟨M,J,rfl⟩:=aqo.1 k;refine eo (v:=.pointer (some ⟨w.heap.size,0,none⟩)) (w':=w.alloc (.cells M.cells.toList.toArray t)) ?_ (D _ x _ _ _ ⟨by simpa[Act.put]using b.n,b.d,H,TR.put ?_ (by rw[b.n.1];exact A) (.pt Env.bT)⟩)
 ·simp[execOp,Instr.alloc,zeroValue,typeInfo,g,J,newVar,newRow,newObj,Sem.run]
 ·exact(((b.tr.kill d).mono y).mono z).env d (dO d st.t) (λ_ g=>Env.bx g) (λ_ g=>Env.db g)
def SS.we{t E:TypeId}{len f U:Nat}{parts:CI}{h':Hp}{aS cs:List AV}{qs:List (Nat×List AV)}(ht:FA P t=some (E,f,U,F))
 (hl:ni st.h (parts.toList.map λp=>st.ev p.2)=some (h',aS)) (hq:k5 (parts.toList.map (·.1)) aS=some qs) (L:gv (λi=>some (i*f,f)) (List.replicate (len*f) .un) qs=some cs)
 (y:cs.all AV.one=true) (Z:len*f<=16777216) (a5:0<f) (hd:d<st.n) (X:K ⟨st.n,(d,.ow d)::cY d st.t,(d,some (.arr E f (chunk f len cs) true))::br d h'⟩):SS P ⟨some d,.buildSlice t len parts,ty,pos,af,gd⟩ st K:=by
 intro B q e a w next Q h hn
 obtain⟨i,zv,n,V,W,h5,rfl,_,_⟩:=cT ht;have Y:LR (VR (bO B q e st.h w) (some e)) (parts.toList.map λp=>st.ev p.2) (parts.toList.map λp=>a.eval p.2):=by
  refine⟨by simp,λj c u y n=>?_⟩;rw[aqd]at y n;obtain⟨x,R,rfl⟩:=aqo.1 y;rw[R]at n;simp at n;subst n;exact h.ev x.2
 obtain⟨s,l,D⟩:=y_ _ _ _ _ _ _ h.sr Y hl;have o:=h.cM l;obtain⟨p1,p2⟩:=zb _ _ _ _ hq D (by simp);obtain⟨H,a0,a6⟩:=k6 (P:=P) w t E len (parts.map λ(i,x)=>(i,a.eval x)) i zv n V W Z;have a4:LR (VR (bO B q s h' w) none) (List.replicate (len*i.size) .un) H.toList:=by
  refine⟨by simp[a0],λj c u b hu=>?_⟩;rw[asn]at b;split at b
  ·simp at b;subst b;exact .un
  ·cases b
 obtain⟨g,M,z⟩:=jw (place:=λj=>some (j*i.size,i.size)) qs _ _ cs H a4 p1 p2 L;have a8:(parts.toList.map (·.1)).zip (parts.toList.map λp=>a.eval p.2)=(parts.map λ(i,x)=>(i,a.eval x)).toList:=by
  rw[arv,List.zip_map']
 rw[a8]at M;have N:cs.length=len*i.size:=by
  have R:=z.1;have:∀(A:List (Nat×List AV)) (c r:List AV),gv (λj=>some (j*i.size,i.size)) c A=some r->r.length=c.length:=by
   intro A
   induction A with
   |nil=>intro c r m;simp only[gv,apU]at m;rw[m]
   |cons p A ih=>
    intro c r m;obtain⟨k,xs⟩:=p;simp only[gv]at m;split at m
    ·rw[ih _ _ m,k4]
    ·cases m
  rw[this _ _ _ L];simp
 obtain⟨G,S,k3⟩:=CY i.size len cs N;obtain⟨a7,I⟩:=o.sr.kill d;have a2:len<=maxLen:=by
  unfold maxLen;have:len*1<=len*i.size:=arL _ a5;omega
 have a1:(chunk i.size len cs).flatten.length=g.toList.length:=by rw[G,z.1]
 have a3:LR (VR (bO B q s (br d h') w) none) (chunk i.size len cs).flatten (g.toList.take (chunk i.size len cs).flatten.length):=by
  rw[a1,List.take_length,G];exact z.imp λ_ _ D=>D.mono I
 obtain⟨O,J⟩:=a7.H9 d E i.size len (rows:=chunk i.size len cs) (cur:=g) k3 (λc b=>by rw[G]at b;exact aqg.1 y c b) a3 (by rw[S];exact apT _) a2 (by have:=z.1;rw[N]at this;simpa using this) (d_ d h') (by have:=h.n.2;omega) (w.alloc (.cells g E)) rfl (o.sr.ext.alloc _);rw[S]at O J;refine eo (v:=.slice (some ⟨w.heap.size,0,none⟩) len len) (w':=w.alloc (.cells g E)) ?_ (hn _ X _ _ _ ⟨by simpa[Act.put]using o.n,o.d,O,TR.put ?_ (by rw[o.n.1];exact hd) ?_⟩)
 ·simp only[execOp,ap6,a6 g M,ap7,ap8]
 ·exact(((o.tr.kill d).mono I).mono J).env d (dO d st.t) (λ_ C=>Env.bx C) (λ_ C=>Env.db C)
 ·have:=VR.ow (Rd:=bO B q (s.cK d (some w.heap.size) (.slice (some ⟨w.heap.size,0,none⟩) len len) 0) ((d,some (.arr E i.size (chunk i.size len cs) true))::br d h') (w.alloc (.cells g E))) (e:=s.cK d (some w.heap.size) (.slice (some ⟨w.heap.size,0,none⟩) len len) 0) (k:=d)
  rw[Env.dJ]at this;exact this
def RS.imp{o:Oper}(h:RS P o st s)(c:∀Rd E u,VR Rd E s u->VR Rd E R u):RS P o st R:=λj b e a w f=>by
 obtain⟨v,i,g⟩:=h j b e a w f;exact⟨v,c _ _ _ i,g⟩
def RS.Py{n a f:Nat}{i:Int}(l:arA P b=some (n,k,a))(r:st.ev e=.v (.int C i))(g:0<=i)(h:i<n)(p:st.ev c=.pt f 0):
 RS P ⟨dd,.indexAddr b c e,ty,pos,af,gd⟩ st (.pe f i.toNat a 0):=by
 refine RS.imp (RS.vX (q:=.pt f (0+i.toNat*a)) l r g h (by rw[p];rfl)) λRd k u m=>?_;cases m with
 |pt j=>
  have:=VR.pe (Rd:=Rd) (i:=i.toNat) (sz:=a) (o:=0) j;rw[arf]at this;rw[aqq];exact this
def RS.ah8{p m:iL}{n L I l h:Nat}(Q:arA P b=some (n,k,L))(R:st.ev c=.pt I 0)(B:qJ st 0 p=some l)(z:qJ st n m=some h)(V:l<=h)(W:h<=n)(X:n<=maxLen):
 RS P ⟨dd,.slice b c p m none,ty,pos,af,gd⟩ st (.sw I l (h - l) L):=λw0 U e a w x=>by
 obtain⟨S,v,M,rfl⟩:=sO Q;have C:=x.ev c;rw[R]at C;generalize r:a.eval c=u at C;cases C with
 | @pt e f o g E=>
  have j:P.elem b=k:=by simp[Program.elem,v]
  have i:P.arrayLen b=n:=by simp[Program.arrayLen,v]
  have t:P.underlying b=some (.array (P.arrayLen b) (P.elem b)):=by rw[j,i];exact v
  have O:(p=none/\l=0)\/∃f,p.map a.eval=some (.int f (l:Int)):=by
   cases p with
   |none=>simp[qJ]at B;exact .inl ⟨rfl,B.symm⟩
   |some y=>obtain⟨f,A⟩:=v_ x B;exact .inr ⟨f,by simp[A]⟩
  have N:(m=none/\h=n)\/∃f,m.map a.eval=some (.int f (h:Int)):=by
   cases m with
   |none=>simp[qJ]at z;exact .inl ⟨rfl,z.symm⟩
   |some y=>obtain⟨f,A⟩:=v_ x z;exact .inr ⟨f,by simp[A]⟩
  refine⟨slicedAt ⟨g,0,none⟩ l h n S.size,?_,λq Z=>?_⟩
  ·unfold slicedAt
   by_cases D:n=l
   ·rw[apR D]
    exact VR.sw E (λY=>by omega) (by omega) (by omega)
   ·rw[apQ D,aqz,aqq]
    exact VR.sw E (λ_=>rfl) (by omega) (by omega)
  ·have s:=cG (P:=P) q M
   rcases O with⟨rfl,rfl⟩|⟨J,G⟩<;>rcases N with⟨rfl,rfl⟩|⟨H,F⟩
   ·simp[execOp,r,auK q b ⟨g,0,none⟩ t,j,i,s]
   ·simp only[execOp,r,arO,F,auL q b ⟨g,0,none⟩ t H h (by omega) (by rw[i];omega),ap6,j,s,i,ap7,ap2,ap8]
   ·simp only[execOp,r,arO,G,auM q b ⟨g,0,none⟩ t J l (by omega) (by rw[i];omega),ap6,j,s,i,ap7,ap2,ap8]
   ·simp only[execOp,r,arO,G,F,auN q b ⟨g,0,none⟩ t J H l h (by omega) (by omega) (by rw[i];omega),ap6,j,s,i,ap7,ap2,ap8]
end
variable{A:Int}
section
variable{P:Program}{st:St}{d:Nat}{dd:bU}{ty:TypeId}{pos:String}{af:dI}{gd:fE}{K:St->Prop}
def RS.makeFunc{c:Fn}{f b:fU}:RS P ⟨dd,.makeFunc c f b,ty,pos,af,gd⟩ st (.cl c (f.toList.map st.ev) (b.toList.map st.ev)):=λn l e a w h=>by
 refine⟨.func c (f.map a.eval) (b.map a.eval),?_,λm _=>by simp[execOp,Instr.makeFunc]⟩;have j:=h.args f;have k:=h.args b;have:=VR.cl (fn:=c) _ _ j.1 k.1 j.2 k.2;have i:∀g:fU,(g.toList.map a.eval).toArray=g.map a.eval:=λg=>by rw[<-arv]
 rw[i,i]at this;exact this
def nnA:AV->Bool
 |.pt _ _=>true
 |.pe _ _ _ _=>true
 |.fp _=>true
 |.cl (.func _) _ _=>true
 |_=>false
def RS.nilCheck(j:nnA (st.ev c)=true):RS P ⟨dd,.nilCheck c,ty,pos,af,gd⟩ st (st.ev c):=λy p e a w h=>by
 refine⟨a.eval c,h.ev c,λx _=>?_⟩;have i:=h.ev c;generalize st.ev c=b at j i;generalize g:a.eval c=u at i;cases i with
 |pt l=>simp[execOp,g]
 |pe l=>simp[execOp,g]
 |fp o n m s=>simp[execOp,g]
 | @cl _ k r q o z n v m t=>
  cases k with
  |func f=>simp[execOp,g]
  |_=>simp[nnA]at j
 |_=>simp[nnA]at j
def OR.ah9{Rd:bE}(c:OR Rd L o m (.arr b 1 h true)):OR Rd L o m (.nr b h.flatten):=by
 obtain⟨r,w,s,t⟩:=c;have g:h.flatten.length=h.length:=by rw[ej r,arh]
 refine⟨s rfl,?_⟩;rcases t with⟨rfl,e,f⟩|⟨a,p,q,i,e,f,j,k,l,n,v⟩
 ·exact .inl ⟨rfl,e,f⟩
 ·exact .inr ⟨a,p,q,i,by rw[g];exact e,by rw[g];exact f,j,k,by rw[l,arh],n.imp λ_ _ u=>u.cS⟩
def qV(a:List AV):(a.map λc=>[c]).flatten=a:=by
 induction a with
 |nil=>rfl
 |cons c a b=>simp[b]
def OR.akG{Rd:bE}(h:OR Rd L o m (.nr b i))(y:∀c∈i,c.fz=true)(w:∀c∈i,c.one=true)(wr:Bool):OR Rd L o m (.arr b 1 (i.map λc=>[c]) wr):=by
 obtain⟨k,x⟩:=h;refine⟨λr z=>?_,by rw[qV];exact w,λ_=>k,?_⟩
 ·obtain⟨c,_,rfl⟩:=ap4.1 z
  rfl
 ·rcases x with⟨rfl,e,f⟩|⟨a,t,v,n,e,f,p,q,s,g⟩
  ·exact .inl ⟨rfl,e,f⟩
  ·refine .inr ⟨a,t,v,n,by rw[ap1];exact e,by rw[ap1];exact f,p,q,by rw[s,arh],?_,by rw[k];exact aql _⟩
   rw[qV];exact⟨g.1,λj c u l A=>(g.2 j c u l A).CR (y c (ap_ l))⟩
def OR.anZ{Rd:bE}{g cs':List AV}(e:cs'.length=g.length)(A:∀(j:Nat) c f,g[j]? =some c->cs'[j]? =some f->∀u,VR Rd (some L) c u->VR Rd (some L) f u)(h:OR Rd L o m (.nr b g)):OR Rd L o m (.nr b cs'):=by
 obtain⟨y,z⟩:=h;refine⟨y,?_⟩;rcases z with⟨rfl,i,k⟩|⟨a,w,x,r,i,k,s,t,v,l⟩
 ·exact .inl ⟨aqT e,i,k⟩
 ·refine .inr ⟨a,w,x,r,by rw[e];exact i,by rw[e];exact k,s,t,v,⟨by rw[e];exact l.1,λj f u n q=>?_⟩⟩
  rw[e]at q;have p:j<g.length:=by rw[<-e];exact(apV.1 n).1
  exact A j _ f (ap0 p) n u (l.2 j _ u (ap0 p) q)
def RS.RU{cs:List AV}{l:Nat}
 (E:FA P b=some (k,1,m,F)) (G:st.ev c=.ow l) (y:a_ st.h l=some (.nr k cs)) (H:st.ev e=.v (.int C A)) (p:0<=A) (n:A<cs.length):
 RS P ⟨dd,.indexAddr b c e,ty,pos,af,gd⟩ st (.pe l A.toNat 1 0):=λZ L f a w h=>by
 obtain⟨I,zv,q,r,N,O,s,_,_⟩:=cT E;have j:=h.ev c;rw[G]at j;have i:=h.ev e;rw[H]at i;have i:=i.bN;obtain⟨_,B⟩:=h.sr.ob _ _ y;rcases B with⟨z,R,_⟩|⟨g,o,M,x,D,S,X,V,U,W⟩
 ·subst z;simp at n;omega
 have v:a.eval c=.slice (some ⟨g,0,none⟩) cs.length o:=by
  generalize Q:a.eval c=u at j;cases j with
  |ow=>exact D
 refine⟨.pointer (some ⟨g,A.toNat*1+0,none⟩),.pe x,λJ Y=>?_⟩;have t:(⟨g,0,none⟩:Addr).add (A.toNat*I.size)=⟨g,A.toNat,none⟩:=by rw[s,aqz,aqq,arh]
 simp[execOp,Instr.indexAt,i,asIntOf,aqi q,v,p,n,cG J r,t]
def SR.Ig(l:SR Y E L n o){c:Nat}(k:a_ n m=some (.nr b i))(f:L.bS m=some c)(a:Nat)
 (W:VR (bO Y E L n o) (some L) s v):
 SR Y E (L.cK m (some c) (L.sv m) 0) ((m,some (.nr b (i.set a s)))::n) (o.setCell ⟨c,a,none⟩ v)/\
 ∀h w x,bO Y E L n o h w x->bO Y E (L.cK m (some c) (L.sv m) 0) ((m,some (.nr b (i.set a s)))::n) (o.setCell ⟨c,a,none⟩ v) h w x:=by
 obtain⟨N,U⟩:=l.ob _ _ k;have t:=l.base _ _ _ k f;rcases U with⟨Z,G,_⟩|⟨g,C,p,F,V,H,Q,J,I,A⟩
 ·rw[G]at f;cases f
 obtain rfl:g=c:=apZ (F.symm.trans f);refine l.tR m (some g) (L.sv m) 0 _ (l.ext.setCell t.1 _) (.inr ⟨f.symm,rfl⟩) (by simp) (λh r R=>atJ o _ _ _ (λM=>R _ k (by rw[f];exact ap5 some M.symm))) (λh r _=>?_) (λh w x ob ho r O X=>?_) (λRd y _ a0 S=>?_)
 ·obtain rfl:=apZ r
  exact⟨t.1,by simp;exact t.2,.inl ⟨_,k,f⟩⟩
 ·rw[N]at O;omega
 ·obtain rfl:=apZ S
  have z:∀j,(L.cK m (some g) (L.sv m) 0).bS j=L.bS j:=λj=>by by_cases u:j=m<;>simp[Env.cK,u,f]
  have B:∀j,(L.cK m (some g) (L.sv m) 0).sv j=L.sv j:=λj=>by by_cases u:j=m<;>simp[Env.cK,u]
  refine⟨Env.bW,.inr ⟨g,C,p.setIfInBounds a v,Env.bT,by rw[Env.dJ,ard];exact V,by rw[ard];exact H,Q,atM o g a p b v J,by simpa using I,?_⟩⟩;rw[ard,asA,atd];have q:LR (VR Rd (some (L.cK m (some g) (L.sv m) 0))) i (p.toList.take i.length):=⟨A.1,λe s v q D=>((A.2 e s v q D).mono y).ir rfl z B⟩;exact q.set a ((W.mono y).ir rfl z B)
def SS.Ig{t l:TypeId}{x y:Operand}{k i:Nat}{n:List AV}{c:AV}{D:Bool}(Y:st.ev x=.pe k i 1 0)(r:a_ st.h k=some (.nr l n))(ht:Pn P t=some (D,1))(O:cellsOf (st.ev y)=some [c])
 (E:c.one=true) (W:nR st.h (st.ev y)=true) (X:nR st.h c=true) (hi:i<n.length) (G:K ⟨st.n,st.t,(k,some (.nr l (n.set i c)))::st.h⟩):
 SS P ⟨none,.store t x y,ty,pos,af,gd⟩ st K:=by
 intro w0 C e a w next Q h V
 obtain⟨B,hu,s⟩:=oR O (h.ev y) (h.nR W);have p:=h.ev x;rw[Y]at p;generalize J:a.eval x=u at p;cases p with
 | @pe _ _ _ _ _ b g=>
  obtain⟨td,ad,h2,F,_,a2⟩:=ic ht;obtain⟨v,rfl⟩:∃v,B=[v]:=by
   match B,s.1 with
   |[v],_=>exact⟨v,rfl⟩
  have A:VR (bO w0 C e st.h w) (some e) c v:=s.2 0 c v rfl rfl;have ab:v.oneCell'=true:=A.jv E λe' k' R S=>by cases R;exact h.nR X k' S
  obtain⟨hs,H⟩:=h.sr.Ig r g i A;obtain⟨a8,Z⟩:=h.sr.ob _ _ r;rcases Z with⟨aa,N,_⟩|⟨f,a3,m,L,ac,a4,hm,q,a6,a9⟩
  ·rw[N]at g;cases g
  obtain rfl:=apZ (L.symm.trans g);have M:∀j,(e.cK k (some f) (e.sv k) 0).bS j=e.bS j:=λj=>by by_cases o:j=k<;>simp[Env.cK,o,g]
  have a0:∀j,(e.cK k (some f) (e.sv k) 0).sv j=e.sv j:=λj=>by by_cases o:j=k<;>simp[Env.cK,o]
  refine sP (w':=w.setCell ⟨f,i,none⟩ v) ?_ (V _ G _ _ _ ⟨h.n,h.d,hs,(h.tr.mono H).ir M a0⟩);have U:i<m.size:=by omega
  have a5:w.cell? ⟨f,i,none⟩=some m[i]:=by
   rw[aqV w f i m l (0,0) q];simp[U]
  have a7:=asm w f i m l q;have a1:(store ⟨f,i,none⟩ v).run P w=.ok () (w.setCell ⟨f,i,none⟩ v):=by
   cases v<;>simp_all[store,Sem.run,Value.oneCell']
  have I:(⟨f,i*1+0,none⟩:Addr).add 0=⟨f,i,none⟩:=by rw[aqz];simp
  have z:(storeCells ⟨f,i*1+0,none⟩ [v] 0).run P w=.ok () (w.setCell ⟨f,i,none⟩ v):=by
   simp only[storeCells,ap6,I,a1,ap7,ap8]
  simp only[arh,arf]at z;simp[execOp,Instr.storeAt,Instr.sureAddr,J,storeVar,hu,cG w F,<-a2,z]
end
variable{O:List (List AV)}{d:Nat}
inductive Sc where
 |i (k:IntKind)
 |b
 |sl (r:Sc)
 |pr (x y:Sc)
 |u
@[reducible] def Sc.cZ:Sc->Type
 |.i _=>Int
 |.b=>Bool
 |.sl r=>List r.cZ
 |.pr x y=>x.cZ×y.cZ
 |.u=>Unit
def Sc.w:Sc->Nat
 |.pr x y=>x.w+y.w
 |.u=>0
 |.i _=>1
 |.b=>1
 |.sl _=>1
def Sc.eqP:(a c:Sc)->Option (PLift (a=c))
 |.i k,.i l=>if h:k=l then some ⟨by rw[h]⟩else none
 |.b,.b=>some ⟨rfl⟩
 |.sl r,.sl s=>match Sc.eqP r s with
  |some ⟨h⟩=>some ⟨by rw[h]⟩
  |none=>none
 |.pr x y,.pr z w=>match Sc.eqP x z with
  |some ⟨h⟩=>match Sc.eqP y w with
   |some ⟨g⟩=>some ⟨by rw[h,g]⟩
   |none=>none
  |none=>none
 |.u,.u=>some ⟨rfl⟩
 |_,_=>none
def eB(a c:Sc)(x:a.cZ):Option c.cZ:=match Sc.eqP a c with
 |some ⟨h⟩=>some (h▸x)
 |none=>none
def di{a c:Sc}{x:a.cZ}{y:c.cZ}(h:eB a c x=some y):∃e:a=c,y=e▸x:=by
 unfold eB at h;split at h
 ·rename_i e _
  cases h;exact⟨e,rfl⟩
 ·cases h
def bF:(s:Sc)->s.cZ->List AV
 |.i k,x=>[.v (.int k x)]
 |.b,x=>[.v (.bool x)]
 |.sl r,a=>[.sl false r.w (List.map (bF r) a)]
 |.pr x y,p=>bF x p.1++bF y p.2
 |.u,_=>[]
def encS:(s:Sc)->s.cZ->AV
 |.i k,x=>.v (.int k x)
 |.b,x=>.v (.bool x)
 |.sl r,a=>.sl false r.w (List.map (bF r) a)
 |.pr _ _,_=>.un
 |.u,_=>.un
def eT:∀(s:Sc) (x:s.cZ),(bF s x).length=s.w
 |.i _,_=>rfl
 |.b,_=>rfl
 |.sl _,_=>rfl
 |.pr x y,p=>by rw[bF,aqb,eT x,eT y];rfl
 |.u,_=>rfl
def nY:∀(s:Sc) (x:s.cZ),∀c∈bF s x,c.one=true
 |.i _,_,c,h=>by simp only[bF,aqe]at h;subst h;rfl
 |.b,_,c,h=>by simp only[bF,aqe]at h;subst h;rfl
 |.sl _,_,c,h=>by simp only[bF,aqe]at h;subst h;rfl
 |.pr x y,p,c,h=>by
  simp only[bF,ap3]at h;exact h.elim (nY x _ c) (nY y _ c)
 |.u,_,c,h=>by simp[bF]at h
def Ih:∀(s:Sc) (x:s.cZ),∀c∈bF s x,c.fz=true
 |.i _,_,c,h=>by simp only[bF,aqe]at h;subst h;rfl
 |.b,_,c,h=>by simp only[bF,aqe]at h;subst h;rfl
 |.sl _,_,c,h=>by simp only[bF,aqe]at h;subst h;rfl
 |.pr x y,p,c,h=>by
  simp only[bF,ap3]at h;exact h.elim (Ih x _ c) (Ih y _ c)
 |.u,_,c,h=>by simp[bF]at h
inductive EV where
 |un
 |sc (s:Sc) (x:s.cZ)
 |nil
 |ts (r:Sc) (xs:List r.cZ)
 |v (x:Value)
 |ow (k:Nat)
 |pt (k o:Nat)
 |pe (k:Nat) (i:Int) (sz o:Nat)
 |sw (k:Nat) (l n:Int) (sz:Nat)
 |mp (k:Nat)
 |fp (cs:List EV)
 |ag (cs:List EV)
 |tu (cs:List EV)
 |cl (fn:Fn) (fs cs:List EV)
mutual
def enc:EV->AV
 |.un=>.un
 |.sc s x=>encS s x
 |.nil=>.sl true 0 []
 |.ts r e=>.sl true r.w (List.map (bF r) e)
 |.v x=>.v x
 |.ow k=>.ow k
 |.pt k o=>.pt k o
 |.pe k i b o=>.pe k i.toNat b o
 |.sw k l n b=>.sw k l.toNat n.toNat b
 |.mp k=>.mp k
 |.fp a=>.fp (bX a)
 |.ag a=>.ag (bX a)
 |.tu a=>.tu (bX a)
 |.cl c d a=>.cl c (bX d) (bX a)
def bX:List EV->List AV
 |[]=>[]
 |c::a=>enc c::bX a
end
def dR:∀a:List EV,bX a=a.map enc
 |[]=>rfl
 |c::a=>by rw[bX,dR a];rfl
def kH(a ds:List EV):bX (a++ds)=bX a++bX ds:=by rw[dR,dR,dR,aqH]
def fF(a:List EV):(bX a).length=a.length:=by rw[dR,ap1]
def qW:(s:Sc)->s.cZ->List EV
 |.i k,x=>[.sc (.i k) x]
 |.b,x=>[.sc .b x]
 |.sl r,a=>[.sc (.sl r) a]
 |.pr x y,p=>qW x p.1++qW y p.2
 |.u,_=>[]
def gB:∀(s:Sc) (x:s.cZ),bX (qW s x)=bF s x
 |.i _,_=>rfl
 |.b,_=>rfl
 |.sl _,_=>rfl
 |.pr x y,p=>by rw[qW,kH,gB x,gB y];rfl
 |.u,_=>rfl
def iS:(s:Sc)->s.cZ->EV
 |.pr x y,p=>.ag (qW (.pr x y) p)
 |.u,p=>.ag []
 |.i k,x=>.sc (.i k) x
 |.b,x=>.sc .b x
 |.sl r,x=>.sc (.sl r) x
def Wk(c a:AV):Prop:=∀(Rd:bE) E u,VR Rd E c u->VR Rd E a u
def Wk.refl(c:AV):Wk c c:=λ_ _ _ h=>h
inductive nA:List AV->List AV->Prop
 |nil:nA [] []
 |cons {c c':AV} {cs cs':List AV} (h:Wk c c') (hs:nA cs cs'):nA (c::cs) (c'::cs')
def nA.refl:∀a:List AV,nA a a
 |[]=>.nil
 |c::a=>.cons (Wk.refl c) (nA.refl a)
def nA.append{a c d e:List AV}(h:nA a c)(k:nA d e):nA (a++d) (c++e):=by
 induction h with
 |nil=>exact k
 |cons h f b=>exact .cons h b
def nA.len(h:nA i u):u.length=i.length:=by
 induction h with
 |nil=>rfl
 |cons _ _ a=>simp[a]
def nA.get{a c:List AV}(h:nA a c):∀(j:Nat) x,a[j]? =some x->∃y,c[j]? =some y/\Wk x y:=by
 induction h with
 |nil=>intro j x b;simp at b
 |cons h e d=>
  intro j x b;cases j with
  |zero=>simp at b;subst b;exact⟨_,rfl,h⟩
  |succ j=>exact d j x (by simpa using b)
def nA.lr(h:nA i u){Rd:bE}(c:LR (VR Rd X) i F):LR (VR Rd X) u F:=by
 refine⟨by rw[c.1,h.len],λj y a d f=>?_⟩;have b:j<i.length:=by
  have:=(apV.1 d).1;rw[h.len]at this;exact this
 obtain⟨k,e,g⟩:=h.get j _ (ap0 b);rw[d]at e;cases e;exact g _ _ _ (c.2 j _ a (ap0 b) f)
def Wk.tight:Wk (.sl true d h) (.sl false d h):=by
 intro Rd E u a;cases a with
 |sl k j c i g b e l f=>exact .sl k j c i g b e (by simp) f
def Wk.empty(h:D=false):Wk (.sl true d []) (.sl D m []):=by
 intro Rd E u h;cases h with
 |sl g k i f e a b j c=>exact .sl g (by simp) (by simp) f e a b (by simp[*]) c
def Wk.Pz:Wk (.sl D d []) (.sl D m []):=by
 intro Rd E u h;cases h with
 |sl i k j g f a b c e=>exact .sl i (by simp) (by simp) g f a b c e
def Wk.ag{a b:List AV}(h:nA a b):Wk (.ag a) (.ag b):=by
 intro Rd E u d;obtain⟨e,rfl,c⟩:=VR.e9 d;have:=h.lr c;exact .ag e this.1 this.2
def Wk.tu{a b:List AV}(h:nA a b):Wk (.tu a) (.tu b):=by
 intro Rd E u d;obtain⟨e,rfl,c⟩:=VR.CJ d;have:=h.lr c;exact .tu e this.1 this.2
def Wk.clM{c:Fn}{d e a b:List AV}(h:nA d e)(k:nA a b):Wk (.cl c d a) (.cl c e b):=by
 intro Rd E u n;cases n with
 |cl o p l m i j=>
  have f:=h.lr ⟨l,i⟩;have g:=k.lr ⟨m,j⟩;exact .cl o p f.1 g.1 f.2 g.2
inductive oZ:List (List AV)->List (List AV)->Prop
 |nil:oZ [] []
 |cons {r r':List AV} {rs rs':List (List AV)} (h:nA r r') (hs:oZ rs rs'):oZ (r::rs) (r'::rs')
def oZ.flat(a:oZ h O):nA h.flatten O.flatten:=by
 induction a with
 |nil=>exact .nil
 |cons a c b=>simpa using a.append b
def oZ.len(a:oZ h O):O.length=h.length:=by
 induction a with
 |nil=>rfl
 |cons _ _ b=>simp[b]
def oZ.wid(a:oZ h O)(c:∀r∈h,r.length=d):∀r∈O,r.length=d:=by
 induction a with
 |nil=>simp
 |cons a g f=>
  intro r b;rcases aqj.1 b with rfl|b
  ·rw[a.len];exact c _ (by simp)
  ·exact f (λx e=>c x (by simp[e])) r b
def oZ.refl:∀a:List (List AV),oZ a a
 |[]=>.nil
 |c::a=>.cons (nA.refl c) (oZ.refl a)
def Wk.rows(a:oZ h O)(g:∀x∈O.flatten,x.one=true):Wk (.sl D d h) (.sl D d O):=by
 intro Rd E u m;cases m with
 |sl b n o k j c e f i=>
  have l:LR (VR Rd none) h.flatten b:=⟨k,j⟩;have:=a.flat.lr l;rw[<-a.len];exact .sl b (a.wid n) g this.1 this.2 (by rw[a.len];exact c) e (by rw[a.len];exact f) i
def Gf(s:Sc):EV->Option s.cZ
 |.sc a x=>eB a s x
 |.nil=>match s with
  |.sl r=>some (show List r.cZ from [])
  |_=>none
 |.ts r b=>eB (.sl r) s b
 |_=>none
def PA{s:Sc}{c:EV}{x:s.cZ}(h:Gf s c=some x):Wk (enc c) (encS s x):=by
 cases c with
 |sc b y=>
  obtain⟨rfl,rfl⟩:=di h;exact Wk.refl _
 |nil=>
  cases s with
  |sl r=>
   have a:x=(show List r.cZ from []):=(apZ h).symm;rw[a];exact Wk.empty rfl
  |_=>simp[Gf]at h
 |ts r d=>
  obtain⟨rfl,rfl⟩:=di h;exact Wk.tight
 |_=>simp[Gf]at h
variable{y:EV}{I:Sc}{B V:aZ}
def c_:(s:Sc)->s.cZ->bD
 |.i k,x=>[.int k x]
 |.b,x=>[.bool x]
 |.sl _,_=>[undef]
 |.pr x y,p=>c_ x p.1++c_ y p.2
 |.u,_=>[]
def o0:(s:Sc)->s.cZ->Value
 |.i k,x=>.int k x
 |.b,x=>.bool x
 |.sl _,_=>undef
 |.pr x y,p=>.agg (c_ (.pr x y) p).toArray
 |.u,p=>.agg (c_ .u p).toArray
def Sc.key:Sc->Bool
 |.i _=>true
 |.b=>true
 |.sl _=>false
 |.pr x y=>x.key && y.key
 |.u=>true
def iF:(s:Sc)->s.cZ->s.cZ->Bool
 |.i _,x,y=> @decide (@Eq Int x y) (Int.instDecidableEq x y)
 |.b,x,y=> @BEq.beq Bool _ x y
 |.sl _,_,_=>false
 |.pr a c,x,y=>iF a x.1 y.1 && iF c x.2 y.2
 |.u,_,_=>true
def fu:∀(s:Sc) (x y:s.cZ),s.key=true->(iF s x y=true↔x=y)
 |.i _,x,y,_=>by simp[iF]
 |.b,x,y,_=>by simp[iF]
 |.sl _,x,y,h=>by simp[Sc.key]at h
 |.pr a c,x,y,h=>by
  simp only[Sc.key,apS]at h;obtain⟨b,d⟩:=x;obtain⟨f,g⟩:=y;simp only[iF,apS,fu a _ _ h.1,fu c _ _ h.2];constructor
  ·rintro⟨rfl,rfl⟩;rfl
  ·intro e;cases e;exact⟨rfl,rfl⟩
 |.u,x,y,_=>by simp[iF]
def zj:∀(s:Sc) (x y:s.cZ),(c_ s x).length=(c_ s y).length
 |.i _,_,_=>rfl
 |.b,_,_=>rfl
 |.sl _,_,_=>rfl
 |.pr a c,x,y=>by simp[c_,zj a x.1 y.1,zj c x.2 y.2]
 |.u,_,_=>rfl
def zk:∀(s:Sc) (x y:s.cZ),s.key=true->c_ s x=c_ s y->x=y
 |.i _,x,y,_,h=>by simp[c_]at h;exact h
 |.b,x,y,_,h=>by simp[c_]at h;exact h
 |.sl _,_,_,h,_=>by simp[Sc.key]at h
 |.pr a c,x,y,h,e=>by
  simp only[Sc.key,apS]at h;simp only[c_]at e;obtain⟨b,d⟩:=List.append_inj e (zj a _ _);exact asZ (zk a _ _ h.1 b) (zk c _ _ h.2 d)
 |.u,_,_,_,_=>rfl
def C6(s:Sc)(x y:s.cZ)(h:s.key=true)(e:o0 s x=o0 s y):x=y:=by
 cases s with
 |i k=>simp[o0]at e;exact e
 |b=>simp[o0]at e;exact e
 |sl r=>simp[Sc.key]at h
 |pr a c=>
  simp only[o0,Value.agg.injEq]at e;exact zk _ _ _ h (by simpa using e)
 |u=>rfl
def bJ(s:Sc){β:Type}:List (s.cZ×β)->s.cZ->Option β
 |[],_=>none
 |p::a,x=>cond (iF s p.1 x) (some p.2) (bJ s a x)
def dS(s:Sc){β:Type}:List (s.cZ×β)->s.cZ->β->List (s.cZ×β)
 |[],x,v=>[(x,v)]
 |p::a,x,v=>cond (iF s p.1 x) ((p.1,v)::a) (p::dS s a x v)
def mD(a b:Sc)(c:List (a.cZ×b.cZ)):List (Value×AV):=c.map λp=>(o0 a p.1,enc (iS b p.2))
def nZ{a d:Sc}(c:a.key=true):∀(b:List (a.cZ×d.cZ)) (x:a.cZ),fc (mD a d b) (o0 a x)=(bJ a b x).map λv=>enc (iS d v)
 |[],_=>rfl
 |p::b,x=>by
  rw[mD,aqc,fc,bJ];by_cases h:p.1=x
  ·rw[apR (by rw[h]),(fu a _ _ c).2 h];rfl
  ·rw[apQ (λe=>h (C6 a _ _ c e))]
   have:iF a p.1 x=false:=by
    cases f:iF a p.1 x with
    |false=>rfl
    |true=>exact absurd ((fu a _ _ c).1 f) h
   rw[this];exact nZ c b x
def PB(g:I.key=true)(z:a)(b c:I.cZ):∀d:List (I.cZ×a),(bJ I (dS I d c ((bJ I d c).getD z)) b).getD z=(bJ I d b).getD z:=by
 have i:∀{x y:I.cZ},x≠y->iF I x y=false:=λ{x y} h=>by
  cases j:iF I x y with
  |false=>rfl
  |true=>exact absurd ((fu I _ _ g).1 j) h
 have l:∀(v:a) (d:List (I.cZ×a)),v=(bJ I d c).getD z->(bJ I (dS I d c v) b).getD z=(bJ I d b).getD z:=by
  intro v d
  induction d with
  |nil=>
   intro e;simp only[dS,bJ];by_cases h:c=b
   ·rw[(fu I _ _ g).2 h,e];rfl
   ·rw[i h];rfl
  |cons p d k=>
   intro e;simp only[bJ]at e;simp only[dS];by_cases h:p.1=c
   ·rw[(fu I _ _ g).2 h]at e⊢
    simp only[aqh,bJ]at e⊢;by_cases f:p.1=b
    ·rw[(fu I _ _ g).2 f,e];rfl
    ·rw[i f];rfl
   ·rw[i h]at e⊢
    simp only[apW,bJ]at e⊢;by_cases f:p.1=b
    ·rw[(fu I _ _ g).2 f];rfl
    ·rw[i f];exact k e
 exactλd=>l _ d rfl
def C7{a b:Sc}(d:a.key=true):∀(c:List (a.cZ×b.cZ)) (x:a.cZ) (v:b.cZ),nz (mD a b c) (o0 a x) (enc (iS b v))=mD a b (dS a c x v)
 |[],_,_=>rfl
 |p::c,x,v=>by
  rw[mD,aqc,nz,dS];by_cases h:p.1=x
  ·rw[apR (by rw[h]),(fu a _ _ d).2 h];rfl
  ·rw[apQ (λe=>h (C6 a _ _ d e))]
   have:iF a p.1 x=false:=by
    cases g:iF a p.1 x with
    |false=>rfl
    |true=>exact absurd ((fu a _ _ d).1 g) h
   rw[this];have f:=C7 d c x v;rw[mD]at f;rw[f];rfl
inductive ea where
 |box (t:TypeId) (cs:List EV)
 |arr (t:TypeId) (r:Sc) (xs:List r.cZ) (wr:Bool)
 |mp (d:TypeDesc) (kc vc:Sc) (es:List (kc.cZ×vc.cZ))
 |nr (t:TypeId) (r:Sc) (xs:List (List r.cZ)) (ho:H8)
 |qr (t:TypeId) (ho:bU) (sz:Nat) (xs:aX)
def WO(r:Sc):List r.cZ->AV
 |[]=>.sl true 0 []
 |x::l=>.sl false r.w (List.map (bF r) (x::l))
def nrH:bU->AV
 |some j=>.ow j
 |none=>.un
def vf(r:Sc)(a:List (List r.cZ)):H8->List AV
 |none=>a.map (WO r)
 |some (i,p)=>(a.map (WO r)).set i.toNat (nrH p)
def Zl(a:Nat):bU->Int->AV
 |some k,i=>.pe k i.toNat a 0
 |none,_=>.un
abbrev eQ:=List (Nat×Option ea)
def b_:ea->Ob
 |.box t c=>.box t (bX c)
 |.arr t r a wr=>.arr t r.w (List.map (bF r) a) wr
 |.mp d f h e=>.mp d (mD f h e)
 |.nr t r a b=>.nr t (vf r a b)
 |.qr t b g a=>.nr t (a.map (Zl g b))
def bz:eQ->Hp
 |[]=>[]
 |(k,o)::h=>(k,o.map b_)::bz h
def gu:List (Nat×EV)->List (Nat×AV)
 |[]=>[]
 |(i,c)::t=>(i,enc c)::gu t
def cW:List (Nat×EV)->Nat->EV
 |[],_=>.un
 |(j,c)::t,i=>cond (Nat.beq i j) c (cW t i)
def bC:eQ->Nat->Option ea
 |[],_=>none
 |(j,o)::t,i=>cond (Nat.beq i j) o (bC t i)
def iG(h:¬d=m):Nat.beq d m=false:=by
 cases a:Nat.beq d m with
 |false=>rfl
 |true=>exact absurd (apX a) h
def cH:∀(t:List (Nat×EV)) (i:Nat),bG (gu t) i=enc (cW t i)
 |[],_=>rfl
 |(j,c)::t,i=>by
  simp only[gu,bG,cW];by_cases h:i=j
  ·rw[apR h,h,aqp];rfl
  ·rw[apQ h,(iG h),cH t i];rfl
def da:∀(t:eQ) (i:Nat),a_ (bz t) i=(bC t i).map b_
 |[],_=>rfl
 |(j,c)::t,i=>by
  simp only[bz,a_,bC];by_cases h:i=j
  ·rw[apR h,h,aqp];rfl
  ·rw[apQ h,(iG h),da t i];rfl
def fG:∀a c:eQ,bz (a++c)=bz a++bz c
 |[],c=>rfl
 |(k,o)::a,c=>by rw[aq6,bz,fG a c];rfl
def HC(b:Nat->Option ea)(c:aZ)(h:Hp):Prop:=
 ∀k,c.contains k=true->∀t r a wr,b k=some (.arr t r a wr)->∃d,a_ h k=some (.arr t r.w (List.map (bF r) a) d)
def Bz(b:Nat->Option ea)(c:eQ):Prop:=∀k o,(k,o)∈c->∃t r a wr,b k=some (.arr t r a wr)/\o=some (.arr t r a false)
def Gg:∀{a:eQ} {k:Nat},a.any (λp=>p.1==k)=true->∃o,(k,o)∈a/\a_ (bz a) k=o.map b_
 |[],k,h=>by simp at h
 |(j,o)::a,k,h=>by
  by_cases b:k=j
  ·subst b;exact⟨o,by simp,by simp[bz,a_]⟩
  ·simp only[arI,aqO]at h
   rcases h with h|h
   ·exact absurd (by simpa using h) (λe:j=k=>b e.symm)
   ·obtain⟨f,c,d⟩:=Gg h
    exact⟨f,aqU _ c,by rw[bz,a_,apQ b];exact d⟩
def BQ(a:eQ)(k:Nat):(bz a).any (λp=>p.1==k)=a.any (λp=>p.1==k):=by
 induction a with
 |nil=>rfl
 |cons p a b=>obtain⟨j,o⟩:=p;simp only[bz,arI,b]
def HC.put{a:Nat->Option ea}{h:Hp}{d:eQ}(i:HC a B h)(m:Bz a d)(n:∀k,V.contains k=true->B.contains k=true):HC a V (bz d++h):=by
 intro k j t r p wr c;rw[ep,BQ];split
 ·rename_i f
  obtain⟨o,l,g⟩:=Gg f;obtain⟨s,q,u,wr2,b,e⟩:=m _ _ l;rw[c]at b;cases b;subst e;exact⟨false,g⟩
 ·exact i k (n k j) t r p wr c
def mM(b:Nat->Option ea)(s:Sc):EV->Option (s.cZ×eQ×aZ)
 |.ow k=>match b k with
  |some (.arr t r a wr)=>match eB (.sl r) s a with
   |some y=>some (y,[(k,some (.arr t r a false))],[k])
   |none=>none
  |_=>none
 |c=>match Gf s c with
  |some y=>some (y,[],[])
  |none=>none
def ae7(s:Sc)(x:s.cZ):(encS s x).fz=true:=by
 cases s<;>rfl
def Zm{x:I.cZ}(h:Gf I y=some x):(enc y).fz=true:=by
 cases y with
 |sc b a=>exact ae7 _ _
 |nil=>rfl
 |ts r c=>rfl
 |_=>simp[Gf]at h
def C8(a:s.fz=true):hJ n s=some (n,s):=by
 cases s<;>first|(simp[AV.fz]at a;done)|(simp only[hJ,a,aqs])
def Ii{r:Hp×AV}(a:hJ n s=some r):jx n s=some r:=by
 cases s<;>first|(simp[hJ,AV.fz]at a;done)|(rw[jx];exact a;intro b n;cases n)
def Zn{e:Nat->Option ea}{h:Hp}{x:I.cZ}{f:eQ}(b:mM e I y=some (x,f,B))(j:HC e V h)(l:∀k,B.contains k=true->V.contains k=true):
 (∃g,hJ h (enc y)=some (bz f++h,g)/\Wk g (encS I x))/\Bz e f:=by
 unfold mM at b;split at b
 ·rename_i k
  split at b
  ·rename_i t r q wr i
   split at b
   ·rename_i a d
    simp only[apU,aqa]at b;obtain⟨rfl,rfl,rfl⟩:=b;obtain⟨rfl,rfl⟩:=di d;obtain⟨p,m⟩:=j k (l k (by simp)) t r _ wr i;refine⟨⟨.sl false r.w (List.map (bF r) _),?_,Wk.refl _⟩,?_⟩
    ·simp only[enc,hJ,m];rfl
    ·intro n o c
     simp only[aqe,aqa]at c;obtain⟨rfl,rfl⟩:=c;exact⟨t,r,_,wr,i,rfl⟩
   ·cases b
  ·cases b
 ·split at b
  ·rename_i a d
   simp only[apU,aqa]at b;obtain⟨rfl,rfl,rfl⟩:=b;exact⟨⟨_,C8 (Zm d),PA d⟩,λk o c=>by cases c⟩
  ·cases b
def iu(e:Nat->Option ea):(s:Sc)->List EV->Option (s.cZ×List EV×eQ×aZ)
 |.pr x y,d=>match iu e x d with
  |some (a,h,os1,l)=>match iu e y h with
   |some (b,i,j,us2)=>some ((a,b),i,j++os1,l++us2)
   |none=>none
  |none=>none
 |.u,d=>some ((),d,[],[])
 |.i k,c::d=>match mM e (.i k) c with
  |some (a,f,g)=>some (a,d,f,g)
  |none=>none
 |.b,c::d=>match mM e .b c with
  |some (a,f,g)=>some (a,d,f,g)
  |none=>none
 |.sl r,c::d=>match mM e (.sl r) c with
  |some (a,f,g)=>some (a,d,f,g)
  |none=>none
 |_,[]=>none
def FP{h f g:Hp}{d ds e ds1:List AV}(a:iE h d=some (f,e))(b:iE f ds=some (g,ds1)):iE h (d++ds)=some (g,e++ds1):=by
 induction d generalizing h e with
 |nil=>simp only[iE,apU,aqa]at a;obtain⟨rfl,rfl⟩:=a;simpa using b
 |cons c d k=>
  simp only[iE]at a;split at a
  ·rename_i n l i
   split at a
   ·rename_i o m j
    simp only[apU,aqa]at a;obtain⟨rfl,rfl⟩:=a;rw[aq6,iE,i];simp only[k j,aq6]
   ·cases a
  ·cases a
def vg{h b:Hp}(a:hJ h s=some (b,R)):iE h [s]=some (b,[R]):=by
 simp only[iE,a]
def n_(b:Nat->Option ea)(s:Sc):EV->Option (s.cZ×eQ×aZ)
 |.ag f=>match s with
  |.pr x y=>match iu b (.pr x y) f with
   |some (a,[],d,e)=>some (a,d,e)
   |_=>none
  |.u=>match iu b .u f with
   |some (a,[],d,e)=>some (a,d,e)
   |_=>none
  |_=>none
 |c=>match s with
  |.pr _ _=>none
  |.u=>none
  |.i k=>mM b (.i k) c
  |.b=>mM b .b c
  |.sl r=>mM b (.sl r) c
variable{S:Int}{t:St}{H:String}{K:iN}{J:dI}{N:fE}
structure bs where
 ty:Option (Bool×Nat):=none
 el:Option (TypeId×Nat×Nat×bD):=none
 jW:Bool:=false
 bo:Bool:=false
 ar:Option (Nat×TypeId×Nat):=none
 fd:List (Nat×Bool×Nat):=[]
 pl:Option (bD×bH):=none
 ze:Option bD:=none
 mp:Option (TypeDesc×Value):=none
 co:Option Sc:=none
 kv:Option (Sc×Sc):=none
 ik:Option IntKind:=none
 eq:Option Sc:=none
 sg:Bool:=false
 nf:Bool:=false
 zv:Option Value:=none
def Zo(P:Program)(t:TypeId)(s:Sc):Prop:=s.key=true/\∀(x y:s.cZ) (w:World),(Op.equal t (.agg (c_ s x).toArray) (.agg (c_ s y).toArray)).run P w=.ok (iF s x y) w/\
 ∀c a b,(eqGuard c t a b (.agg (c_ s x).toArray) (.agg (c_ s y).toArray)).run P w=.ok () w
def zvT(P:Program)(t:TypeId):Option Value:=(P.info? t).bind λi=>i.zero
structure gw(P:Program)(T:TypeId->bs):Prop where
 ty:∀t x,(T t).ty=some x->Pn P t=some x
 el:∀t x,(T t).el=some x->FA P t=some x
 jW:∀t,(T t).jW=true->jW P t=true
 bo:∀t,(T t).bo=true->P.underlying t=some .bool
 ar:∀t x,(T t).ar=some x->arA P t=some x
 fd:∀t f x,(T t).fd[f]? =some x->Y3 P t f=some x
 pl:∀t z l,(T t).pl=some (z,l)->∃f,plA P t=some (z,f)/\∀(i:Nat) p,l[i]? =some p->f i=some p
 ze:∀t x,(T t).ze=some x->Aj P t=some x
 mp:∀t x,(T t).mp=some x->mapA P t=some x
 ik:∀t k,(T t).ik=some k->P.underlying t=some (.int k)
 eq:∀t s,(T t).eq=some s->Zo P t s
 sg:∀t,(T t).sg=true->P.underlying t=some .string
 nf:∀t,(T t).nf=true->∃ms,P.underlying t=some (.interface ms)
 zv:∀t x,(T t).zv=some x->zvT P t=some x
def aW{α β:Type}(o:Option α)(f:α->Option β):Option β:=match o with
 |some x=>f x
 |none=>none
def bj{α β:Type}{o:Option α}{f:α->Option β}{y:β}(h:aW o f=some y):∃x,o=some x/\f x=some y:=by
 cases o with
 |none=>cases h
 |some x=>exact⟨x,rfl,h⟩
def bL{x y:Option a}{r:a}(h:cond D x y=some r):(D=true/\x=some r)\/(D=false/\y=some r):=by
 cases D with
 |true=>exact .inl ⟨rfl,h⟩
 |false=>exact .inr ⟨rfl,h⟩
def aY{x:Option a}{r:a}(h:cond D x none=some r):D=true/\x=some r:=by
 cases D with
 |true=>exact⟨rfl,h⟩
 |false=>cases h
def cvE:Value->EV
 |.int k x=>.sc (.i k) x
 |.bool x=>.sc .b x
 |.slice none 0 0=>.nil
 |x=>.v x
def RW(v:Value):enc (cvE v)=lq v:=by
 unfold cvE;split
 ·rfl
 ·rfl
 ·rfl
 ·rename_i b c a
  unfold lq;split
  ·exact absurd rfl (a)
  ·rfl
def KV(z:bD):bX (z.map cvE)=z.map lq:=by
 rw[dR,aq4];exact aqJ λv _=>RW v
def eI(ev:Nat->EV):Operand->EV
 |.tmp i=>ev i
 |.const v=>cvE v
 |.global _=>.un
 |.func f=>.v (.func (.func f) #[] #[])
def Sk(ev:Nat->EV)(a:St):Prop:=∀i,ev i=.un\/bG a.t i=enc (ev i)
def Sk.x{ev:Nat->EV}{a:St}(h:Sk ev a)(x:Operand):eI ev x=.un\/a.ev x=enc (eI ev x):=by
 cases x with
 |tmp i=>exact h i
 |const v=>exact .inr (RW v).symm
 |global g=>exact .inl rfl
 |func f=>exact .inr rfl
def Sk.is{ev:Nat->EV}(h:Sk ev t){x:Operand}(a:eI ev x=y)(b:y≠.un):t.ev x=enc y:=by
 rcases h.x x with h|h
 ·exact absurd (a.symm.trans h) b
 ·rw[h,a]
def Hk(hg:Nat->Option ea)(b:aZ)(a:St):Prop:=∀k,b.contains k=true->a_ a.h k=(hg k).map b_
def Hk.at{hg:Nat->Option ea}(h:Hk hg B t)(a:B.contains d=true){o:ea}(b:hg d=some o):a_ t.h d=some (b_ o):=by rw[h d a,b];rfl
def Hk.hc{hg:Nat->Option ea}(h:Hk hg B t):HC hg B t.h:=λk b a r d wr c=>⟨wr,h.at b c⟩
inductive Fr where
 |no
 |one (d:Nat)
 |bS (B:Nat)
def Fr.p:Fr->Nat->Bool
 |.no=>ffB
 |.one d=>λk=>k==d
 |.bS B=>mA B
structure qX(fr:Fr)(st:St):Prop where
 t:∀x,(bG st.t x).gp fr.p=true
 h:∀k ob,a_ st.h k=some ob->ob.gp fr.p=true
 k:∀k,fr.p k=true->a_ st.h k=none
def FS(P:Program)(o:Oper)(n:Nat)(ev:Nat->EV)(hg:Nat->Option ea)(c:EV)(b:eQ)(d:aZ)(a:Fr):Prop:=
 ∀st:St,st.n=n->Sk ev st->Hk hg d st->qX a st->SS P o st λs=>s=⟨st.n,jz o.dst (enc c) st.t,bz b++st.h⟩
def Pg(P:Program)(f:Op)(ev:Nat->EV)(hg:Nat->Option ea)(c:EV)(i:aZ):Prop:=
 ∀(a:St) (d:iN) (h:TypeId) (g:String) (b:dI) (e:fE),Sk ev a->Hk hg i a->RS P ⟨d,f,h,g,b,e⟩ a (enc c)
def FS.read{P:Program}{a:Op}{n:Nat}{ev:Nat->EV}{hg:Nat->Option ea}{c:EV}{b:aZ}{d:Nat}{l:TypeId}{j:String}{e:dI}{f:fE}
 (h:Pg P a ev hg c b) (m:d<n):FS P ⟨some d,a,l,j,e,f⟩ n ev hg c [] b .no:=by
 intro k p i g o;exact SS.read (h k _ _ _ _ _ i g) (by omega) rfl
def FQ(a b:Int):qc:=if b=0 then none else some (a.tmod b)
def PC(a b:Int):qc:=if b=0 then none else some (a.tdiv b)
def ahl:{f:BinOp->IntKind->Int->Int->Int//f=bits}:=Classical.choice ⟨⟨bits,rfl⟩⟩
def Ij(c:BinOp)(k:IntKind)(a b:Int):Int:=ahl.1 c k a b
def Ik(c:BinOp)(k:IntKind)(a b:Int):Ij c k a b=bits c k a b:=by rw[Ij,ahl.2]
def ba(b:List a)(i:Int):Option a:=if 0<=i then b[i.toNat]? else none
def eH{b:List a}{x:a}(h:ba b A=some x):0<=A/\b[A.toNat]? =some x:=by
 unfold ba at h;split at h
 ·exact⟨by assumption,h⟩
 ·cases h
def mE(e:BinOp)(k:IntKind)(c b:Int)(d:EV->Option a):Option a:=
 match e with
 |.add=>d (.sc (.i k) (k.wrap (c+b)))
 |.sub=>d (.sc (.i k) (k.wrap (c - b)))
 |.mul=>d (.sc (.i k) (k.wrap (c*b)))
 |.rem=>aW (FQ c b) λz=>d (.sc (.i k) z)
 |.quo=>aW (PC c b) λz=>d (.sc (.i k) (k.wrap z))
 |.lss=>d (.sc .b (decide (c<b)))
 |.leq=>d (.sc .b (decide (c<=b)))
 |.gtr=>d (.sc .b (decide (b<c)))
 |.geq=>d (.sc .b (decide (b<=c)))
 |.eql=>d (.sc .b (decide (c=b)))
 |.neq=>d (.sc .b (!decide (c=b)))
 |.and=>d (.sc (.i k) (Ij .and k c b))
 |.or=>d (.sc (.i k) (Ij .or k c b))
 |.xor=>d (.sc (.i k) (Ij .xor k c b))
 |.andNot=>d (.sc (.i k) (Ij .andNot k c b))
 |_=>none
def PE(k:IntKind)(a b:Int):qc:=if b<0 then none else some (k.wrap (a*2^(min b.toNat k.bits)))
def Zp(k:IntKind)(a b:Int):qc:=if b<0 then none else some (a.fdiv (2^(min b.toNat k.bits)))
def PF:(s:Sc)->List EV->Option (s.cZ×List EV)
 |.pr x y,c=>match PF x c with
  |some (a,d)=>match PF y d with
   |some (b,e)=>some ((a,b),e)
   |none=>none
  |none=>none
 |.u,c=>some ((),c)
 |.i k,.sc s x::c=>match eB s (.i k) x with
  |some a=>some (a,c)
  |none=>none
 |.b,.sc s x::c=>match eB s .b x with
  |some a=>some (a,c)
  |none=>none
 |_,_=>none
def Zq(T:TypeId->bs)(e:BinOp)(t:TypeId)(c b:EV)(k:EV->Option a):Option a:=
 match c with
 |.sc (.i d) x=>match b with
  |.sc (.i h) y=>match e with
   |.shl=>aW (PE d x y) λz=>k (.sc (.i d) z)
   |.shr=>aW (Zp d x y) λz=>k (.sc (.i d) z)
   |_=>match eB (.i h) (.i d) y with
    |some z=>mE e d x z k
    |none=>none
  |_=>none
 |.ag f=>match b with
  |.ag g=>match(T t).eq with
   |some s=>match PF s f with
    |some (x,[])=>match PF s g with
     |some (y,[])=>match e with
      |.eql=>k (.sc .b (iF s x y))
      |.neq=>k (.sc .b (!(iF s x y)))
      |_=>none
     |_=>none
    |_=>none
   |none=>none
  |_=>none
 |.sc .b x=>match b with
  |.sc .b y=>match e with
   |.eql=>cond (T t).bo (k (.sc .b (@BEq.beq Bool _ x y))) none
   |.neq=>cond (T t).bo (k (.sc .b (!(@BEq.beq Bool _ x y)))) none
   |_=>none
  |_=>none
 |_=>none
def aia(d:UnOp)(b:EV)(k:EV->Option a):Option a:=
 match d with
 |.not=>match b with
  |.sc .b x=>k (.sc .b (!x))
  |_=>none
 |.neg=>match b with
  |.sc (.i c) x=>k (.sc (.i c) (c.wrap (0 - x)))
  |_=>none
 |_=>none
def Zr(hg:Nat->Option ea)(b:EV)(k:EV->aZ->Option a):Option a:=
 match b with
 |.sc (.sl r) c=>k (.sc (.i .i64) ((@List.length r.cZ c:Nat):Int)) []
 |.ts r c=>k (.sc (.i .i64) ((@List.length r.cZ c:Nat):Int)) []
 |.nil=>k (.sc (.i .i64) ((0:Nat):Int)) []
 |.ow j=>match hg j with
  |some (.arr _ r c _)=>k (.sc (.i .i64) ((@List.length r.cZ c:Nat):Int)) [j]
  |some (.qr _ _ _ c)=>k (.sc (.i .i64) ((@List.length Int c:Nat):Int)) [j]
  |_=>none
 |_=>none
def PH(T:TypeId->bs)(hg:Nat->Option ea)(t:TypeId)(b:EV)(k:EV->aZ->Option a):Option a:=
 match b with
 |.mp j=>match hg j with
  |some (.mp d e f c)=>match(T t).mp with
   |some _=>k (.sc (.i .i64) ((@List.length (e.cZ×f.cZ) c:Nat):Int)) [j]
   |none=>none
  |_=>none
 |_=>none
def l4:List a->Bool
 |[]=>true
 |_::_=>false
def zl(h:(!(Nat.beq b CL))=true):b≠CL:=λe=>by rw[e,aqp]at h;cases h
def BS(hg:Nat->Option ea)(p:EV)(m:Nat)(k:List EV->aZ->Option a):Option a:=
 match p with
 |.fp c=>cond (Nat.ble m c.length) (k (c.take m) []) none
 |.pt j o=>match hg j with
  |some (.box t c)=>cond (!(Nat.beq t CL) && Nat.ble (o+m) c.length) (k ((c.drop o).take m) [j]) none
  |_=>none
 |.pe j i d o=>match hg j with
  |some (.arr _ r b _)=>cond (Nat.beq d r.w && Nat.ble (o+m) d) (aW (ba b i) λx=>k (((qW r x).drop o).take m) [j]) none
  |some (.nr _ r b e)=>cond (Nat.beq d 1 && Nat.beq o 0 && Nat.beq m 1) (match e with
   |none=>aW (ba b i) λx=>cond (l4 x) (k [.nil] [j]) (k [.sc (.sl r) x] [j])
   |some (f,p)=>cond (decide (i.toNat=f.toNat)) (match p with
    |some q=>aW (ba b i) λ_=>k [.ow q] [j]
    |none=>none) (aW (ba b i) λx=>cond (l4 x) (k [.nil] [j]) (k [.sc (.sl r) x] [j]))) none
  |some (.qr _ e s b)=>cond (Nat.beq d 1 && Nat.beq o 0 && Nat.beq m 1) (match e with
   |some q=>aW (ba b i) λx=>k [.pe q x s 0] [j]
   |none=>none) none
  |_=>none
 |_=>none
def RX:Bool->List EV->Option EV
 |true,a=>some (.ag a)
 |false,[c]=>some c
 |false,_=>none
def PI(T:TypeId->bs)(hg:Nat->Option ea)(t:TypeId)(p:EV)(k:EV->aZ->Option a):Option a:=
 match(T t).ty with
 |some (b,m)=>BS hg p m λd e=>match RX b d with
  |some c=>k c e
  |none=>none
 |none=>none
def Il:EV->Nat->Option EV
 |.pt k o,f=>some (.pt k (o+f))
 |.pe k i b o,f=>some (.pe k i b (o+f))
 |.fp a,f=>some (.fp (a.drop f))
 |_,_=>none
def Im(T:TypeId->bs)(hg:Nat->Option ea)(t:TypeId)(c b:EV)(k:EV->aZ->Option a):Option a:=
 match b with
 |.sc (.i _) i=>match c with
  |.sc (.sl r) f=>match(T t).el with
   |some (_,d,_,_)=>cond (Nat.beq d r.w && Nat.blt 0 d) (aW (ba (show List r.cZ from f) i) λx=>k (.fp (qW r x)) []) none
   |none=>none
  |.ts r f=>match(T t).el with
   |some (_,d,_,_)=>cond (Nat.beq d r.w && Nat.blt 0 d) (aW (ba f i) λx=>k (.fp (qW r x)) []) none
   |none=>none
  |.ow j=>match hg j with
   |some (.arr g r f _)=>match(T t).el with
    |some (e,d,_,_)=>cond (Nat.beq d r.w && Nat.beq e g) (aW (ba f i) λ_=>k (.pe j i d 0) [j]) none
    |none=>none
   |some (.nr g r f _)=>match(T t).el with
    |some (e,d,_,_)=>cond (Nat.beq d 1 && Nat.beq e g) (aW (ba f i) λ_=>k (.pe j i 1 0) [j]) none
    |none=>none
   |some (.qr g _ _ f)=>match(T t).el with
    |some (e,d,_,_)=>cond (Nat.beq d 1 && Nat.beq e g) (aW (ba f i) λ_=>k (.pe j i 1 0) [j]) none
    |none=>none
   |_=>none
  |.pt j o=>match(T t).ar with
   |some (n,_,d)=>match hg j with
    |some (.arr _ r f _)=>cond (Nat.beq o 0 && Nat.beq d r.w) (aW (ba (List.range n) i) λ_=>aW (ba f i) λ_=>k (.pe j i d 0) [j]) none
    |_=>aW (ba (List.range n) i) λm=>k (.pt j (o+m*d)) []
   |none=>none
  |.fp h=>match(T t).ar with
   |some (n,_,d)=>aW (ba (List.range n) i) λm=>k (.fp (h.drop (m*d))) []
   |none=>none
  |_=>none
 |_=>none
def Zs(T:TypeId->bs)(t:TypeId)(g:Nat)(b:EV)(k:EV->aZ->Option a):Option a:=
 match b with
 |.sc (.i _) i=>match WD Y_ g with
  |some (c,l)=>match(T t).ar with
   |some (n,_,d)=>cond (Nat.beq d 1) (aW (ba (List.range n) i) λ_=>aW (ba l i) λx=>k (.fp [.sc (.i c) x]) []) none
   |none=>none
  |none=>none
 |_=>none
def Io(T:TypeId->bs)(t:TypeId)(f:Nat)(b:EV)(k:EV->Option a):Option a:=
 match b with
 |.ag e=>match(T t).fd[f]? with
  |some (d,true,m)=>cond (Nat.ble (d+m) e.length) (k (.ag ((e.drop d).take m))) none
  |some (d,false,m)=>cond (Nat.ble (d+m) e.length) (match e[d]? with
   |some c=>k c
   |none=>none) none
  |none=>none
 |_=>none
def nB:EV->Option (List EV)
 |.ag a=>some a
 |c=>cond (AV.one (enc c)) (some [c]) none
def zm{d:List EV}(h:nB y=some d):cellsOf (enc y)=some (bX d):=by
 have f:∀a:AV,a.one=true->(∀l,a≠.ag l)->cellsOf a=some [a]:=by
  intro a b c;cases a<;>first|(simp[AV.one]at b;done)|(simp only[cellsOf,b,aqs])
 cases y with
 |ag l=>simp only[nB,apU]at h;subst h;rfl
 |_=>
  simp only[nB]at h;obtain⟨b,c⟩:=aY h;simp only[apU]at c;subst c;refine f _ b λl e=>?_;rw[e]at b;simp[AV.one]at b
def owE(hg:Nat->Option ea):EV->Bool
 |.ow k=>match hg k with
  |some (.arr ..)=>true
  |some (.nr ..)=>true
  |some (.qr ..)=>true
  |_=>false
 |_=>true
def owU:EV->aZ
 |.ow k=>[k]
 |_=>[]
def Ip{hg:Nat->Option ea}(h:owE hg y=true)(c:Hk hg B t)(d:∀k,(owU y).contains k=true->B.contains k=true):nR t.h (enc y)=true:=by
 cases y with
 |ow k=>
  simp only[owE]at h;split at h
  ·rename_i a r e wr b
   have:=c.at (d k (by simp[owU])) b;simp only[enc,nR,this,b_]
  ·rename_i a r e f b
   have:=c.at (d k (by simp[owU])) b;simp only[enc,nR,this,b_]
  ·rename_i a f g e b
   have:=c.at (d k (by simp[owU])) b;simp only[enc,nR,this,b_]
  ·cases h
 |sc s x=>cases s<;>rfl
 |_=>rfl
def C9(ev:Nat->EV)(hg:Nat->Option ea):vT->Option (List (Nat×List EV)×aZ)
 |[]=>some ([],[])
 |(i,x)::b=>match nB (eI ev x)with
  |some a=>cond (owE hg (eI ev x)) (match C9 ev hg b with
   |some (r,us)=>some ((i,a)::r,owU (eI ev x)++us)
   |none=>none) none
  |none=>none
def oa(a:List EV)(o:Nat):List EV->List EV
 |[]=>a
 |x::b=>oa (a.set o x) (o+1) b
def od(a:List EV)(o:Nat)(x:EV):bX (a.set o x)=(bX a).set o (enc x):=by
 rw[dR,dR,arP]
def o2:∀(b a:List EV) (o:Nat),bX (oa a o b)=setCells (bX a) o (bX b)
 |[],a,o=>rfl
 |x::b,a,o=>by rw[oa,o2 b,od];rfl
def KW(c:bH)(a:List EV):List (Nat×List EV)->Option (List EV)
 |[]=>some a
 |(i,d)::e=>match c[i]? with
  |some (b,size)=>cond (Nat.beq d.length size && Nat.ble (b+size) a.length) (KW c (oa a b d) e) none
  |none=>none
def vh{f g:Nat->Kl}(h:∀i p,f i=some p->g i=some p):∀{α:Type} {c:List (Nat×List α)} {b r:List α},gv f b c=some r->gv g b c=some r
 |_,[],b,r,a=>a
 |_,(i,l)::c,b,r,a=>by
  simp only[gv]at a⊢;split at a
  ·cases a
  ·rename_i j k e
   rw[h _ _ e];simp only;split at a
   ·rename_i d
    rw[apR d];exact vh h a
   ·cases a
def ae9:List (Nat×List EV)->List (Nat×List AV)
 |[]=>[]
 |(i,x)::r=>(i,bX x)::ae9 r
def KX{e:bH}:∀{f:List (Nat×List EV)} {a b:List EV},KW e a f=some b->gv (λi=>e[i]?) (bX a) (ae9 f)=some (bX b)
 |[],a,b,h=>by simp only[KW,apU]at h;subst h;rfl
 |(i,p)::n,a,b,h=>by
  simp only[KW]at h;split at h
  ·rename_i m o l
   obtain⟨c,k⟩:=aY h;simp only[apS]at c;have g:=apX c.1;have j:=apY c.2;have d:=KX k;rw[o2]at d;simp only[ae9,gv,l,fF];rw[apR ⟨g,j⟩];exact d
  ·cases h
def Gh{ev:Nat->EV}{hg:Nat->Option ea}{b:St}{p:aZ}(o:Sk ev b)(m:Hk hg p b):∀{d:vT} {r:List (Nat×List EV)} {f:aZ},C9 ev hg d=some (r,f)->(∀k,f.contains k=true->p.contains k=true)->
 qQ b d=some (ae9 r)/\sQ b d=true
 |[],r,f,h,j=>by simp only[C9,apU,aqa]at h;obtain⟨rfl,rfl⟩:=h;exact⟨rfl,rfl⟩
 |(i,x)::d,r,f,h,j=>by
  simp only[C9]at h;split at h
  ·rename_i w g
   obtain⟨q,c⟩:=aY h;split at c
   ·rename_i y z s
    simp only[apU,aqa]at c;obtain⟨rfl,rfl⟩:=c;obtain⟨u,v⟩:=Gh o m s (λk a=>j k (by simp at a⊢;exact .inr a));have t:b.ev x=enc (eI ev x):=o.is rfl (λe=>by rw[e]at g;simp[nB,enc,AV.one]at g);have l:=zm g;have n:=Ip q m (λk a=>j k (by simp at a⊢;exact .inl a));rw[<-t]at l n;refine⟨?_,?_⟩
    ·simp only[qQ,l,u];rfl
    ·simp only[sQ,n,v];rfl
   ·cases c
  ·cases h
def Iq(T:TypeId->bs)(ev:Nat->EV)(hg:Nat->Option ea)(t:TypeId)(c:vT)(k:EV->aZ->Option a):Option a:=
 match(T t).pl with
 |some (z,l)=>match C9 ev hg c with
  |some (d,e)=>match KW l (z.map cvE) d with
   |some b=>k (.ag b) e
   |none=>none
  |none=>none
 |none=>none
section
variable{P:Program}{T:TypeId->bs}{ev:Nat->EV}{hg:Nat->Option ea}
def RS.an1{a d:Bool}(f:P.underlying k=some .bool)(g:t.ev c=.v (.bool a))(h:t.ev e=.v (.bool d)):
 RS P ⟨K,.binOp .neq k c e G,b,H,J,N⟩ t (.v (.bool (!(a==d)))):=
 RS.bin g h (λw=>by simp[eqGuard]) λw=>run_neq_bool w k a d f
def RS.RY{a:BinOp}(g:a=.and\/a=.or\/a=.xor\/a=.andNot)(d:t.ev c=.v (.int C A))(f:t.ev e=.v (.int C S)):
 RS P ⟨K,.binOp a k c e G,b,H,J,N⟩ t (.v (.int C (Ij a C A S))):=by
 rw[Ik];rcases g with rfl|rfl|rfl|rfl
 ·exact RS.bin d f (λw=>by simp[eqGuard]) λw=>by simp[binOp_and,intBits_and]
 ·exact RS.bin d f (λw=>by simp[eqGuard]) λw=>by simp[binOp_or,intBits_or]
 ·exact RS.bin d f (λw=>by simp[eqGuard]) λw=>by simp[binOp_xor,intBits_xor]
 ·exact RS.bin d f (λw=>by simp[eqGuard]) λw=>by simp[binOp_andNot,intBits_andNot]
def RS.shl{d l:IntKind}{a f z:Int}(g:PE d a f=some z)(i:t.ev c=.v (.int d a))(j:t.ev e=.v (.int l f)):
 RS P ⟨K,.binOp .shl k c e G,b,H,J,N⟩ t (.v (.int d z)):=by
 unfold PE at g;split at g
 ·cases g
 ·rename_i h
  cases g;exact RS.bin i j (λw=>by simp[eqGuard]) λw=>by simp[binOp_shl,Op.shift,h]
def RS.shr{d l:IntKind}{a f z:Int}(g:Zp d a f=some z)(i:t.ev c=.v (.int d a))(j:t.ev e=.v (.int l f)):
 RS P ⟨K,.binOp .shr k c e G,b,H,J,N⟩ t (.v (.int d z)):=by
 unfold Zp at g;split at g
 ·cases g
 ·rename_i h
  cases g;exact RS.bin i j (λw=>by simp[eqGuard]) λw=>by simp[binOp_shr,Op.shift,h]
def RS.zc{o:Oper}(h:RS P o t s)(f:Wk s R):RS P o t R:=λg b e a w hg=>by
 obtain⟨v,c,d⟩:=h g b e a w hg;exact⟨v,f _ _ _ c,d⟩
def Wk.un{c:AV}:Wk c .un:=λ_ _ _ _=>.un
def RS.conv{a d n:IntKind}(l:P.underlying k=some (.int n))(g:P.underlying G=some (.int d))(m:t.ev c=.v (.int a A)):
 RS P ⟨K,.convert k G c,b,H,J,N⟩ t (.v (.int d (d.wrap A))):=λr p e q w h=>by
 have f:=h.ev c;rw[m]at f;refine⟨_,.v,λo _=>?_⟩;have j:=f.bN;have i:P.intKind G=d:=by simp[Program.intKind,g]
 have:=run_convert_int o k G a A (by rw[l];rfl) (by rw[i];exact g);rw[i]at this;simp only[execOp,j,ap6,this,ap7,ap8]
def RS.neg(f:t.ev c=.v (.int C A)):
 RS P ⟨K,.unOp .neg k c,b,H,J,N⟩ t (.v (.int C (C.wrap (0 - A)))):=λl g e i w h=>by
 have a:=h.ev c;rw[f]at a;refine⟨_,.v,λj _=>?_⟩;have d:=a.bN;simp only[execOp,d,unary_neg,Op.intArith,ap6,ap8,ap7]
def ae_{w:BinOp}{x:EV->Option a}{r:a}(h:mE w C A S x=some r)(y:eI ev c=.sc (.i C) A)(B:eI ev e=.sc (.i C) S):
 ∃g,Pg P (.binOp w b c e k) ev hg g []/\x g=some r:=by
 have m:∀i,Sk ev i->i.ev c=.v (.int C A):=λi j=>j.is y (by intro f;cases f);have n:∀i,Sk ev i->i.ev e=.v (.int C S):=λi j=>j.is B (by intro f;cases f);cases w with
 |add=>exact⟨_,λi d q p l o j s=>RS.add (m i j) (n i j),h⟩
 |sub=>exact⟨_,λi d q p l o j s=>RS.sub (m i j) (n i j),h⟩
 |mul=>exact⟨_,λi d q p l o j s=>RS.mul (m i j) (n i j),h⟩
 |lss=>exact⟨_,λi d q p l o j s=>RS.lss (m i j) (n i j),h⟩
 |leq=>exact⟨_,λi d q p l o j s=>RS.leq (m i j) (n i j),h⟩
 |gtr=>exact⟨_,λi d q p l o j s=>RS.gtr (m i j) (n i j),h⟩
 |geq=>exact⟨_,λi d q p l o j s=>RS.geq (m i j) (n i j),h⟩
 |eql=>exact⟨_,λi d q p l o j s=>RS.eql (m i j) (n i j),h⟩
 |and=>exact⟨_,λi d q p l o j s=>RS.RY (.inl rfl) (m i j) (n i j),h⟩
 |or=>exact⟨_,λi d q p l o j s=>RS.RY (.inr (.inl rfl)) (m i j) (n i j),h⟩
 |xor=>exact⟨_,λi d q p l o j s=>RS.RY (.inr (.inr (.inl rfl))) (m i j) (n i j),h⟩
 |andNot=>exact⟨_,λi d q p l o j s=>RS.RY (.inr (.inr (.inr rfl))) (m i j) (n i j),h⟩
 |neq=>
  refine⟨_,λi d q p l o j s=>?_,h⟩;have:=RS.neq (P:=P) (d:=d) (ty:=q) (pos:=p) (af:=l) (gd:=o) (t:=b) (t2:=k) (m i j) (n i j);rw[decide_not]at this;exact this
 |rem=>
  simp only[mE]at h;obtain⟨z,t,v⟩:=bj h;unfold FQ at t;split at t
  ·cases t
  ·rename_i u
   cases t;exact⟨_,λi d q p l o j s=>RS.rem (m i j) (n i j) u,v⟩
 |quo=>
  simp only[mE]at h;obtain⟨z,t,v⟩:=bj h;unfold PC at t;split at t
  ·cases t
  ·rename_i u
   cases t;exact⟨_,λi d q p l o j s=>RS.quo (m i j) (n i j) u,v⟩
 |_=>cases h
def zn:∀(s:Sc) {b rest:List EV} {x:s.cZ},PF s b=some (x,rest)->s.key=true->∃f,b=f++rest/\bX f=bF s x
 |.pr a c,b,rest,x,h,d=>by
  simp only[Sc.key,apS]at d;simp only[PF]at h;split at h
  ·rename_i o m g
   split at h
   ·rename_i vb n i
    simp only[apU,aqa]at h;obtain⟨rfl,rfl⟩:=h;obtain⟨p,rfl,j⟩:=zn a g d.1;obtain⟨q,rfl,l⟩:=zn c i d.2;exact⟨p++q,by simp,by rw[kH,j,l];rfl⟩
   ·cases h
  ·cases h
 |.u,b,rest,x,h,d=>by
  simp only[PF,apU,aqa]at h;obtain⟨-,rfl⟩:=h;exact⟨[],rfl,rfl⟩
 |.i k,b,rest,x,h,d=>by
  cases b with
  |nil=>simp[PF]at h
  |cons c b=>
   cases c with
   |sc s y=>
    simp only[PF]at h;split at h
    ·rename_i z e
     simp only[apU,aqa]at h;obtain⟨rfl,rfl⟩:=h;obtain⟨rfl,rfl⟩:=di e;exact⟨[_],rfl,rfl⟩
    ·cases h
   |_=>simp[PF]at h
 |.b,b,rest,x,h,d=>by
  cases b with
  |nil=>simp[PF]at h
  |cons c b=>
   cases c with
   |sc s y=>
    simp only[PF]at h;split at h
    ·rename_i z e
     simp only[apU,aqa]at h;obtain⟨rfl,rfl⟩:=h;obtain⟨rfl,rfl⟩:=di e;exact⟨[_],rfl,rfl⟩
    ·cases h
   |_=>simp[PF]at h
 |.sl r,b,rest,x,h,d=>by simp[Sc.key]at d
def LR.c_{Rd:bE}{E:Option Env}:∀(s:Sc) (x:s.cZ) {b:bD},s.key=true->LR (VR Rd E) (bF s x) b->b=c_ s x
 |.i k,x,b,_,h=>by
  obtain⟨d,e⟩:=h
  match b,d with
  |[u],_=>exact ap5 (λz=>[z]) (e 0 _ _ rfl rfl).bN
 |.b,x,b,_,h=>by
  obtain⟨d,e⟩:=h
  match b,d with
  |[u],_=>exact ap5 (λz=>[z]) (e 0 _ _ rfl rfl).bN
 |.u,x,b,_,h=>aqT h.1
 |.sl r,x,b,f,_=>by simp[Sc.key]at f
 |.pr a c,x,b,f,h=>by
  simp only[Sc.key,apS]at f;have j:b.length=(bF a x.1).length+(bF c x.2).length:=by rw[h.1];simp[bF]
  have d:=h.take (bF a x.1).length;have e:=h.drop (bF a x.1).length;simp only[bF,asD,List.drop_left]at d e;have g:=LR.c_ a x.1 f.1 d;have i:=LR.c_ c x.2 f.2 e;rw[<-arK (bF a x.1).length b,g,i];rfl
def RS.ahm{x y:I.cZ}(d:Zo P k I)(o:t.ev c=.ag (bF I x))(p:t.ev e=.ag (bF I y)):
 RS P ⟨K,.binOp .eql k c e G,b,H,J,N⟩ t (.v (.bool (iF I x y)))/\RS P ⟨K,.binOp .neq k c e G,b,H,J,N⟩ t (.v (.bool (!(iF I x y)))):=by
 refine⟨λv m a n w h=>?_,λv m a n w h=>?_⟩
 all_goals
  have i:=h.ev c;have j:=h.ev e;rw[o]at i;rw[p]at j;obtain⟨z,f,q⟩:=VR.e9 i;obtain⟨A,g,r⟩:=VR.e9 j;rw[LR.c_ I x d.1 q]at f;rw[LR.c_ I y d.1 r]at g;refine⟨_,.v,λl _=>?_⟩;have s:=(d.2 x y l).1;have u:=(d.2 x y l).2;simp only[execOp,f,g,ap6,u,ap7,binOp,s,ap8]
def Zt(C:gw P T){E:BinOp}{i:EV->Option a}{r:a}(h:Zq T E b (eI ev c) (eI ev e) i=some r):
 ∃g,Pg P (.binOp E b c e k) ev hg g []/\i g=some r:=by
 unfold Zq at h;split at h
 ·rename_i Q j n
  split at h
  ·rename_i R l o
   split at h
   ·obtain⟨z,u,D⟩:=bj h
    exact⟨_,λw d x v p q m t=>RS.shl u (m.is n (by intro f;cases f)) (m.is o (by intro f;cases f)),D⟩
   ·obtain⟨z,u,D⟩:=bj h
    exact⟨_,λw d x v p q m t=>RS.shr u (m.is n (by intro f;cases f)) (m.is o (by intro f;cases f)),D⟩
   ·split at h
    ·rename_i z u
     obtain⟨f,rfl⟩:=di u;cases f;exact ae_ h n o
    ·cases h
  ·cases h
 ·rename_i N n
  split at h
  ·rename_i O o
   split at h
   ·rename_i s m
    split at h
    ·rename_i S J
     split at h
     ·rename_i U K
      have y:=C.eq _ _ m;obtain⟨L,F,H⟩:=zn s J y.1;obtain⟨M,G,I⟩:=zn s K y.1;simp only[aqy]at F G;subst F G;split at h
      ·refine⟨_,λw d x v p q m t=>(RS.ahm y ?_ ?_).1,h⟩
       ·rw[m.is n (by intro f;cases f),enc,H]
       ·rw[m.is o (by intro f;cases f),enc,I]
      ·refine⟨_,λw d x v p q m t=>(RS.ahm y ?_ ?_).2,h⟩
       ·rw[m.is n (by intro f;cases f),enc,H]
       ·rw[m.is o (by intro f;cases f),enc,I]
      ·cases h
     ·cases h
    ·cases h
   ·cases h
  ·cases h
 ·rename_i j n
  split at h
  ·rename_i l o
   split at h
   ·obtain⟨A,B⟩:=aY h
    exact⟨_,λw d x v p q m t=>RS.anV (C.bo _ A) (m.is n (by intro f;cases f)) (m.is o (by intro f;cases f)),B⟩
   ·obtain⟨A,B⟩:=aY h
    exact⟨_,λw d x v p q m t=>RS.an1 (C.bo _ A) (m.is n (by intro f;cases f)) (m.is o (by intro f;cases f)),B⟩
   ·cases h
  ·cases h
 ·cases h
def afa{l:UnOp}{k:EV->Option a}{r:a}(h:aia l (eI ev c) k=some r):∃f,Pg P (.unOp l b c) ev hg f []/\k f=some r:=by
 unfold aia at h;split at h
 ·split at h
  ·rename_i g i
   exact⟨_,λq d s p m n j o=>RS.not (j.is i (by intro e;cases e)),h⟩
  ·cases h
 ·split at h
  ·rename_i t g i
   exact⟨_,λq d s p m n j o=>RS.neg (j.is i (by intro e;cases e)),h⟩
  ·cases h
 ·cases h
def Zu(m:gw P T){k:EV->aZ->Option a}{r:a}(o:W[0]? =some b)(n:(T b).jW=true)(h:Zr hg (eI ev c) k=some r):
 ∃f y,Pg P (.call ⟨.builtin .len, #[c],W⟩) ev hg f y/\k f y=some r:=by
 unfold Zr at h;split at h
 ·rename_i x w i
  refine⟨_,_,λt d u s p q g l=>RS.len (m.jW _ n) o ?_,h⟩;rw[g.is i (by intro e;cases e)];simp only[enc,encS,qI,ap1]
 ·rename_i x w i
  refine⟨_,_,λt d u s p q g l=>RS.len (m.jW _ n) o ?_,h⟩;rw[g.is i (by intro e;cases e)];simp only[enc,encS,qI,ap1]
 ·rename_i i
  refine⟨_,_,λt d u s p q g l=>RS.len (m.jW _ n) o ?_,h⟩;rw[g.is i (by intro e;cases e)];rfl
 ·rename_i j i
  split at h
  ·rename_i z x w wr v
   refine⟨_,_,λt d u s p q g l=>RS.len (m.jW _ n) o ?_,h⟩;rw[g.is i (by intro e;cases e)];simp only[enc,qI,l.at (by simp) v,b_,ap1]
  ·rename_i z A B w v
   refine⟨_,_,λt d u s p q g l=>RS.len (m.jW _ n) o ?_,h⟩;rw[g.is i (by intro e;cases e)];simp only[enc,qI,l.at (by simp) v,b_,ap1]
  ·cases h
 ·cases h
def WQ(q:gw P T){k:EV->aZ->Option a}{r:a}(w:W[0]? =some b)(h:PH T hg b (eI ev c) k=some r):
 ∃f l,Pg P (.call ⟨.builtin .len, #[c],W⟩) ev hg f l/\k f l=some r:=by
 unfold PH at h;split at h
 ·rename_i j x
  split at h
  ·rename_i d i m g t
   split at h
   ·rename_i tz u
    obtain⟨C,z⟩:=tz;refine⟨_,_,λA o B y n p v s=>?_,h⟩;have:=RS.anY (P:=P) (st:=A) (dd:=o) (ty:=B) (pos:=y) (af:=n) (gd:=p) (k:=j) (es:=mD i m g) w (q.mp _ _ u) (v.is x (by intro e;cases e)) (s.at (by simp) t);rw[show(mD i m g).length=g.length by simp[mD]]at this;exact this
   ·cases h
  ·cases h
 ·cases h
def oe(a:List EV)(m:Nat):bX (a.take m)=(bX a).take m:=by rw[dR,dR,ase]
def lQ(a:List EV)(m:Nat):bX (a.drop m)=(bX a).drop m:=by rw[dR,dR,asu]
def PJ{k:List EV->aZ->Option a}{r:a}(h:BS hg y m k=some r):
 ∃w v,(∀g l,(∀x,v.contains x=true->l.contains x=true)->Hk hg l g->k9 g (enc y) m=some (bX w))/\k w v=some r:=by
 unfold BS at h;split at h
 ·rename_i w
  obtain⟨d,f⟩:=aY h;refine⟨_,_,λg l u n=>?_,f⟩;simp only[enc,k9,fF];rw[apR (apY d),oe]
 ·rename_i j o
  split at h
  ·rename_i t w z
   obtain⟨d,f⟩:=aY h;refine⟨_,_,λg l u n=>?_,f⟩;simp only[enc,k9,n.at (u j (by simp)) z,b_,fF];simp only[apS]at d;rw[apR ⟨zl d.1,apY d.2⟩,oe,lQ]
  ·cases h
 ·rename_i j i K o
  split at h
  ·rename_i t C A wr z
   obtain⟨d,f⟩:=aY h;obtain⟨x,e,p⟩:=bj f;simp only[apS]at d;have D:=apX d.1;have E:=apY d.2;obtain⟨H,e⟩:=eH e;refine⟨_,_,λg l u n=>?_,p⟩;simp only[enc,k9,n.at (u j (by simp)) z,b_,aqd,e,aq3,eT];rw[apR ⟨by omega,D.symm⟩,oe,lQ,gB]
  ·rename_i t C A I z
   obtain⟨d,f⟩:=aY h;simp only[apS]at d;have D:=apX d.1.1;have E:=apX d.1.2;have G:=apX d.2;have look:∀{v:aZ} {c:EV},(vf C A I)[i.toNat]? =some (enc c)->v.contains j=true->∀g l,(∀x,v.contains x=true->l.contains x=true)->Hk hg l g->k9 g (enc (.pe j i K o)) m=some (bX [c]):=λF N g l u n=>by
    simp only[enc,k9,n.at (u j N) z,b_,F];rw[apR ⟨D,E,G⟩];rfl
   have plain:∀{k:List EV->aZ->Option a},(∀x,A[i.toNat]? =some x->(vf C A I)[i.toNat]? =some (WO C x))->(aW (ba A i) λx=>cond (l4 x) (k [.nil] [j]) (k [.sc (.sl C) x] [j]))=some r->
    ∃w v,(∀g l,(∀x,v.contains x=true->l.contains x=true)->Hk hg l g->k9 g (enc (.pe j i K o)) m=some (bX w))/\k w v=some r:=λ{k} M h=>by
    obtain⟨x,e,p⟩:=bj h;obtain⟨H,e⟩:=eH e;have F:=M x e;cases x with
    |nil=>exact⟨_,_,look (c:=.nil) F (by simp),p⟩
    |cons b O=>exact⟨_,_,look (c:=.sc (.sl C) (b::O)) F (by simp),p⟩
   split at f
   ·refine plain (λx e=>?_) f
    simp only[vf,aqd,e,aq3]
   ·rename_i J y
    rcases bL f with⟨B,f⟩|⟨B,f⟩
    ·cases y with
     |some q=>
      obtain⟨x,e,p⟩:=bj f;obtain⟨H,e⟩:=eH e;have B:i.toNat=J.toNat:=aqK B;refine⟨_,_,look (c:=.ow q) ?_ (by simp),p⟩;have L:i.toNat<A.length:=(apV.1 e).1;simp only[vf,<-B,enc,nrH];rw[auO (by simpa using L)]
     |none=>cases f
    ·refine plain (λx e=>?_) f
     have B:¬i.toNat=J.toNat:=arZ B;simp only[vf];rw[atm (by omega),aqd,e];rfl
  ·rename_i t I s A z
   obtain⟨d,f⟩:=aY h;simp only[apS]at d;have D:=apX d.1.1;have E:=apX d.1.2;have G:=apX d.2;split at f
   ·rename_i q
    obtain⟨x,e,p⟩:=bj f;obtain⟨H,e⟩:=eH e;refine⟨_,_,λg l u n=>?_,p⟩;simp only[enc,k9,n.at (u j (by simp)) z,b_,aqd,e,aq3];rw[apR ⟨D,E,G⟩];rfl
   ·cases f
  ·cases h
 ·cases h
def KY{a:List EV}(h:RX D a=some y):Zc D (bX a)=some (enc y):=by
 unfold RX at h;split at h
 ·cases h;rfl
 ·cases h;rfl
 ·cases h
def WS(n:gw P T){k:EV->aZ->Option a}{r:a}(h:PI T hg b (eI ev c) k=some r):∃f g,Pg P (.load b c) ev hg f g/\k f g=some r:=by
 unfold PI at h;split at h
 ·rename_i v m s
  obtain⟨w,g,l,i⟩:=PJ h;split at i
  ·rename_i f o
   refine⟨f,g,λj d z y u x q p=>RS.wa ?_,i⟩;have t:j.ev c=enc (eI ev c):=q.is rfl (λe=>by rw[e]at h;simp[BS]at h);simp only[wa,n.ty _ _ s,t,l j g (λ_ h=>h) p];exact KY o
  ·cases i
 ·cases h
def WT{p q:EV}(h:Il p d=some q):gy (enc p) d=some (enc q):=by
 unfold Il at h;split at h
 ·cases h;rfl
 ·cases h;rfl
 ·cases h;simp only[enc,gy,lQ]
 ·cases h
def o3(h:ba (List.range d) A=some m):0<=A/\A<d/\m=A.toNat:=by
 obtain⟨e,a⟩:=eH h;obtain⟨b,c⟩:=apV.1 a;simp at b c;omega
def PL(H:gw P T){k:EV->aZ->Option a}{r:a}(h:Im T hg b (eI ev c) (eI ev e) k=some r):∃l U,Pg P (.indexAddr b c e) ev hg l U/\k l U=some r:=by
 unfold Im at h;split at h
 ·rename_i Y i I
  split at h
  ·rename_i M G w
   split at h
   ·rename_i f J O z v
    obtain⟨p,D⟩:=aY h;obtain⟨g,q,u⟩:=bj D;obtain⟨t,q⟩:=eH q;simp only[apS]at p;have y:=apX p.1;have A:0<J:=apY p.2;refine⟨_,_,λK d F E B C s x=>?_,u⟩;have:=RS.RH (P:=P) (d:=d) (ty:=F) (pos:=E) (af:=B) (gd:=C) (H.el _ _ v) (by rw[y];exact s.is w (by intro f;cases f)) (s.is I (by intro f;cases f)) t (by rw[aqd,q];rfl) A;rw[enc,gB];exact this
   ·cases h
  ·rename_i M G w
   split at h
   ·rename_i f J O z v
    obtain⟨p,D⟩:=aY h;obtain⟨g,q,u⟩:=bj D;obtain⟨t,q⟩:=eH q;simp only[apS]at p;have y:=apX p.1;have A:0<J:=apY p.2;refine⟨_,_,λK d F E B C s x=>?_,u⟩;have:=RS.RH (P:=P) (d:=d) (ty:=F) (pos:=E) (af:=B) (gd:=C) (H.el _ _ v) (by rw[y];exact s.is w (by intro f;cases f)) (s.is I (by intro f;cases f)) t (by rw[aqd,q];rfl) A;rw[enc,gB];exact this
   ·cases h
  ·rename_i j w
   split at h
   ·rename_i S M G wr N
    split at h
    ·rename_i f J O z v
     obtain⟨p,D⟩:=aY h;obtain⟨g,q,u⟩:=bj D;obtain⟨t,q⟩:=eH q;simp only[apS]at p;have y:=apX p.1;have A:=apX p.2;have R:=(apV.1 q).1;refine⟨_,_,λK d F E B C s x=>?_,u⟩;refine RS.ae0 (rows:=List.map (bF M) G) (wr:=wr) (H.el _ _ v) (s.is w (by intro f;cases f)) ?_ (s.is I (by intro f;cases f)) t (by rw[ap1];omega);rw[x.at (by simp) N,y,A];rfl
    ·cases h
   ·rename_i S M G L N
    split at h
    ·rename_i f J O z v
     obtain⟨p,D⟩:=aY h;obtain⟨g,q,u⟩:=bj D;obtain⟨t,q⟩:=eH q;simp only[apS]at p;have y:=apX p.1;have A:=apX p.2;subst y;subst A;have R:=(apV.1 q).1;refine⟨_,_,λK d F E B C s x=>?_,u⟩;refine RS.RU (cs:=vf M G L) (H.el _ _ v) (s.is w (by intro f;cases f)) ?_ (s.is I (by intro f;cases f)) t ?_
     ·rw[x.at (by simp) N];rfl
     ·have:(vf M G L).length=G.length:=by
       unfold vf;split<;>simp
      rw[this];omega
    ·cases h
   ·rename_i S L V G N
    split at h
    ·rename_i f J O z v
     obtain⟨p,D⟩:=aY h;obtain⟨g,q,u⟩:=bj D;obtain⟨t,q⟩:=eH q;simp only[apS]at p;have y:=apX p.1;have A:=apX p.2;subst y;subst A;have R:=(apV.1 q).1;refine⟨_,_,λK d F E B C s x=>?_,u⟩;refine RS.RU (cs:=G.map (Zl V L)) (H.el _ _ v) (s.is w (by intro f;cases f)) ?_ (s.is I (by intro f;cases f)) t ?_
     ·rw[x.at (by simp) N];rfl
     ·rw[ap1];omega
    ·cases h
   ·cases h
  ·rename_i j o w
   split at h
   ·rename_i n f J v
    split at h
    ·obtain⟨Q,h⟩:=aY h
     obtain⟨g,q,h⟩:=bj h;obtain⟨m,X,u⟩:=bj h;obtain⟨t,p,rfl⟩:=o3 q;simp only[apS]at Q;have L:=apX Q.1;subst L;exact⟨_,_,λK d F E B C s x=>RS.Py (H.ar _ _ v) (s.is I (by intro f;cases f)) t p (s.is w (by intro f;cases f)),u⟩
    ·obtain⟨g,q,u⟩:=bj h
     obtain⟨t,p,rfl⟩:=o3 q;exact⟨_,_,λK d F E B C s x=>RS.vX (H.ar _ _ v) (s.is I (by intro f;cases f)) t p (by rw[s.is w (by intro f;cases f)];rfl),u⟩
   ·cases h
  ·rename_i W w
   split at h
   ·rename_i n f J v
    obtain⟨g,q,u⟩:=bj h;obtain⟨t,p,rfl⟩:=o3 q;refine⟨_,_,λK d F E B C s x=>RS.vX (H.ar _ _ v) (s.is I (by intro f;cases f)) t p ?_,u⟩;rw[s.is w (by intro f;cases f)];simp only[enc,gy,lQ]
   ·cases h
  ·cases h
 ·cases h
def VR.aic{Rd:bE}(h:VR Rd X (.fp i) v)(d:i[0]? =some s):VR Rd X (.fp [s]) v:=by
 cases h with
 |fp e k g f=>
  cases e with
  |nil=>
   have:=(apV.1 d).1;simp at k;omega
  |cons a e=>
   refine VR.fp [a] rfl (λj m l b c=>?_) (λj l b=>?_)
   ·cases j with
    |zero=>simp at b c;subst b;subst c;exact g 0 _ _ d rfl
    |succ j=>simp at b
   ·cases j with
    |zero=>simp at b;subst b;exact f 0 _ rfl
    |succ j=>simp at b
def RS.imp'{P:Program}{o:Oper}(h:RS P o t s)(c:∀Rd E u,VR Rd E s u->VR Rd E R u):RS P o t R:=λg b e a w hg=>by
 obtain⟨v,f,d⟩:=h g b e a w hg;exact⟨v,c _ _ _ f,d⟩
def Zv(v:gw P T){k:EV->aZ->Option a}{r:a}(h:Zs T b d (eI ev c) k=some r):∃f s,Pg P (.indexAddr b (.global d) c) ev hg f s/\k f s=some r:=by
 unfold Zs at h;split at h
 ·rename_i K i F
  split at h
  ·rename_i G l z
   split at h
   ·rename_i n e N y
    obtain⟨m,o⟩:=aY h;have m:=apX m;subst m;obtain⟨g,w,o⟩:=bj o;obtain⟨t,B,rfl⟩:=o3 w;obtain⟨x,p,A⟩:=bj o;obtain⟨_,p⟩:=eH p;refine⟨_,_,λM j O L H I C J=>?_,A⟩;refine RS.imp' (RS.vX (q:=.fp ((l.map λx=>AV.v (.int G x)).drop (i.toNat*1))) (v.ar _ _ y) (C.is F (by intro e;cases e)) t B ?_) λRd E u D=>?_
    ·simp only[St.ev,gA,z,gy]
    ·exact D.aic (by rw[arb,arf,arh,aqd,p];rfl)
   ·cases h
  ·cases h
 ·cases h
def PM(o:gw P T){k:EV->Option a}{r:a}(h:Io T b d (eI ev c) k=some r):∃f,Pg P (.field b c d) ev hg f []/\k f=some r:=by
 unfold Io at h;split at h
 ·rename_i z p
  split at h
  ·rename_i v m l
   obtain⟨j,i⟩:=aY h;refine⟨_,λx g y w q s n u=>RS.field (o.fd _ _ _ l) (n.is p (by intro e;cases e)) (by rw[fF];exact apY j) (.inl ⟨rfl,?_⟩),i⟩;simp only[enc,oe,lQ]
  ·rename_i v m l
   obtain⟨j,i⟩:=aY h;split at i
   ·rename_i f t
    refine⟨_,λx g y w q s n u=>RS.field (o.fd _ _ _ l) (n.is p (by intro e;cases e)) (by rw[fF];exact apY j) (.inr ⟨rfl,?_⟩),i⟩;rw[dR,aqd,t];rfl
   ·cases i
  ·cases h
 ·cases h
def PN(n:gw P T){k:EV->aZ->Option a}{r:a}{i:CI}(h:Iq T ev hg b i.toList k=some r):∃c e,Pg P (.build b i) ev hg c e/\k c e=some r:=by
 unfold Iq at h;split at h
 ·rename_i z l q
  split at h
  ·rename_i B e u
   split at h
   ·rename_i x o
    refine⟨_,_,λC d D A w y v p=>?_,h⟩;obtain⟨j,m⟩:=Gh v p u λ_ h=>h;have g:=KX o;rw[KV]at g;obtain⟨f,s,t⟩:=n.pl _ _ _ q;exact RS.build s j m (vh t g)
   ·cases h
  ·cases h
 ·cases h
def zeroV:(s:Sc)->s.cZ
 |.i _=>(0:Int)
 |.b=>false
 |.sl r=>([]:List r.cZ)
 |.pr x y=>(zeroV x,zeroV y)
 |.u=>()
def qK:Sc->bD->Option bD
 |.i k,a=>match a with
  |.int l n::r=>if k=l/\n=0 then some r else none
  |_=>none
 |.b,a=>match a with
  |.bool c::r=>cond c none (some r)
  |_=>none
 |.sl _,a=>match a with
  |.slice none 0 0::r=>some r
  |_=>none
 |.pr x y,a=>match qK x a with
  |some b=>qK y b
  |none=>none
 |.u,a=>some a
def mN:∀(s:Sc) {b rest:bD},qK s b=some rest->∃d,b=d++rest/\nA (d.map lq) (bF s (zeroV s))/\d.all Value.oneCell'=true/\d.all (λv=>(lq v).one)=true
 |.i k,b,rest,h=>by
  simp only[qK]at h;split at h
  ·split at h
   ·rename_i f
    cases h;obtain⟨rfl,rfl⟩:=f;exact⟨[_],rfl,.cons (Wk.refl (.v (.int _ 0))) .nil,rfl,rfl⟩
   ·cases h
  ·cases h
 |.b,b,rest,h=>by
  simp only[qK]at h;split at h
  ·rename_i c m
   cases c with
   |true=>cases h
   |false=>
    cases h;exact⟨[_],rfl,.cons (Wk.refl (.v (.bool false))) .nil,rfl,rfl⟩
  ·cases h
 |.sl r,b,rest,h=>by
  simp only[qK]at h;split at h
  ·cases h
   exact⟨[_],rfl,.cons (Wk.empty rfl) .nil,rfl,rfl⟩
  ·cases h
 |.pr a c,b,rest,h=>by
  simp only[qK]at h;split at h
  ·rename_i l e
   obtain⟨p,rfl,p1,p2,p3⟩:=mN a e;obtain⟨q,rfl,g,i,j⟩:=mN c h;refine⟨p++q,by simp,?_,by simp only[at6,p2,i];rfl,by simp only[at6,p3,j];rfl⟩;rw[aqH];exact p1.append g
  ·cases h
 |.u,b,rest,h=>by
  simp only[qK,apU]at h;subst h;exact⟨[],rfl,.nil,rfl,rfl⟩
def aid(s:Sc)(z:Value):Bool:=match s with
 |.pr x y=>match z with
  |.agg a=>match qK (.pr x y) a.toList with
   |some []=>true
   |_=>false
  |_=>false
 |.u=>match z with
  |.agg a=>match qK .u a.toList with
   |some []=>true
   |_=>false
  |_=>false
 |.i k=>match z with
  |.agg _=>false
  |z=>match qK (.i k) [z]with
   |some []=>true
   |_=>false
 |.b=>match z with
  |.agg _=>false
  |z=>match qK .b [z]with
   |some []=>true
   |_=>false
 |.sl r=>match z with
  |.agg _=>false
  |z=>match qK (.sl r) [z]with
   |some []=>true
   |_=>false
def nA.single(h:nA [s] [R]):Wk s R:=by
 cases h with
 |cons h _=>exact h
def RZ(h:aid I v=true):Wk (Kj v) (enc (iS I (zeroV I))):=by
 have one:∀{I:Sc} {v:Value} {c:AV},qK I [v]=some []->bF I (zeroV I)=[c]->Wk (lq v) c:=by
  intro I v c h j;obtain⟨g,a,b,_⟩:=mN I h;rw[aqy]at a;subst a;rw[j]at b;exact b.single
 have f:∀{v:Value},(∀i,v≠.agg i)->Kj v=lq v:=by
  intro v d;unfold Kj;split
  ·exact absurd rfl (d _)
  ·rfl
 unfold aid at h;split at h
 ·split at h
  ·split at h
   ·rename_i a
    obtain⟨g,b,e,_⟩:=mN _ a;rw[aqy]at b;simp only[Kj,iS,enc,gB,b];exact Wk.ag e
   ·cases h
  ·cases h
 ·split at h
  ·split at h
   ·rename_i a
    obtain⟨g,b,e,_⟩:=mN _ a;rw[aqy]at b;simp only[Kj,iS,enc,b];exact Wk.ag e
   ·cases h
  ·cases h
 ·split at h
  ·cases h
  ·rename_i d
   split at h
   ·rename_i a
    rw[f d];exact one a rfl
   ·cases h
 ·split at h
  ·cases h
  ·rename_i d
   split at h
   ·rename_i a
    rw[f d];exact one a rfl
   ·cases h
 ·split at h
  ·cases h
  ·rename_i d
   split at h
   ·rename_i a
    rw[f d];exact one a rfl
   ·cases h
def kJ(d:TypeDesc)(s:Sc):Bool:=match s with
 |.i k=>match d with
  |.int l=>decide (k=l)
  |_=>false
 |.b=>match d with
  |.bool=>true
  |_=>false
 |.pr (.i .i64) (.i .i64)=>match d with
  |.tuple ⟨[]⟩=>true
  |_=>false
 |_=>false
def qY(h:kJ j I=true)(x:I.cZ):kD j (o0 I x)/\I.key=true:=by
 unfold kJ at h;split at h
 ·split at h
  ·exact⟨by simpa[o0,kD,MapKept.IsKey]using h,rfl⟩
  ·cases h
 ·split at h
  ·exact⟨trivial,rfl⟩
  ·cases h
 ·split at h
  ·exact⟨⟨x.1,x.2,rfl⟩,rfl⟩
  ·cases h
 ·cases h
def Ir:(s:Sc)->EV->Option s.cZ
 |.pr a b,c=>match c with
  |.ag d=>match PF (.pr a b) d with
   |some (x,[])=>some x
   |_=>none
  |_=>none
 |.i k,c=>Gf (.i k) c
 |.b,c=>Gf .b c
 |.sl _,_=>none
 |.u,_=>none
def og(T:TypeId->bs)(hg:Nat->Option ea)(t:TypeId)(c b:EV)(h:Bool)(k:EV->aZ->Option a):Option a:=
 match c with
 |.mp j=>match hg j with
  |some (.mp d e f g)=>match(T t).mp with
   |some (i,z)=>match Ir e b with
    |some x=>cond (kJ d e && kJ i e && aid f z) (cond h (k (.tu [iS f ((bJ e g x).getD (zeroV f)),.sc .b (bJ e g x).isSome]) [j]) (k (iS f ((bJ e g x).getD (zeroV f))) [j])) none
    |none=>none
   |none=>none
  |_=>none
 |_=>none
def oh{d b:TypeDesc}(h:kJ d I=true)(a:kJ b I=true):d=b:=by
 unfold kJ at h a;split at h
 ·split at h
  ·simp only at a
   split at a
   ·have c:=aqK h
    have e:=aqK a;rw[<-c,<-e]
   ·cases a
  ·cases h
 ·split at h
  ·simp only at a
   split at a
   ·rfl
   ·cases a
  ·cases h
 ·split at h
  ·simp only at a
   split at a
   ·rfl
   ·cases a
  ·cases h
 ·cases h
def R0{s:Sc}{x:s.cZ}(c:(match s with
 |.i _=>true
 |.b=>true
 |_=>false)=true) (b:Gf s y=some x):enc y=.v (o0 s x):=by
 have e:encS s x=.v (o0 s x):=by cases s<;>simp at c<;>rfl
 rw[<-e];cases y with
 |sc d a=>obtain⟨rfl,rfl⟩:=di b;rfl
 |nil=>cases s<;>simp[Gf]at b c
 |ts r f=>obtain⟨rfl,rfl⟩:=di b;simp at c
 |_=>simp[Gf]at b
def wg{x:I.cZ}(h:kJ j I=true)(d:Ir I y=some x):∀(Rd:bE) E u,VR Rd E (enc y) u->u=o0 I x:=by
 intro Rd E u e;cases I with
 |i k=>rw[R0 (s:=.i k) rfl d]at e;exact e.bN
 |b=>rw[R0 (s:=.b) rfl d]at e;exact e.bN
 |sl r=>cases d
 |u=>cases d
 |pr a p=>
  have g:=(qY h x).2;simp only[Ir]at d;split at d
  ·rename_i q
   split at d
   ·rename_i c n
    cases d;obtain⟨s,f,l⟩:=zn _ n g;rw[aqy]at f;subst f;simp only[enc,l]at e;obtain⟨t,m,o⟩:=VR.e9 e;rw[m,LR.c_ _ _ g o];rfl
   ·cases d
  ·cases d
def KZ(E:gw P T){k:EV->aZ->Option a}{r:a}(h:og T hg b (eI ev c) (eI ev e) D k=some r):∃i L,Pg P (.lookup b c e D) ev hg i L/\k i L=some r:=by
 unfold og at h;split at h
 ·rename_i j I
  split at h
  ·rename_i d m B s F
   split at h
   ·rename_i U z H
    split at h
    ·rename_i g o
     obtain⟨C,O⟩:=aY h;simp only[apS]at C;obtain⟨⟨n,M⟩,N⟩:=C;have Q:=oh n M;subst Q;obtain⟨J,K⟩:=qY n g;have R:=RZ N;have G:eI ev e≠.un:=λf=>by rw[f]at o;cases m<;>simp[Ir,Gf]at o
     have look:Wk ((fc (mD m B s) (o0 m g)).getD (Kj z)) (enc (iS B ((bJ m s g).getD (zeroV B)))):=by
      rw[nZ K];cases bJ m s g with
      |none=>exact R
      |some v=>exact Wk.refl _
     rcases bL O with⟨x,u⟩|⟨x,u⟩
     ·refine⟨_,_,λS q A y p t l w=>?_,u⟩
      rw[x];have:=RS.Zk (P:=P) (dd:=q) (ty:=A) (pos:=y) (af:=p) (gd:=t) (E.mp _ _ H) (l.is I (by intro f;cases f)) (w.at (by simp) F) (by rw[l.is rfl G];exact wg n o) J;refine this.zc (Wk.tu (.cons look (.cons ?_ .nil)));rw[nZ K,Option.isSome_map];exact Wk.refl _
     ·refine⟨_,_,λS q A y p t l w=>?_,u⟩
      rw[x];exact(RS.lookup (P:=P) (dd:=q) (ty:=A) (pos:=y) (af:=p) (gd:=t) (E.mp _ _ H) (l.is I (by intro f;cases f)) (w.at (by simp) F) (by rw[l.is rfl G];exact wg n o) J).zc look
    ·cases h
   ·cases h
  ·cases h
 ·cases h
def Is(F:gw P T){k:EV->aZ->Option a}{r:a}(h:og T hg b (eI ev c) (eI ev e) false k=some r):∃j d i l m f,hg j=some (.mp d i l m)/\i.key=true/\k (iS l ((bJ i m f).getD (zeroV l))) [j]=some r/\
 ∀(o:St) (n:List (i.cZ×l.cZ)) (q:iN) (x:TypeId) (w:String) (p:dI) (t:fE),Sk ev o->(bJ i n f).getD (zeroV l)=(bJ i m f).getD (zeroV l)->a_ o.h j=some (b_ (.mp d i l n))->RS P ⟨q,.lookup b c e false,x,w,p,t⟩ o (enc (iS l ((bJ i m f).getD (zeroV l)))):=by
 unfold og at h;split at h
 ·rename_i j M
  split at h
  ·rename_i d i l m I
   split at h
   ·rename_i Q z L
    split at h
    ·rename_i f u
     obtain⟨y,E⟩:=aY h;simp only[apS]at y;obtain⟨⟨s,C⟩,D⟩:=y;have G:=oh s C;subst G;obtain⟨O,B⟩:=qY s f;have N:=RZ D;have J:eI ev e≠.un:=λg=>by rw[g]at u;cases i<;>simp[Ir,Gf]at u
     refine⟨j,d,i,l,m,f,I,B,E,λo n q x w p t A H K=>?_⟩;have look:Wk ((fc (mD i l n) (o0 i f)).getD (Kj z)) (enc (iS l ((bJ i m f).getD (zeroV l)))):=by
      rw[nZ B,<-H];cases bJ i n f with
      |none=>exact N
      |some v=>exact Wk.refl _
     exact(RS.lookup (P:=P) (dd:=q) (ty:=x) (pos:=w) (af:=p) (gd:=t) (F.mp _ _ L) (A.is M (by intro g;cases g)) K (by rw[A.is rfl J];exact wg s u) O).zc look
    ·cases h
   ·cases h
  ·cases h
 ·cases h
def ex2(c b:EV)(k:IntKind->Int->Int->Option a):Option a:=match c with
 |.sc (.i d) x=>match b with
  |.sc (.i e) y=>match eB (.i e) (.i d) y with
   |some z=>k d x z
   |none=>none
  |_=>none
 |_=>none
def Zw{k:IntKind->Int->Int->Option a}{r:a}(h:ex2 (eI ev c) (eI ev e) k=some r):∃g d b,eI ev c=.sc (.i g) d/\eI ev e=.sc (.i g) b/\k g d b=some r:=by
 unfold ex2 at h;split at h
 ·rename_i m d i
  split at h
  ·rename_i n b j
   split at h
   ·rename_i z l
    obtain⟨f,rfl⟩:=di l;cases f;exact⟨m,d,b,i,j,h⟩
   ·cases h
  ·cases h
 ·cases h
def It(T:TypeId->bs)(ev:Nat->EV)(hg:Nat->Option ea)(b:Builtin)(d:fU)(f:iM)(k:EV->aZ->Option a):Option a:=
 match b with
 |.len=>match d with
  |⟨[x]⟩=>match f[0]? with
   |some t=>cond (T t).jW (Zr hg (eI ev x) k) (PH T hg t (eI ev x) k)
   |none=>none
  |_=>none
 |.min=>match d with
  |⟨[x,y]⟩=>ex2 (eI ev x) (eI ev y) λe c b=>k (.sc (.i e) (if b<c then b else c)) []
  |_=>none
 |.max=>match d with
  |⟨[x,y]⟩=>ex2 (eI ev x) (eI ev y) λe c b=>k (.sc (.i e) (if b>c then b else c)) []
  |_=>none
 |_=>none
def afb(s:ByteArray)(i:Int):qc:=ba (s.data.toList.map λb:UInt8=>(b.toNat:Int)) i
def exR(T:TypeId->bs)(ev:Nat->EV)(hg:Nat->Option ea)(u:Op)(k:EV->aZ->Option a):Option a:=
 match u with
 |.move x=>k (eI ev x) []
 |.assign x=>k (eI ev x) []
 |.pick c x y=>match eI ev c with
  |.sc .b b=>cond b (k (eI ev x) []) (k (eI ev y) [])
  |_=>none
 |.load t x=>PI T hg t (eI ev x) k
 |.binOp o t x y _=>Zq T o t (eI ev x) (eI ev y) λc=>k c []
 |.unOp o _ x=>aia o (eI ev x) λc=>k c []
 |.convert s t x=>match eI ev x with
  |.sc (.i _) n=>match(T s).ik with
   |some _=>match(T t).ik with
    |some d=>k (.sc (.i d) (d.wrap n)) []
    |none=>none
   |none=>none
  |_=>none
 |.fieldAddr t x f=>match(T t).fd[f]? with
  |some (p,_,m)=>cond (Nat.blt 0 m) (match Il (eI ev x) p with
   |some q=>k q []
   |none=>none) none
  |none=>none
 |.field t x f=>Io T t f (eI ev x) λc=>k c []
 |.indexAddr t (.global g) y=>Zs T t g (eI ev y) k
 |.indexAddr t x y=>Im T hg t (eI ev x) (eI ev y) k
 |.extract x i=>match eI ev x with
  |.tu z=>match z[i]? with
   |some c=>k c []
   |none=>none
  |_=>none
 |.build t v=>Iq T ev hg t v.toList k
 |.lookup t x y r=>og T hg t (eI ev x) (eI ev y) r k
 |.nilCheck x=>cond (nnA (enc (eI ev x))) (k (eI ev x) []) none
 |.makeFunc j l h=>k (.cl j (l.toList.map (eI ev)) (h.toList.map (eI ev))) []
 |.call ⟨.builtin b,e,w⟩=>It T ev hg b e w k
 |.index t (.const (.string s)) y=>match eI ev y with
  |.sc (.i _) i=>cond (T t).sg (aW (afb s i) λb=>k (.sc (.i .u8) b) []) none
  |_=>none
 |_=>none
def RS.C_{P:Program}{s:ByteArray}(r:P.underlying k=some .string)(u:t.ev c=.v (.int C A))(i:ba (s.data.toList.map λS:UInt8=>(S.toNat:Int)) A=some S):
 RS P ⟨K,.index k (.const (.string s)) c,b,H,J,N⟩ t (.v (.int .u8 S)):=λy v e a w h=>by
 have d:=h.ev c;rw[u]at d;have d:=d.bN;obtain⟨g,f⟩:=eH i;rw[aqd]at f;obtain⟨q,n,rfl⟩:=aqo.1 f;have o:s[A.toNat]? =some q:=by
  obtain⟨m,l⟩:=apV.1 n;have p:A.toNat<s.size:=by simpa using m
  rw[getElem?_pos s A.toNat p];exact ap5 some l
 refine⟨_,.v,λx _=>?_⟩;have j:a.eval (.const (.string s))=.string s:=rfl;simp[execOp,Instr.index,d,j,asIntOf,aqi r,g,o]
def PQ(p:gw P T){k:EV->aZ->Option a}{r:a}{b:Builtin}{n:fU}(h:It T ev hg b n W k=some r):∃c s,Pg P (.call ⟨.builtin b,n,W⟩) ev hg c s/\k c s=some r:=by
 unfold It at h;split at h
 ·split at h
  ·rename_i x
   split at h
   ·rename_i t q
    rcases bL h with⟨o,i⟩|⟨o,i⟩
    ·exact Zu p q o i
    ·exact WQ p q i
   ·cases h
  ·cases h
 ·split at h
  ·rename_i x y
   obtain⟨z,f,b,j,l,m⟩:=Zw h;exact⟨_,_,λB d C A u v g w=>RS.min2 (g.is j (by intro e;cases e)) (g.is l (by intro e;cases e)),m⟩
  ·cases h
 ·split at h
  ·rename_i x y
   obtain⟨z,f,b,j,l,m⟩:=Zw h;exact⟨_,_,λB d C A u v g w=>RS.max2 (g.is j (by intro e;cases e)) (g.is l (by intro e;cases e)),m⟩
  ·cases h
 ·cases h
def Sk.wk(a:Sk ev t)(x:Operand):Wk (t.ev x) (enc (eI ev x)):=by
 rcases a.x x with h|h
 ·rw[h];exact Wk.un
 ·rw[h];exact Wk.refl _
def Sk.wks{c:St}(b:Sk ev c):∀a:mL,nA (a.map c.ev) (a.map (enc∘eI ev))
 |[]=>.nil
 |x::a=>.cons (b.wk x) (b.wks a)
def aie(l:gw P T){k:EV->aZ->Option a}{r:a}{D:Op}(h:exR T ev hg D k=some r):∃c E,Pg P D ev hg c E/\k c E=some r:=by
 unfold exR at h;split at h
 ·exact⟨_,_,λu d v t o p f s=>(RS.move _).zc (f.wk _),h⟩
 ·exact⟨_,_,λu d v t o p f s=>(RS.assign _).zc (f.wk _),h⟩
 ·split at h
  ·rename_i c x y _ b B
   rcases bL h with⟨z,A⟩|⟨z,A⟩
   ·subst z
    exact⟨_,_,λu d v t o p f s=>(RS.akz (f.is B (by intro e;cases e)) rfl).zc (f.wk _),A⟩
   ·subst z
    exact⟨_,_,λu d v t o p f s=>(RS.akA (f.is B (by intro e;cases e)) rfl).zc (f.wk _),A⟩
  ·cases h
 ·exact WS l h
 ·obtain⟨c,g,j⟩:=Zt l h
  exact⟨c,_,g,j⟩
 ·obtain⟨c,g,j⟩:=afa h
  exact⟨c,_,g,j⟩
 ·split at h
  ·rename_i n w
   split at h
   ·rename_i N F
    split at h
    ·rename_i K G
     exact⟨_,_,λu d v t o p f s=>RS.conv (l.ik _ _ F) (l.ik _ _ G) (f.is w (by intro e;cases e)),h⟩
    ·cases h
   ·cases h
  ·cases h
 ·split at h
  ·rename_i O L m H
   obtain⟨g,j⟩:=aY h;split at j
   ·rename_i q C
    have M:0<m:=apY g;refine⟨_,_,λu d v t o p f s=>RS.fieldAddr (l.fd _ _ _ H) (by omega) ?_,j⟩;rw[f.is rfl (λe=>by rw[e]at C;simp[Il]at C)];exact WT C
   ·cases j
  ·cases h
 ·obtain⟨c,g,j⟩:=PM l h
  exact⟨c,_,g,j⟩
 ·exact Zv l h
 ·exact PL l h
 ·split at h
  ·rename_i Q w
   split at h
   ·rename_i c B
    refine⟨_,_,λu d v t o p f s=>RS.extract (f.is w (by intro e;cases e)) ?_,h⟩;rw[dR,aqd,B];rfl
   ·cases h
  ·cases h
 ·exact PN l h
 ·exact KZ l h
 ·rename_i x
  obtain⟨g,j⟩:=aY h;refine⟨_,_,λu d v t o p f s=>?_,j⟩;have I:eI ev x≠.un:=λe=>by rw[e]at g;simp[enc,nnA]at g
  have w:=f.is (x:=x) rfl I;rw[<-w];exact RS.nilCheck (by rw[w];exact g)
 ·exact⟨_,_,λu d v t o p f s=>RS.makeFunc.zc (by
   rw[enc,dR,dR,aq4,aq4];exact Wk.clM (f.wks _) (f.wks _)),h⟩
 ·exact PQ l h
 ·split at h
  ·rename_i K i J
   obtain⟨g,j⟩:=aY h;obtain⟨b,z,A⟩:=bj j;exact⟨_,_,λu d v t o p f s=>RS.C_ (l.sg _ g) (f.is J (by intro e;cases e)) z,A⟩
  ·cases h
 ·cases h
end
def Al{e:Nat}:∀(a:List (List AV)) (i o:Nat) (r:List AV) (c:AV),(∀r∈a,r.length=e)->a[i]? =some r->o<e->(a.set i (r.set o c)).flatten=a.flatten.set (i*e+o) c
 |[],i,o,r,c,_,h,_=>by simp at h
 |q::a,0,o,r,c,b,h,f=>by
  simp at h;subst h;have:=b q (by simp);simp only[as0,aqu,asl,aqq];rw[auP _ _ (by omega)]
 |q::a,i+1,o,r,c,b,h,f=>by
  have g:=b q (by simp);have k:=Al a i o r c (λx j=>b x (by simp[j])) (by simpa using h) f;simp only[at7,aqu];rw[k,atn _ _ (by rw[g,aqv];omega),g];congr 2;rw[aqv];omega
def PR{a o:Nat}(e:∀i∈h,i.length=m)(b:h[a]? =some i)(f:o<m):a*m+o<h.flatten.length:=by
 rw[ej e];have c:=(apV.1 b).1;have:(a+1)*m<=h.length*m:=ar6 _ c;rw[aqv]at this;omega
section
variable{P:Program}
def Ga.qP{B:Bs}{p:bE}{k b:Nat}{t:TypeId}{f:Nat}{i:Nat}:∀(xs:List AV) (A:bD) (o:Nat) {st:St} {e:Env} {a:Act} {w:World} {g:List (List AV)} {r:List AV} (h:Ga B p e st a w) (G:a_ st.h k=some (.arr t f g true)) (F:e.bS k=some b)
 (n:g[i]? =some r) (l:LR (VR (bO B p e st.h w) none) xs A) (E:∀c∈xs,c.one=true) (N:o+xs.length<=f) (m:Nat) (z:Nat) (O:z+m=i*f+o),
 ∃H J D,(storeCells ⟨b,z,none⟩ A m).run P w=.ok () J/\Ga B p H ⟨st.n,st.t,D⟩ a J/\a_ D k=some (.arr t f (g.set i (setCells r o xs)) true)/\(∀j,j≠k->a_ D j=a_ st.h j)/\∀j,H.bS j=e.bS j
 |[],[],o,st,e,a,w,g,r,h,G,F,n,l,E,N,m,z,O=>by
  refine⟨e,w,st.h,rfl,h,?_,λ_ _=>rfl,λ_=>rfl⟩;rw[G,setCells];have:g.set i r=g:=by
   obtain⟨M,rfl⟩:=apV.1 n;exact arQ M
  rw[this]
 |x::xs,u::A,o,st,e,a,w,g,r,h,G,F,n,l,E,N,m,z,O=>by
  have W:VR (bO B p e st.h w) none x u:=l.2 0 x u rfl rfl;have a4:LR (VR (bO B p e st.h w) none) xs A:=⟨by simpa using l.1,λj c v L R=>l.2 (j+1) c v (by simpa using L) (by simpa using R)⟩;obtain⟨I,ah,am,aa⟩:=h.sr.ob _ _ G;simp only[aqf]at N;have a9:=I r (ap_ n);have a0:=Al g i o r x I n (by omega);have a6:=PR I n (o:=o) (by omega);obtain⟨M,ap⟩:=apV.1 n;have ae:∀q∈g.set i (r.set o x),q.length=f:=λq Q=>by
   rcases asz Q with Q|rfl
   ·exact I q Q
   ·simpa using a9
  obtain⟨hs,S⟩:=h.sr.qP (rows':=g.set i (r.set o x)) G F (i*f+o) W (E x (by simp)) (by simp) ae a0 a6;have U:∀j,(e.cK k (some b) (e.sv k) 0).bS j=e.bS j:=λj=>by by_cases y:j=k<;>simp[Env.cK,y,F]
  have ac:∀j,(e.cK k (some b) (e.sv k) 0).sv j=e.sv j:=λj=>by by_cases y:j=k<;>simp[Env.cK,y]
  have hg:Ga B p (e.cK k (some b) (e.sv k) 0) ⟨st.n,st.t,(k,some (.arr t f (g.set i (r.set o x)) true))::st.h⟩ a (w.setCell ⟨b,i*f+o,none⟩ u):=⟨h.n,h.d,hs,(h.tr.mono S).ir U ac⟩;obtain⟨H,J,D,ab,a1,a3,a2,Z⟩:=Ga.qP (i:=i) xs A (o+1) hg bf Env.bT (r:=r.set o x) (by rw[aqS];simp[M]) (a4.imp λ_ _ R=>R.mono S) (λc L=>E c (by simp[L])) (by omega) (m+1) z (by omega);refine⟨H,J,D,?_,a1,?_,λj y=>by rw[a2 j y,bc y],λj=>by rw[Z j,U j]⟩
  ·have X:(⟨b,z,none⟩:Addr).add m=⟨b,i*f+o,none⟩:=by rw[aqz,O]
   rcases aa with⟨a8,_⟩|⟨C,ag,s,Y,aq,ai,hm,V,ak,a5,an⟩
   ·rw[a8]at n;simp at n
   obtain rfl:=apZ (Y.symm.trans F);have a7:i*f+o<s.size:=by
    have:=a5.1;rw[aqD]at this;have h2:s.toList.length=s.size:=by simp
    omega
   have aj:w.cell? ⟨C,i*f+o,none⟩=some s[i*f+o]:=by
    rw[aqV w C _ s t (0,0) V];simp[a7]
   have al:=asm w C (i*f+o) s t V;have ao:u.oneCell'=true:=W.jv (E x (by simp)) (λe k he=>by cases he);have ad:(store ⟨C,i*f+o,none⟩ u).run P w=.ok () (w.setCell ⟨C,i*f+o,none⟩ u):=by
    cases u<;>simp_all[store,Sem.run,Value.oneCell']
   simp only[storeCells,ap6,X,ad,ap7];exact ab
  ·rw[a3,aua];rfl
 |[],u::A,_,_,_,_,_,_,_,_,_,_,_,l,_,_,_,_,_=>by have:=l.1;simp at this
 |x::xs,[],_,_,_,_,_,_,_,_,_,_,_,l,_,_,_,_,_=>by have:=l.1;simp at this
variable{st:St}{d:Nat}{ty:TypeId}{pos:String}{af:dI}{gd:fE}{K:St->Prop}
def SS.Zx{t v:TypeId}{x y:Operand}{k c l o:Nat}{m:Hp}{n:Nat}(R:st.ev x=.pe k c l o)(M:jx st.h (st.ev y)=some (m,s))(J:a_ m k=some (.arr v l h true))(U:h[c]? =some i)
 (X:Pn P t=some (D,n)) (p:cellsOf s=some u) (N:u.length=n) (a0:u.all AV.one=true) (a3:o+n<=l) (E:K ⟨st.n,st.t,(k,some (.arr v l (h.set c (setCells i o u)) true))::m⟩):
 SS P ⟨none,.store t x y,ty,pos,af,gd⟩ st K:=by
 intro w0 a2 e a w next Q f O
 obtain⟨e1,a1,Z⟩:=qR f.sr (f.ev y) M;have z:=f.cM a1;obtain⟨B,Y,A⟩:=v8 p Z;have r:=z.ev x;have S:(St.mk st.n st.t m).ev x=.pe k c l o:=by
  cases x<;>exact R
 rw[S]at r;generalize F:a.eval x=g at r;cases r with
 | @pe _ _ _ _ _ b G=>
  obtain⟨td,j,g2,C,_,rfl⟩:=ic X;obtain⟨e',w',h',V,H,L,I,_⟩:=Ga.qP (P:=P) u B o z J G U A (λs p=>aqg.1 a0 s p) (by omega) 0 (c*l+o) rfl;refine sP (w':=w') ?_ (O _ E _ _ _ (H.kE (λj=>by
   by_cases q:j=k
   ·subst q;rw[bf];exact L.symm
   ·rw[bc q];exact(I j q).symm)))
  have W:B.length=j.size:=by rw[A.1];exact N
  simp[execOp,Instr.storeAt,Instr.sureAddr,F,storeVar,Y,cG w C,W,V]
def OR.wh{Rd:bE}{k:Nat}{j rows':List (List AV)}{wr:Bool}(e:oZ j rows')(y:∀c∈rows'.flatten,c.one=true)(h:OR Rd L o m (.arr b k j wr)):OR Rd L o m (.arr b k rows' wr):=by
 obtain⟨l,z,n,p⟩:=h;refine⟨e.wid l,y,n,?_⟩;rcases p with⟨rfl,f,g⟩|⟨a,w,x,q,f,g,r,s,t,u,v⟩
 ·cases e
  exact .inl ⟨rfl,f,g⟩
 ·have i:=e.flat.len
  exact .inr ⟨a,w,x,q,by rw[e.len];exact f,by rw[e.len];exact g,r,s,t,by rw[i];exact e.flat.lr u,by rw[i];exact v⟩
def cn.afc{A:List (Nat×AV)}{k:Nat}{o p:Ob}{h:Hp}(H:∀Rd e w,OR Rd e w k o->OR Rd e w k p):cn P ⟨m,A,(k,some o)::h⟩ ⟨m,A,(k,some p)::h⟩:=by
 intro B x e a w c;have i:∀j,(∃ob,a_ ((k,some o)::h) j=some ob)↔∃ob,a_ ((k,some p)::h) j=some ob:=λj=>by
  by_cases g:j=k
  ·subst g;simp[a_]
  ·simp[a_,g]
 have y:∀b t u,bO B x e ((k,some o)::h) w b t u↔bO B x e ((k,some p)::h) w b t u:=λb t u=>by
  unfold bO;refine and_congr Iff.rfl (and_congr Iff.rfl ⟨λs j ob f l=>?_,λs j ob f l=>?_⟩)
  ·obtain⟨n,r⟩:=(i j).2 ⟨ob,f⟩
   exact s j n r l
  ·obtain⟨n,r⟩:=(i j).1 ⟨ob,f⟩
   exact s j n r l
 refine⟨e,c.n,c.d,⟨c.sr.ext,c.sr.jO,λj ob f=>?_,λj ob b f l=>?_,λj z ob n b F G C D=>?_,c.sr.t_⟩,c.tr.mono λb o u=>(y b o u).1⟩
 ·refine OR.mono (λb o u=>(y b o u).1) ?_
  by_cases g:j=k
  ·subst g
   rw[bf]at f;cases f;exact H _ _ _ (c.sr.ob j o bf)
  ·rw[bc g]at f
   exact c.sr.ob j ob (by rw[bc g];exact f)
 ·obtain⟨v,q⟩:=(i j).2 ⟨ob,f⟩
  exact c.sr.base j v b q l
 ·obtain⟨v,q⟩:=(i j).2 ⟨ob,F⟩
  obtain⟨I,E⟩:=(i z).2 ⟨n,G⟩;exact c.sr.inj j z v I b q E C D
def cn.wh{n:Nat}{e:List (Nat×AV)}{k:Nat}{t:TypeId}{b:Nat}{a rows':List (List AV)}{wr:Bool}{h:Hp}(g:oZ a rows')(f:∀c∈rows'.flatten,c.one=true):
 cn P ⟨n,e,(k,some (.arr t b a wr))::h⟩ ⟨n,e,(k,some (.arr t b rows' wr))::h⟩:=cn.afc λ_ _ _ h=>h.wh g f
def cn.wkT{f:List (Nat×AV)}{i:Nat}(g:Wk s R):cn P ⟨m,(i,s)::f,n⟩ ⟨m,(i,R)::f,n⟩:=by
 intro k h e a w b;refine⟨e,b.n,b.d,b.sr,λj=>?_⟩;have:=b.tr j;by_cases c:j=i
 ·subst c
  simp only[bG,aqs]at this⊢;exact g _ _ _ this
 ·simp only[bG,c,aqN]at this⊢
  exact this
end
variable{Q:iL}
def iY{hg:Nat->Option ea}{h:Hp}{x:I.cZ}{m:eQ}(c:mM hg I y=some (x,m,B))(i:HC hg V h)(l:∀k,B.contains k=true->V.contains k=true)(j:I.w=1/\∀b:I.cZ,bF I b=[encS I b]):
 (∃f,hJ h (enc y)=some (bz m++h,f)/\f.one=true/\nA [f] (bF I x))/\Bz hg m:=by
 obtain⟨⟨f,e,o⟩,p⟩:=Zn c i l;refine⟨⟨f,e,?_,by rw[j.2];exact .cons o .nil⟩,p⟩;unfold mM at c;split at c
 ·rename_i k
  split at c
  ·rename_i t r A wr v
   split at c
   ·rename_i b g
    simp only[apU,aqa]at c;obtain⟨rfl,rfl,rfl⟩:=c;obtain⟨C,w⟩:=i k (l k (by simp)) t r _ wr v;simp only[enc,hJ,w,apU,aqa]at e;rw[<-e.2];rfl
   ·cases c
  ·cases c
 ·split at c
  ·rename_i b g
   rw[C8 (Zm g)]at e;simp only[apU,aqa]at e;rw[<-e.2];clear e o p c i l;cases y with
   |sc z D=>
    obtain⟨rfl,rfl⟩:=di g;have:=j.1;cases z with
    |pr a q=>
     have s:=nY (.pr a q) (zeroV (.pr a q)) .un (by rw[j.2];simp[encS]);cases s
    |u=>simp[Sc.w]at this
    |_=>rfl
   |nil=>rfl
   |ts r A=>rfl
   |_=>simp[Gf]at g
  ·cases c
def sV{hg:Nat->Option ea}:∀(s:Sc) {h:Hp} {l rest:List EV} {x:s.cZ} {g:eQ} {i j:aZ} (b:iu hg s l=some (x,rest,g,i)) (e:HC hg j h) (f:∀k,i.contains k=true->j.contains k=true),
 (∃C z,l=C++rest/\iE h (bX C)=some (bz g++h,z)/\nA z (bF s x)/\z.all AV.one=true)/\Bz hg g
 |.pr a c,h,l,rest,x,g,i,j,b,e,f=>by
  simp only[iu]at b;split at b
  ·rename_i R z A B m
   split at b
   ·rename_i vb N O Q E
    simp only[apU,aqa]at b;obtain⟨rfl,rfl,rfl,rfl⟩:=b;obtain⟨⟨K,p1,rfl,F,L,H⟩,D⟩:=sV a m e (λk u=>f k (by simp at u⊢;exact .inl u));obtain⟨⟨q0,q1,rfl,G,M,I⟩,J⟩:=sV c E (e.put D λk h=>h) (λk u=>f k (by simp at u⊢;exact .inr u));refine⟨⟨K++q0,p1++q1,by simp,?_,L.append M,by rw[at6,H,I];rfl⟩,λk o p=>?_⟩
    ·rw[kH,fG,aqm]
     exact FP F G
    ·rcases ap3.1 p with p|p
     ·exact J k o p
     ·exact D k o p
   ·cases b
  ·cases b
 |.u,h,l,rest,x,g,i,j,b,e,f=>by
  simp only[iu,apU,aqa]at b;obtain⟨-,rfl,rfl,rfl⟩:=b;exact⟨⟨[],[],rfl,rfl,.nil,rfl⟩,λk o p=>by cases p⟩
 |.i k,h,[],rest,x,g,i,j,b,e,f=>by simp[iu]at b
 |.b,h,[],rest,x,g,i,j,b,e,f=>by simp[iu]at b
 |.sl r,h,[],rest,x,g,i,j,b,e,f=>by simp[iu]at b
 |.i k,h,c::l,rest,x,g,i,j,b,e,f=>by
  simp only[iu]at b;split at b
  ·rename_i a A B m
   simp only[apU,aqa]at b;obtain⟨rfl,rfl,rfl,rfl⟩:=b;obtain⟨⟨q,t,v,y⟩,w⟩:=iY m e f ⟨rfl,λ_=>rfl⟩;exact⟨⟨[c],[q],rfl,vg t,y,by simp[v]⟩,w⟩
  ·cases b
 |.b,h,c::l,rest,x,g,i,j,b,e,f=>by
  simp only[iu]at b;split at b
  ·rename_i a A B m
   simp only[apU,aqa]at b;obtain⟨rfl,rfl,rfl,rfl⟩:=b;obtain⟨⟨q,t,v,y⟩,w⟩:=iY m e f ⟨rfl,λ_=>rfl⟩;exact⟨⟨[c],[q],rfl,vg t,y,by simp[v]⟩,w⟩
  ·cases b
 |.sl r,h,c::l,rest,x,g,i,j,b,e,f=>by
  simp only[iu]at b;split at b
  ·rename_i a A B m
   simp only[apU,aqa]at b;obtain⟨rfl,rfl,rfl,rfl⟩:=b;obtain⟨⟨q,t,v,y⟩,w⟩:=iY m e f ⟨rfl,λ_=>rfl⟩;exact⟨⟨[c],[q],rfl,vg t,y,by simp[v]⟩,w⟩
  ·cases b
def qZ(h:s.one=true):cellsOf s=some [s]:=by
 cases s<;>first|(simp[AV.one]at h;done)|simp only[cellsOf,h,aqs]
def Am{hg:Nat->Option ea}{h:Hp}{x:I.cZ}{r:eQ}(b:n_ hg I y=some (x,r,B))(m:HC hg V h)(o:∀k,B.contains k=true->V.contains k=true):
 (∃c s,jx h (enc y)=some (bz r++h,c)/\cellsOf c=some s/\nA s (bF I x)/\s.all AV.one=true)/\Bz hg r:=by
 unfold n_ at b;split at b
 ·rename_i w
  split at b
  ·split at b
   ·rename_i a u v q
    simp only[apU,aqa]at b;obtain⟨rfl,rfl,rfl⟩:=b;obtain⟨⟨t,j,l,e,f,p⟩,g⟩:=sV _ q m o;simp only[aqy]at l;subst l;exact⟨⟨.ag j,j,by simp only[enc,jx,e],rfl,f,p⟩,g⟩
   ·cases b
  ·split at b
   ·rename_i a u v q
    simp only[apU,aqa]at b;obtain⟨-,rfl,rfl⟩:=b;obtain⟨⟨t,j,l,e,f,p⟩,g⟩:=sV _ q m o;simp only[aqy]at l;subst l;exact⟨⟨.ag j,j,by simp only[enc,jx,e],rfl,f,p⟩,g⟩
   ·cases b
  ·cases b
 ·split at b
  ·cases b
  ·cases b
  ·obtain⟨⟨c,e,i,f⟩,g⟩:=iY b m o ⟨rfl,λ_=>rfl⟩
   exact⟨⟨c,[c],Ii e,qZ i,f,by simp[i]⟩,g⟩
  ·obtain⟨⟨c,e,i,f⟩,g⟩:=iY b m o ⟨rfl,λ_=>rfl⟩
   exact⟨⟨c,[c],Ii e,qZ i,f,by simp[i]⟩,g⟩
  ·obtain⟨⟨c,e,i,f⟩,g⟩:=iY b m o ⟨rfl,λ_=>rfl⟩
   exact⟨⟨c,[c],Ii e,qZ i,f,by simp[i]⟩,g⟩
structure Src where
 r:Sc
 xs:List r.cZ
 tt:Bool
 os:eQ
 us:aZ
def Gi(hg:Nat->Option ea):EV->Option Src
 |.sc (.sl r) a=>some ⟨r,a,false,[],[]⟩
 |.ts r a=>some ⟨r,a,true,[],[]⟩
 |.ow j=>match hg j with
  |some (.arr t r a _)=>some ⟨r,a,false,[(j,some (.arr t r a false))],[j]⟩
  |_=>none
 |_=>none
def wi{hg:Nat->Option ea}{h:Hp}{s:Src}(a:Gi hg y=some s)(g:HC hg B h)(i:∀k,s.us.contains k=true->B.contains k=true):
 hJ h (enc y)=some (bz s.os++h,.sl s.tt s.r.w (List.map (bF s.r) s.xs))/\Bz hg s.os/\y≠.un:=by
 unfold Gi at a;split at a
 ·simp only[apU]at a;subst a
  exact⟨rfl,λk o b=>(by cases b),by intro e;cases e⟩
 ·simp only[apU]at a;subst a
  exact⟨rfl,λk o b=>(by cases b),by intro e;cases e⟩
 ·rename_i j
  split at a
  ·rename_i t r f wr c
   simp only[apU]at a;subst a;obtain⟨m,l⟩:=g j (i j (by simp)) t r f wr c;refine⟨?_,?_,by intro e;cases e⟩
   ·simp only[enc,hJ,l];rfl
   ·intro k o b
    simp only[aqe,aqa]at b;obtain⟨rfl,rfl⟩:=b;exact⟨t,r,f,wr,c,rfl⟩
  ·cases a
 ·cases a
def jm(b:List a)(l h:Int):Option (List a):=if 0<=l/\l<=h/\h<=b.length then some ((b.take h.toNat).drop l.toNat)else none
def K0(b:List a)(l h m:Int):Option (List a):=if 0<=l/\l<=h/\h<=m/\m<=b.length then some ((b.take h.toNat).drop l.toNat)else none
def qL(ev:Nat->EV)(x:Operand):qc:=match eI ev x with
 |.sc (.i _) i=>some i
 |_=>none
def jA{ev:Nat->EV}{x:Operand}(h:qL ev x=some A)(a:Sk ev t):∃k,t.ev x=.v (.int k A):=by
 unfold qL at h;split at h
 ·rename_i k c b
  cases h;exact⟨k,a.is b (by intro e;cases e)⟩
 ·cases h
def Da:Operand->Operand->Bool
 |.tmp i,.tmp j=>Nat.beq i j
 |.const (.int _ a),.const (.int _ b)=>decide (a=b)
 |_,_=>false
def aif:iL->Operand->Bool
 |some x,y=>Da x y
 |none,_=>false
def zo{ev:Nat->EV}(h:Da c e=true)(b:qL ev c=some A)(a:qL ev e=some S):A=S:=by
 unfold Da at h;split at h
 ·have:=apX h
  subst this;rw[b]at a;exact apZ a
 ·simp[qL,eI,cvE]at b a h
  rw[<-b,<-a,h]
 ·cases h
def loE(ev:Nat->EV):iL->qc
 |none=>some 0
 |some x=>qL ev x
def hiE(ev:Nat->EV)(n:Nat):iL->qc
 |none=>some (n:Int)
 |some x=>qL ev x
def Zy{ev:Nat->EV}(h:loE ev Q=some A)(c:Sk ev t)(a:0<=A):qJ t 0 Q=some A.toNat:=by
 cases Q with
 |none=>simp only[loE,apU]at h;subst h;rfl
 |some x=>
  obtain⟨k,b⟩:=jA (x:=x) h c;simp only[qJ,b,a,aqs]
def Zz{ev:Nat->EV}{n:Nat}(h:hiE ev n Q=some A)(c:Sk ev t)(a:0<=A):qJ t n Q=some A.toNat:=by
 cases Q with
 |none=>simp only[hiE,apU]at h;subst h;simp[qJ]
 |some x=>
  obtain⟨k,b⟩:=jA (x:=x) h c;simp only[qJ,b,a,aqs]
def Iu(T:TypeId->bs)(ev:Nat->EV)(hg:Nat->Option ea)(t:TypeId)(x:Operand)(f c g:iL)(k:EV->eQ->aZ->Option a):Option a:=
 match Gi hg (eI ev x)with
 |some s=>match(T t).el with
  |some (_,i,_,_)=>cond (Nat.beq i s.r.w) (match loE ev f with
   |some l=>match hiE ev s.xs.length c with
    |some h=>match g with
     |none=>aW (jm s.xs l h) λb=>k (cond (s.tt && c.isNone) (.ts s.r b) (.sc (.sl s.r) b)) s.os s.us
     |some m=>cond (aif c m) (match qL ev m with
      |some _=>aW (jm s.xs l h) λb=>k (.ts s.r b) s.os s.us
      |none=>none) (match c with
      |none=>none
      |some _=>match qL ev m with
       |some e=>aW (K0 s.xs l h e) λb=>cond (decide (h=e)) (k (.ts s.r b) s.os s.us) none
       |none=>none)
    |none=>none
   |none=>none) none
  |none=>none
 |none=>none
section
variable{P:Program}{T:TypeId->bs}{ev:Nat->EV}{hg:Nat->Option ea}{n d:Nat}{ty:TypeId}{pos:String}{af:dI}{gd:fE}
def SS.lF{o:Oper}{c a b:St}(h:SS P o c λs=>s=a)(e:cn P a b):SS P o c λs=>s=b:=h.mono λs f=>by subst f;exact⟨_,e,rfl⟩
def PT(R:gw P T){k:EV->eQ->aZ->Option a}{r:a}{G u A:iL}(x:d<n)(h:Iu T ev hg b c G u A k=some r):
 ∃f L M,FS P ⟨some d,.slice b c G u A,ty,pos,af,gd⟩ n ev hg f L M .no/\k f L M=some r:=by
 unfold Iu at h;split at h
 ·rename_i s Z
  split at h
  ·rename_i e sz a0 z S
   obtain⟨J,v⟩:=aY h;clear h;have hw:=apX J;clear J;subst hw;have h:=v;clear v;split at h
   ·rename_i l U
    split at h
    ·rename_i o C
     have H:∀(m:qc) (B:List s.r.cZ) (f:EV),(0<=l/\l<=o/\o<=s.xs.length)->B=(s.xs.take o.toNat).drop l.toNat->(∀j,m=some j->o<=j/\j<=s.xs.length)->(∀st,Sk ev st->mxA st A=some (m.map Int.toNat))->(A.isSome=true->u.isSome=true)->
      Wk (u9 s.tt (List.map (bF s.r) s.xs) s.r.w l.toNat o.toNat (m.map Int.toNat)) (enc f)->FS P ⟨some d,.slice b c G u A,ty,pos,af,gd⟩ n ev hg f s.os s.us .no:=by
      intro m B f t i V Y X F st hn q Q hf;obtain⟨N,h2,O⟩:=wi Z Q.hc λ_ h=>h;have hx:=q.is rfl O;have:=SS.slice (P:=P) (ty:=ty) (pos:=pos) (af:=af) (gd:=gd) (d:=d) (h':=bz s.os++st.h) (tt:=s.tt) (rows:=List.map (bF s.r) s.xs) (l:=l.toNat) (h:=o.toNat) (m:=m.map Int.toNat) (K:=λs'=>s'=⟨st.n,(d,u9 s.tt (List.map (bF s.r) s.xs) s.r.w l.toNat o.toNat (m.map Int.toNat))::st.t,bz s.os++st.h⟩)
       (R.el _ _ S) (by rw[hx];exact N) (Zy U q t.1) (by rw[ap1];exact Zz C q (by omega)) (Y st q) X (by omega) (by rw[ap1];omega) (by
        intro y hy;obtain⟨j,w,rfl⟩:=aqo.1 hy;have:=V j w;rw[ap1];omega) (by omega) rfl
      exact this.lF (cn.wkT F)
     have I:∀g:Bool,AV.sl g s.r.w (((List.map (bF s.r) s.xs).take o.toNat).drop l.toNat)=.sl g s.r.w (List.map (bF s.r) ((s.xs.take o.toNat).drop l.toNat)):=λg=>by
      rw[<-ase,<-asu]
     split at h
     ·obtain⟨B,i,p⟩:=bj h
      unfold jm at i;split at i
      ·rename_i t
       cases i;refine⟨_,_,_,H none _ _ t rfl (by simp) (λst q=>rfl) (by simp) ?_,p⟩;unfold u9;rw[I];simp only[arO,u5,ap1];cases a2:s.tt with
       |false=>
        simp only[Bool.false_and];exact Wk.refl _
       |true=>
        cases u with
        |none=>
         simp only[hiE,apU]at C;subst C;simp only[ap2,ato,Bool.true_and,Option.isNone_none];exact Wk.refl _
        |some y=>
         simp only[Bool.true_and,Option.isNone_some];cases a1:o.toNat==s.xs.length with
         |true=>exact Wk.tight
         |false=>exact Wk.refl _
      ·cases i
     ·rename_i m
      rcases bL h with⟨D,h⟩|⟨D,h⟩
      ·split at h
       ·rename_i j w
        obtain⟨B,i,p⟩:=bj h;unfold jm at i;split at i
        ·rename_i t
         cases i;have W:j=o:=by
          cases u with
          |none=>cases D
          |some y=>exact(zo D C w).symm
         subst W;refine⟨_,_,_,H (some j) _ _ t rfl (by rintro y ⟨⟩;omega) (λst q=>?_) (λ_=>by cases u with|none=>cases D|some y=>rfl) ?_,p⟩
         ·obtain⟨kk,E⟩:=jA w q
          have v:0<=j:=by omega
          simp[mxA,qJ,E,v]
         ·unfold u9
          rw[I];simp only[aq3,u5,ato];exact Wk.refl _
        ·cases i
       ·cases h
      ·split at h
       ·cases h
       ·rename_i y
        split at h
        ·rename_i j w
         obtain⟨B,i,p⟩:=bj h;unfold K0 at i;split at i
         ·rename_i t
          cases i;have mk:=λf F=>H (some j) _ f ⟨t.1,t.2.1,by omega⟩ rfl (by rintro y ⟨⟩;omega) (λst q=>by
           obtain⟨kk,E⟩:=jA w q;have v:0<=j:=by omega
           simp[mxA,qJ,E,v]) (λ_=>rfl) F
          rcases bL p with⟨x,p⟩|⟨x,p⟩
          ·refine⟨_,_,_,mk (.ts s.r _) ?_,p⟩
           have x:o=j:=by simpa using x
           subst x;unfold u9;rw[I];simp only[aq3,u5,ato];exact Wk.refl _
          ·cases p
         ·cases i
        ·cases h
    ·cases h
   ·cases h
  ·cases h
 ·cases h
end
def qX.x{d:Nat}{a:St}(b:qX (.one d) a)(x:Operand):(a.ev x).gp (λk=>k==d)=true:=by
 cases x with
 |tmp i=>exact b.t i
 |const v=>show(lq v).gp _=true;unfold lq;split<;>rfl
 |global g=>show(gA g).gp _=true;unfold gA;split<;>rfl
 |func f=>rfl
def K1(h:cellsOf s=some i)(a:s.gp U=true):AV.lX U i=true:=by
 cases s with
 |ag l=>simp only[cellsOf,apU]at h;subst h;simpa[AV.gp]using a
 |_=>
  simp only[cellsOf]at h;split at h
  ·simp only[apU]at h;subst h;simp[AV.lX,a]
  ·cases h
def o4{d:Nat}:∀{a:List AV},AV.lX (λk=>k==d) a=true->a.map (AV.kill d)=a
 |[],_=>rfl
 |c::a,h=>by
  simp only[AV.lX,apS]at h;rw[aqc,nW h.1,o4 h.2]
def q8{hg:Nat->Option ea}(d:Nat):∀{os:eQ} {h:Hp},Bz hg os->br d (bz os++h)=bz os++br d h
 |[],h,_=>rfl
 |(k,o)::os,h,a=>by
  obtain⟨t,r,f,wr,e,rfl⟩:=a k o (by simp);have c:=q8 d (os:=os) (h:=h) λk o b=>a k o (by simp[b]);simp only[bz,aq6,br,c];rfl
def afd(p:Nat->Bool)(v:Value):(lq v).gp p=true:=by unfold lq;split<;>rfl
def K2(p:Nat->Bool):∀z:bD,AV.lX p (z.map lq)=true
 |[]=>rfl
 |v::z=>by simp only[aqc,AV.lX,afd,K2 p z];rfl
def qM(a:Int)(b:Nat):bU:=if 0<=a/\b*a.toNat<=140737488355328/\a.toNat<=maxLen then some a.toNat else none
def eN(b:Nat)(c ys:List a):Option (List a):=if(c.length+ys.length)*b<=140737488355328/\c.length+ys.length<=maxLen then some (c++ys)else none
def o5:List a->Bool
 |[]=>true
 |_::_=>false
def zp(ev:Nat->EV)(hg:Nat->Option ea)(r:Sc):Nat->vT->Option (List r.cZ×eQ×aZ)
 |_,[]=>some ([],[],[])
 |j,(i,x)::b=>cond (Nat.beq i j) (match n_ hg r (eI ev x)with
  |some (v,os,c)=>match zp ev hg r (j+1) b with
   |some (e,a,us2)=>some (v::e,a++os,c++us2)
   |none=>none
  |none=>none) none
def ZA(T:TypeId->bs)(ev:Nat->EV)(hg:Nat->Option ea)(d:Nat)(t:TypeId)(g:Nat)(c:vT)(k:EV->eQ->aZ->Fr->Option a):Option a:=
 match g with
 |0=>match c with
  |[]=>match(T t).el with
   |some (_,b,_,_)=>cond (Nat.blt 0 b) (k .nil [] [] .no) none
   |none=>none
  |_=>none
 |m+1=>match(T t).el with
  |some (e,b,_,_)=>match(T t).co with
   |some r=>match zp ev hg r 0 c with
    |some (f,h,i)=>cond (Nat.beq b r.w && Nat.beq f.length (m+1) && Nat.ble ((m+1)*b) 16777216 && Nat.blt 0 b) (k (.ow d) ((d,some (.arr e r f true))::h) i (.one d)) none
    |none=>none
   |none=>none
  |none=>none
def PU(T:TypeId->bs)(ev:Nat->EV)(hg:Nat->Option ea)(d:Nat)(t:TypeId)(f:Nat)(h:vT)(k:EV->eQ->aZ->Fr->Option a):Option a:=
 match f with
 |0=>none
 |m+1=>match(T t).el with
  |some (e,b,_,_)=>match(T t).co with
   |some r=>match zp ev hg r 0 h with
    |some (c,g,i)=>cond (Nat.beq b r.w && Nat.beq c.length (m+1) && Nat.ble ((m+1)*b) 16777216 && Nat.blt 0 b) (k (.ts r c) g i .no) none
    |none=>none
   |none=>none
  |none=>none
def Db(T:TypeId->bs)(ev:Nat->EV)(hg:Nat->Option ea)(d:Nat)(t:TypeId)(x y:Operand)(k:EV->eQ->aZ->Fr->Option a):Option a:=
 match(T t).el with
 |some (e,h,b,_)=>match Gi hg (eI ev y)with
  |some s=>cond (Nat.beq h s.r.w && Nat.blt 0 h) (match eI ev x with
   |.nil=>aW (eN b [] s.xs) λc=>k (.ow d) ((d,some (.arr e s.r c true))::s.os) s.us (.one d)
   |.ts r f=>match eB (.sl r) (.sl s.r) f with
    |some g=>cond (o5 s.xs) none (aW (eN b (show List s.r.cZ from g) s.xs) λc=>k (.ow d) ((d,some (.arr e s.r c true))::s.os) s.us (.one d))
    |none=>none
   |.ow j=>match hg j with
    |some (.arr i r f wr)=>match eB (.sl r) (.sl s.r) f with
     |some g=>cond (Nat.beq e i && !(s.us.contains j) && !(Nat.beq d j)) (aW (eN b (show List s.r.cZ from g) s.xs) λc=>k (.ow d) ((d,some (.arr e s.r c wr))::(j,none)::s.os) (j::s.us) (.one d)) none
     |none=>none
    |_=>none
   |_=>none) none
  |none=>none
 |none=>none
def WU(s:Sc)(c:EV):Option s.cZ:=match s with
 |.i k=>match c with
  |.sc b x=>eB b (.i k) x
  |_=>none
 |.b=>match c with
  |.sc b x=>eB b .b x
  |_=>none
 |.pr a e=>match c with
  |.ag f=>cond (Sc.key (.pr a e)) (match PF (.pr a e) f with
   |some (x,[])=>some x
   |_=>none) none
  |_=>none
 |_=>none
def R3{x:I.cZ}(h:WU I y=some x):enc y=enc (iS I x)/\(enc y).fz=false\/enc y=enc (iS I x)/\(enc y).fz=true:=by
 have:enc y=enc (iS I x):=by
  unfold WU at h;split at h
  ·split at h
   ·obtain⟨rfl,rfl⟩:=di h;rfl
   ·cases h
  ·split at h
   ·obtain⟨rfl,rfl⟩:=di h;rfl
   ·cases h
  ·split at h
   ·obtain⟨e,a⟩:=aY h
    split at a
    ·rename_i j f
     cases a;obtain⟨g,b,c⟩:=zn _ f e;rw[aqy]at b;subst b;simp only[enc,iS,c,gB]
    ·cases a
   ·cases h
  ·cases h
 cases i:(enc y).fz with
 |true=>exact .inr ⟨this,rfl⟩
 |false=>exact .inl ⟨this,rfl⟩
def Gj{h:Hp}:∀{cs:List AV},(∀c∈cs,c.fz=true)->iE h cs=some (h,cs)
 |[],_=>rfl
 |c::cs,a=>by
  have e:=Gj (h:=h) (cs:=cs) λc b=>a c (by simp[b]);simp only[iE,C8 (a c (by simp)),e]
def Dc{h:Hp}(s:Sc)(x:s.cZ):jx h (enc (iS s x))=some (h,enc (iS s x)):=by
 cases s with
 |pr a b=>
  simp only[iS,enc,gB,jx,Gj (Ih (.pr a b) x)]
 |u=>rfl
 |_=>rfl
def q9(hg:Nat->Option ea)(c:EV):(r:Sc)->r.cZ->Nat->Nat->Option (r.cZ×eQ×aZ)
 |.pr a b2,x,o,m=>cond (Nat.beq o 0 && Nat.beq m (a.w+b2.w)) (n_ hg (.pr a b2) c) (cond (Nat.blt o a.w) (match q9 hg c a x.1 o m with
  |some (y,b,e)=>some ((y,x.2),b,e)
  |none=>none) (match q9 hg c b2 x.2 (o - a.w) m with
  |some (y,b,e)=>some ((x.1,y),b,e)
  |none=>none))
 |.i k,_,o,m=>cond (Nat.beq o 0 && Nat.beq m 1) (n_ hg (.i k) c) none
 |.b,_,o,m=>cond (Nat.beq o 0 && Nat.beq m 1) (n_ hg .b c) none
 |.sl r,_,o,m=>cond (Nat.beq o 0 && Nat.beq m 1) (n_ hg (.sl r) c) none
 |.u,_,_,_=>none
def hQ:∀(xs a b:List AV) (o:Nat),o+xs.length<=a.length->setCells (a++b) o xs=setCells a o xs++b
 |[],a,b,o,h=>rfl
 |x::xs,a,b,o,h=>by
  simp only[aqf]at h;simp only[setCells];rw[auP _ _ (by omega)];exact hQ xs _ b (o+1) (by simp;omega)
def fv:∀(c a b:List AV) (o:Nat),a.length<=o->setCells (a++b) o c=a++setCells b (o - a.length) c
 |[],a,b,o,h=>rfl
 |x::c,a,b,o,h=>by
  simp only[setCells];rw[atn _ _ h,fv c a _ (o+1) (by omega)];congr 2;omega
def o6:∀(b a:List AV),b.length=a.length->setCells a 0 b=b
 |[],[],_=>rfl
 |x::b,y::a,h=>by
  simp only[setCells,as0];have:=fv b [x] a 1 (by simp);simp only[arn,ar0,atp,aqq]at this⊢;rw[this,o6 b a (by simpa using h)]
def afe{hg:Nat->Option ea}{h:Hp}(K:HC hg B h):∀(r:Sc) (x:r.cZ) (o m:Nat) {c:r.cZ} {l:eQ} {s:aZ},q9 hg y r x o m=some (c,l,s)->(∀k,s.contains k=true->B.contains k=true)->
 (∃q f,jx h (enc y)=some (bz l++h,q)/\cellsOf q=some f/\f.all AV.one=true/\f.length=m/\o+m<=r.w/\nA (setCells (bF r x) o f) (bF r c))/\Bz hg l:=by
 have C:∀(r:Sc) (x:r.cZ) (o m:Nat) {c:r.cZ} {l:eQ} {s:aZ},Nat.beq o 0=true->Nat.beq m r.w=true->n_ hg r y=some (c,l,s)->(∀k,s.contains k=true->B.contains k=true)->
  (∃q f,jx h (enc y)=some (bz l++h,q)/\cellsOf q=some f/\f.all AV.one=true/\f.length=m/\o+m<=r.w/\nA (setCells (bF r x) o f) (bF r c))/\Bz hg l:=by
  intro r x o m c l s e g L p;have e:=apX e;have g:=apX g;subst e g;obtain⟨⟨q,f,w,z,v,A⟩,E⟩:=Am L K p;have J:f.length=r.w:=by rw[<-v.len,eT]
  refine⟨⟨q,f,w,z,A,J,by omega,?_⟩,E⟩;rw[o6 f _ (by rw[eT];exact J)];exact v
 intro r
 induction r with
 |pr a U N O=>
  intro x o m c l s j p;simp only[q9]at j;rcases bL j with⟨e,g⟩|⟨e,g⟩
  ·simp only[apS]at e
   exact C _ x o m e.1 e.2 g p
  ·rcases bL g with⟨H,t⟩|⟨H,t⟩
   ·split at t
    ·rename_i S Q R I
     simp only[apU,aqa]at t;obtain⟨rfl,rfl,rfl⟩:=t;obtain⟨⟨q,f,w,z,v,A,E,F⟩,G⟩:=N x.1 o m I p;refine⟨⟨q,f,w,z,v,A,by simp only[Sc.w];omega,?_⟩,G⟩;simp only[bF];rw[hQ _ _ _ _ (by rw[eT];omega)];exact F.append (nA.refl _)
    ·cases t
   ·split at t
    ·rename_i S Q R I
     simp only[apU,aqa]at t;obtain⟨rfl,rfl,rfl⟩:=t;have V:a.w<=o:=by
      cases D:Nat.blt o a.w with
      |true=>rw[D]at H;cases H
      |false=>
       have:¬o<a.w:=λM=>by
        have:=aub M;rw[show Nat.blt o a.w=Nat.ble (o+1) a.w from rfl]at D;rw[this]at D;cases D
       omega
     obtain⟨⟨q,f,w,z,v,A,E,F⟩,G⟩:=O x.2 (o - a.w) m I p;refine⟨⟨q,f,w,z,v,A,by simp only[Sc.w];omega,?_⟩,G⟩;simp only[bF];rw[fv _ _ _ _ (by rw[eT];omega),eT];exact(nA.refl _).append F
    ·cases t
 |i k=>
  intro x o m c l s j p;simp only[q9]at j;obtain⟨e,g⟩:=aY j;simp only[apS]at e;exact C _ x o m e.1 e.2 g p
 |b=>
  intro x o m c l s j p;simp only[q9]at j;obtain⟨e,g⟩:=aY j;simp only[apS]at e;exact C _ x o m e.1 e.2 g p
 |sl r W=>
  intro x o m c l s j p;simp only[q9]at j;obtain⟨e,g⟩:=aY j;simp only[apS]at e;exact C _ x o m e.1 e.2 g p
 |u=>
  intro x o m c l s j p;simp[q9]at j
def ZB:H8->Int->Bool
 |none,_=>true
 |some (a,_),i=>decide (i.toNat=a.toNat)
def Iw(T:TypeId->bs)(ev:Nat->EV)(hg:Nat->Option ea)(t:TypeId)(x y:Operand)(k:eQ->aZ->Option a):Option a:=
 match(T t).ty with
 |some (_,m)=>match eI ev x with
  |.pt j o=>match hg j with
   |some (.box c e)=>match nB (eI ev y)with
    |some xs=>cond (!(Nat.beq c CL) && Nat.beq xs.length m && Nat.ble (o+m) e.length && (bX xs).all AV.one && owE hg (eI ev y) && xs.all (owE hg)) (k [(j,some (.box c (oa e o xs)))] (j::owU (eI ev y)++xs.flatMap owU)) none
    |none=>none
   |_=>none
  |.pe j i f o=>match hg j with
   |some (.arr c r xs true)=>cond (Nat.beq f r.w) (aW (ba xs i) λb=>match q9 hg (eI ev y) r b o m with
    |some (h,q,g)=>cond (g.contains j) none (k ((j,some (.arr c r (xs.set i.toNat h) true))::q) (j::g))
    |none=>none) none
   |some (.nr c r xs l)=>cond (Nat.beq f 1 && Nat.beq o 0 && Nat.beq m 1) (match eI ev y with
    |.ow p=>match hg p with
     |some (.arr _ _ _ _)=>cond (ZB l i) (aW (ba xs i) λ_=>k [(j,some (.nr c r xs (some (i,some p))))] [j,p]) none
     |_=>none
    |_=>none) none
   |_=>none
  |_=>none
 |none=>none
def wj(T:TypeId->bs)(ev:Nat->EV)(hg:Nat->Option ea)(t:TypeId)(x y v:Operand)(k:eQ->aZ->Option a):Option a:=
 match eI ev x with
 |.mp j=>match hg j with
  |some (.mp d e f g)=>match(T t).mp with
   |some (h,_)=>match Ir e (eI ev y)with
    |some c=>match WU f (eI ev v)with
     |some b=>cond (kJ d e && kJ h e) (k [(j,some (.mp d e f (dS e g c b)))] [j]) none
     |none=>none
    |none=>none
   |none=>none
  |_=>none
 |_=>none
def aih:bD->Bool
 |[.slice none 0 0]=>true
 |_=>false
def De(T:TypeId->bs)(ev:Nat->EV)(d:Nat)(t:TypeId)(x y:Operand)(k:EV->eQ->aZ->Fr->Option a):Option a:=
 match(T t).el with
 |some (e,f,b,z)=>match(T t).co with
  |some (.sl r)=>cond (Nat.beq f 1 && Da x y && aih z) (match qL ev x with
   |some c=>match qL ev y with
    |some _=>aW (qM c b) λm=>k (.ow d) [(d,some (.nr e r (List.replicate m ([]:List r.cZ)) none))] [] (.one d)
    |none=>none
   |none=>none) none
  |_=>none
 |none=>none
def ZC(T:TypeId->bs)(ev:Nat->EV)(hg:Nat->Option ea)(t:TypeId)(j o:Nat)(e c f:iL)(k:EV->aZ->Option a):Option a:=
 match(T t).ar with
 |some (n,_,b)=>match hg j with
  |some (.arr _ r g _)=>cond (Nat.beq o 0 && Nat.beq b r.w && f.isNone && Nat.ble n 1000000) (match loE ev e with
   |some l=>match hiE ev n c with
    |some h=>aW (jm (List.replicate n ()) l h) λ_=>k (.sw j l (h - l) b) [j]
    |none=>none
   |none=>none) none
  |_=>none
 |none=>none
def WW(r:Sc):Nat->bD->Bool
 |0,z=>z.isEmpty
 |n+1,z=>match qK r z with
  |some a=>WW r n a
  |none=>false
def exM(T:TypeId->bs)(ev:Nat->EV)(hg:Nat->Option ea)(d:Nat)(w:Op)(k:EV->eQ->aZ->Fr->Option a):Option a:=
 match w with
 |.box t x=>match nB (eI ev x)with
  |some u=>cond (!(Nat.beq t CL) && owE hg (eI ev x)) (k (.pt d 0) [(d,some (.box t u))] (owU (eI ev x)) (.one d)) none
  |none=>none
 |.alloc t=>cond (!(Nat.beq t CL)) (match(T t).ze with
  |some z=>match(T t).ar with
   |some (n,_,g)=>cond (Nat.ble n 3) (k (.pt d 0) [(d,some (.box t (z.map cvE)))] [] (.one d)) (match(T t).co with
    |some r=>cond (Nat.beq g r.w && WW r n z && Nat.ble n 1000000) (k (.pt d 0) [(d,some (.arr t r (List.replicate n (zeroV r)) true))] [] (.one d)) none
    |none=>none)
   |none=>k (.pt d 0) [(d,some (.box t (z.map cvE)))] [] (.one d)
  |none=>none) none
 |.makeSlice t x y=>match(T t).el with
  |some (e,g,b,z)=>match(T t).co with
   |some r=>cond (Nat.beq g r.w && Nat.blt 0 g && Da x y) (match qK r z with
    |some []=>match qL ev x with
     |some f=>match qL ev y with
      |some _=>aW (qM f b) λm=>k (.ow d) [(d,some (.arr e r (List.replicate m (zeroV r)) true))] [] (.one d)
      |none=>none
     |none=>none
    |_=>none) none
   |none=>none
  |none=>none
 |.makeMap t none=>match(T t).mp with
  |some (s,_)=>match(T t).kv with
   |some (l,D)=>cond (kJ s l) (k (.mp d) [(d,some (.mp s l D []))] [] (.one d)) none
   |none=>none
  |none=>none
 |.slice t x p i q=>match eI ev x with
  |.pt j o=>ZC T ev hg t j o p i q λc h=>k c [] h .no
  |_=>Iu T ev hg t x p i q λc A h=>k c A h .no
 |.buildSlice t v B=>ZA T ev hg d t v B.toList k
 |.call ⟨.builtin .append,⟨[x,y]⟩,⟨[t,C]⟩⟩=>cond (Nat.beq t C) (Db T ev hg d t x y k) none
 |_=>none
section
variable{P:Program}{T:TypeId->bs}{ev:Nat->EV}{hg:Nat->Option ea}{n d:Nat}{ty:TypeId}{pos:String}{af:dI}{gd:fE}
def FS.box{t:TypeId}{x:Operand}{b:List EV}(o:t≠CL)(p:d<n)(c:nB (eI ev x)=some b)(l:owE hg (eI ev x)=true):
 FS P ⟨some d,.box t x,ty,pos,af,gd⟩ n ev hg (.pt d 0) [(d,some (.box t b))] (owU (eI ev x)) (.one d):=by
 intro a q m j g;have i:a.ev x=enc (eI ev x):=m.is rfl (λe=>by rw[e]at c;simp[nB,enc,AV.one]at c);have f:=zm c;rw[<-i]at f;have k:=o4 (K1 f (g.x x));have:=SS.box (P:=P) (t:=t) (ty:=ty) (pos:=pos) (af:=af) (gd:=gd) (d:=d) (K:=λs=>s=⟨a.n,jz (some d) (.pt d 0) (cY d a.t),bz [(d,some (.box t b))]++br d a.h⟩) o f (by rw[i];exact Ip l j λ_ h=>h) (by omega) (by rw[k];rfl);exact SS.fresh g.t g.h this
def FS.alloc(c:gw P T){t:TypeId}{z:bD}(f:t≠CL)(i:d<n)(g:(T t).ze=some z):
 FS P ⟨some d,.alloc t,ty,pos,af,gd⟩ n ev hg (.pt d 0) [(d,some (.box t (z.map cvE)))] [] (.one d):=by
 intro a j l h b;have e:=o4 (K2 (λk=>k==d) z);have:=SS.alloc (P:=P) (st:=a) (t:=t) (ty:=ty) (pos:=pos) (af:=af) (gd:=gd) (d:=d) (K:=λs=>s=⟨a.n,jz (some d) (.pt d 0) (cY d a.t),bz [(d,some (.box t (z.map cvE)))]++br d a.h⟩) f (c.ze _ _ g) (by omega) (by rw[e];simp only[bz,Option.map,b_,KV];rfl);exact SS.fresh b.t b.h this
def oZ.rep{a c:List AV}(h:nA a c):∀m,oZ (List.replicate m a) (List.replicate m c)
 |0=>.nil
 |m+1=>.cons h (oZ.rep h m)
def eO(r:Sc)(e:List r.cZ):∀c∈(List.map (bF r) e).flatten,c.one=true:=by
 intro c a;obtain⟨l,b,a⟩:=arR.1 a;obtain⟨x,_,rfl⟩:=ap4.1 b;exact nY r x c a
def FS.make(w:gw P T){t e:TypeId}{x y:Operand}{g b:Nat}{z:bD}{r:Sc}{a:Int}{m:Nat}(J:d<n)(A:(T t).el=some (e,g,b,z))(B:g=r.w)(v:0<g)(F:qK r z=some [])(D:qL ev x=some a)(E:qL ev y=some a)(c:qM a b=some m):
 FS P ⟨some d,.makeSlice t x y,ty,pos,af,gd⟩ n ev hg (.ow d) [(d,some (.arr e r (List.replicate m (zeroV r)) true))] [] (.one d):=by
 intro f L o I l;unfold qM at c;split at c
 ·rename_i k
  cases c;obtain⟨O,i,p,q,u⟩:=mN r F;rw[aqy]at i;subst i;obtain⟨M,G⟩:=jA D o;obtain⟨N,H⟩:=jA E o;have j:((a.toNat:Nat):Int)=a:=by omega
  have:=SS.make (P:=P) (t:=t) (ty:=ty) (pos:=pos) (af:=af) (gd:=gd) (d:=d) (n:=a.toNat) (K:=λs=>s=⟨f.n,jz (some d) (.ow d) (cY d f.t),[(d,some (.arr e g (List.replicate a.toNat (z.map lq)) true))]++br d f.h⟩) (w.el _ _ A) (by rw[j];exact G) (by rw[j];exact H) k.2.1 k.2.2 q u v (by omega) rfl;refine(SS.fresh l.t l.h this).lF ?_;subst B;have C:=oZ.rep p a.toNat;refine cn.wh (h:=f.h) (rows':=List.map (bF r) (List.replicate a.toNat (zeroV r))) ?_ (eO r _);rw[auc];exact C
 ·cases c
def wm(c:AV):∀m:Nat,(List.replicate m [c]).flatten=List.replicate m c
 |0=>rfl
 |m+1=>by rw[ark,aqu,wm c m];rfl
def afg(h:aih F=true):F=[.slice none 0 0]:=by
 unfold aih at h;split at h
 ·rfl
 ·cases h
def K3(G:gw P T){k:EV->eQ->aZ->Fr->Option a}{r:a}(S:d<n)(h:De T ev d b c e k=some r):
 ∃g C D t,FS P ⟨some d,.makeSlice b c e,ty,pos,af,gd⟩ n ev hg g C D t/\k g C D t=some r:=by
 unfold De at h;split at h
 ·rename_i g X i z H
  split at h
  ·rename_i N R
   obtain⟨u,j⟩:=aY h;simp only[apS]at u;obtain⟨⟨p,E⟩,q⟩:=u;have p:=apX p;have q:=afg q;subst p;subst q;split at j
   ·rename_i f v
    split at j
    ·rename_i O w
     obtain⟨m,l,I⟩:=bj j;obtain rfl:=zo E v w;refine⟨_,_,_,_,λo U B Q A=>?_,I⟩;unfold qM at l;split at l
     ·rename_i y
      cases l;obtain⟨V,L⟩:=jA v B;obtain⟨W,M⟩:=jA w B;have x:((f.toNat:Nat):Int)=f:=by omega
      have:=SS.make (P:=P) (t:=b) (ty:=ty) (pos:=pos) (af:=af) (gd:=gd) (d:=d) (n:=f.toNat) (K:=λs=>s=⟨o.n,jz (some d) (.ow d) (cY d o.t),[(d,some (.arr g 1 (List.replicate f.toNat ([Value.slice none 0 0].map lq)) true))]++br d o.h⟩) (G.el _ _ H) (by rw[x];exact L) (by rw[x];exact M) y.2.1 y.2.2 rfl rfl (by omega) (by omega) rfl;refine(SS.fresh A.t A.h this).lF ?_;refine cn.afc (h:=o.h) λRd e0 Y J=>?_;have:=J.ah9;have F:(List.replicate f.toNat ([Value.slice none 0 0].map lq)).flatten=vf N (List.replicate f.toNat []) none:=by
       show(List.replicate f.toNat [AV.sl true 0 []]).flatten=_;rw[wm,vf,auc];rfl
      rw[F]at this;exact this
     ·cases l
    ·cases j
   ·cases j
  ·cases h
 ·cases h
def R4{r:Sc}:∀{n:Nat} {z:bD},WW r n z=true->∃a:List bD,a.length=n/\a.flatten=z/\oZ (a.map (List.map lq)) (List.replicate n (bF r (zeroV r)))/\∀y∈a,y.all (λv=>(lq v).one)=true
 |0,z,h=>by
  have:z=[]:=by simpa[WW]using h
  subst this;exact⟨[],rfl,rfl,.nil,λy b=>(by cases b)⟩
 |n+1,z,h=>by
  simp only[WW]at h;split at h
  ·rename_i o k
   obtain⟨l,rfl,c,m,e⟩:=mN r k;obtain⟨a,f,g,i,j⟩:=R4 h;refine⟨l::a,by simp[f],by simp[g],?_,λy b=>?_⟩
   ·rw[aqc,ark]
    exact .cons c i
   ·rcases aqj.1 b with rfl|b
    ·exact e
    ·exact j y b
  ·cases h
def FS.C5(A:gw P T){t:TypeId}{z:bD}{m e:Nat}{r:Sc}(Q:d<n)(L:(T t).ze=some z)(o:e=r.w)(B:WW r m z=true)(R:m<=1000000):
 FS P ⟨some d,.alloc t,ty,pos,af,gd⟩ n ev hg (.pt d 0) [(d,some (.arr t r (List.replicate m (zeroV r)) true))] [] (.one d):=by
 intro g S I O l;obtain⟨i,p,u,k,w⟩:=R4 B;have E:(i.map (List.map lq)).flatten=z.map lq:=by rw[<-u,List.map_flatten]
 have F:∀q∈i.map (List.map lq),q.length=e:=by
  have N:∀{a c:List (List AV)},oZ a c->(∀x∈c,x.length=e)->∀x∈a,x.length=e:=by
   intro a c C
   induction C with
   |nil=>intro _ x b;cases b
   |cons h I M=>
    intro f x b;rcases aqj.1 b with rfl|b
    ·rw[<-h.len];exact f _ (by simp)
    ·exact M (λy j=>f y (by simp[j])) x b
  refine N k λx b=>?_;rw[auG b,eT,o]
 have G:∀c∈(i.map (List.map lq)).flatten,c.one=true:=by
  intro c f;obtain⟨q,H,D⟩:=arR.1 f;obtain⟨y,j,rfl⟩:=ap4.1 H;obtain⟨v,J,rfl⟩:=ap4.1 D;exact aqg.1 (w y j) v J
 have:=SS.C5 (P:=P) (t:=t) (ty:=ty) (pos:=pos) (af:=af) (gd:=gd) (d:=d) (K:=λs=>s=⟨g.n,jz (some d) (.pt d 0) (cY d g.t),[(d,some (.arr t e (i.map (List.map lq)) true))]++br d g.h⟩) (A.ze _ _ L) F (by rw[ap1,p]) E G (by unfold maxLen;omega) (by omega) rfl;refine(SS.fresh l.t l.h this).lF ?_;subst o;refine cn.wh (h:=g.h) (rows':=List.map (bF r) (List.replicate m (zeroV r))) ?_ (eO r _);rw[auc];exact k
def ZD(C:gw P T){k:EV->aZ->Option a}{r:a}{j o:Nat}{z y u:iL}(H:eI ev c=.pt j o)(h:ZC T ev hg b j o z y u k=some r):
 ∃f A,Pg P (.slice b c z y u) ev hg f A/\k f A=some r:=by
 unfold ZC at h;split at h
 ·rename_i n e O G
  split at h
  ·rename_i J N Q wr M
   obtain⟨x,g⟩:=aY h;clear h;simp only[apS]at x;obtain⟨⟨⟨i,K⟩,m⟩,v⟩:=x;have i:=apX i;subst i;have m:u=none:=by simpa using m
   subst m;have v:=apY v;split at g
   ·rename_i l F
    split at g
    ·rename_i p D
     obtain⟨q,s,E⟩:=bj g;refine⟨_,_,λI d ty pos af gd t L=>?_,E⟩;unfold jm at s;split at s
     ·rename_i w
      rw[as1]at w;have:=RS.ah8 (P:=P) (st:=I) (dd:=d) (ty:=ty) (pos:=pos) (af:=af) (gd:=gd) (C.ar _ _ G) (t.is H (by intro e;cases e)) (Zy F t w.1) (Zz D t (by omega)) (l:=l.toNat) (h:=p.toNat) (by omega) (by omega) (by unfold maxLen;omega);have B:(p - l).toNat=p.toNat - l.toNat:=by omega
      simp only[enc,B];exact this
     ·cases s
    ·cases g
   ·cases g
  ·cases h
 ·cases h
def FS.makeMap(e:gw P T){t:TypeId}{b:TypeDesc}{z:Value}{g h:Sc}(j:d<n)(f:(T t).mp=some (b,z)):
 FS P ⟨some d,.makeMap t none,ty,pos,af,gd⟩ n ev hg (.mp d) [(d,some (.mp b g h []))] [] (.one d):=by
 intro a k l i c;have:=SS.makeMap (P:=P) (t:=t) (ty:=ty) (pos:=pos) (af:=af) (gd:=gd) (d:=d) (K:=λs=>s=⟨a.n,jz (some d) (.mp d) (cY d a.t),[(d,some (.mp b []))]++br d a.h⟩) (e.mp _ _ f) (by omega) rfl;exact SS.fresh c.t c.h this
def zq{b ys e:List a}(h:eN m b ys=some e):(b.length+ys.length)*m<=140737488355328/\b.length+ys.length<=maxLen/\e=b++ys:=by
 unfold eN at h;split at h
 ·rename_i c
  cases h;exact⟨c.1,c.2,rfl⟩
 ·cases h
def K4(S:gw P T){k:EV->eQ->aZ->Fr->Option a}{r:a}(hd:d<n)(h:Db T ev hg d b c e k=some r):
 ∃g Z us W,FS P ⟨some d,.call ⟨.builtin .append, #[c,e], #[b,b]⟩,ty,pos,af,gd⟩ n ev hg g Z us W/\k g Z us W=some r:=by
 unfold Db at h;split at h
 ·rename_i f N l z U
  split at h
  ·rename_i s L
   obtain⟨R,t⟩:=aY h;clear h;simp only[apS]at R;have y:=apX R.1;have Q:0<N:=apY R.2;split at t
   ·rename_i H
    obtain⟨zs,I,w⟩:=bj t;obtain⟨C,D,rfl⟩:=zq I;refine⟨_,_,_,_,?_,w⟩;intro st X x A v;obtain⟨E,F,G⟩:=wi L A.hc λ_ h=>h;have:=SS.F_ (P:=P) (t:=b) (x:=c) (y:=e) (ty:=ty) (pos:=pos) (af:=af) (gd:=gd) (d:=d) (K:=λJ=>J=⟨st.n,jz (some d) (.ow d) (cY d st.t),((d,some (.arr f N (List.map (bF s.r) s.xs) true))::bz s.os)++br d st.h⟩)
     (S.el _ _ U) (x.is H (by intro f;cases f)) (by rw[x.is rfl G,y];exact E) Q (by rw[ap1];simpa using D) (by rw[ap1];simpa using C) (by omega) (by rw[q8 d F];rfl)
    have o:=SS.fresh v.t v.h this;rw[y]at o;exact o
   ·rename_i r' B H
    split at t
    ·rename_i a7 m
     obtain⟨O,rfl⟩:=di m;cases O;rcases bL t with⟨_,o⟩|⟨Y,o⟩
     ·cases o
     obtain⟨zs,I,w⟩:=bj o;obtain⟨C,D,rfl⟩:=zq I;refine⟨_,_,_,_,?_,w⟩;intro st X x A v;obtain⟨E,F,G⟩:=wi L A.hc λ_ h=>h;have a1:0<s.xs.length:=by
      cases a5:s.xs with
      |nil=>rw[a5]at Y;cases Y
      |cons i aS=>simp
     have:=SS.KN (P:=P) (t:=b) (x:=c) (y:=e) (ty:=ty) (pos:=pos) (af:=af) (gd:=gd) (d:=d) (rows:=List.map (bF s.r) B) (K:=λJ=>J=⟨st.n,jz (some d) (.ow d) (cY d st.t),((d,some (.arr f N (List.map (bF s.r) B++List.map (bF s.r) s.xs) true))::bz s.os)++br d st.h⟩)
      (S.el _ _ U) (by rw[x.is H (by intro f;cases f),y];rfl) (by rw[x.is rfl G,y];exact E) (by rw[ap1];exact a1) Q (by simp only[ap1];exact D) (by simp only[ap1];exact C) (by omega) (by rw[q8 d F];rfl)
     have o:=SS.fresh v.t v.h this;rw[y,<-aqH]at o;exact o
    ·cases t
   ·rename_i j H
    split at t
    ·rename_i e' r' B wr hj
     split at t
     ·rename_i a7 m
      obtain⟨O,rfl⟩:=di m;cases O;obtain⟨q,o⟩:=aY t;simp only[apS,aq1]at q;obtain⟨⟨V,q2⟩,M⟩:=q;have V:=apX V;subst V;have M:d≠j:=λf=>by rw[f,aqp]at M;cases M
      obtain⟨zs,I,w⟩:=bj o;obtain⟨C,D,rfl⟩:=zq I;refine⟨_,_,_,_,?_,w⟩;intro st X x A v;have a4:∀k,s.us.contains k=true->(j::s.us).contains k=true:=λk w=>by simp at w⊢;exact .inr w
      obtain⟨E,F,G⟩:=wi L A.hc a4;have a0:a_ (bz s.os++st.h) j=some (.arr f s.r.w (List.map (bF s.r) B) wr):=by
       rw[ep,BQ];have a2:s.os.any (λp=>p.1==j)=false:=by
        have a6:∀g,Gi hg g=some s->∀p∈s.os,s.us.contains p.1=true:=by
         intro g m p u;unfold Gi at m;split at m
         ·simp only[apU]at m;rw[<-m]at u;cases u
         ·simp only[apU]at m;rw[<-m]at u;cases u
         ·split at m
          ·simp only[apU]at m
           rw[<-m]at u⊢;simp at u;simp[u]
          ·cases m
         ·cases m
        cases ha:s.os.any (λp=>p.1==j)with
        |false=>rfl
        |true=>
         obtain⟨p,u,a3⟩:=ary.1 ha;have:=a6 _ L p u;rw[show p.1=j by simpa using a3]at this;rw[this]at q2;cases q2
       rw[a2];exact A.at (by simp) hj
      have:=SS.KM (P:=P) (t:=b) (x:=c) (y:=e) (ty:=ty) (pos:=pos) (af:=af) (gd:=gd) (d:=d) (k:=j) (rows:=List.map (bF s.r) B) (wr:=wr) (K:=λJ=>J=⟨st.n,jz (some d) (.ow d) (cY d st.t),((d,some (.arr f N (List.map (bF s.r) B++List.map (bF s.r) s.xs) wr))::(j,none)::bz s.os)++br d st.h⟩)
       (S.el _ _ U) (x.is H (by intro f;cases f)) (by rw[x.is rfl G,y];exact E) (by rw[y];exact a0) M Q (by simp only[ap1];exact D) (by simp only[ap1];exact C) (by omega) (by rw[q8 d F];rfl)
      have o:=SS.fresh v.t v.h this;rw[y,<-aqH]at o;exact o
     ·cases t
    ·cases t
   ·cases t
  ·cases h
 ·cases h
def K5{h c e:Hp}(a:jx h s=some (c,R))(b:ni c i=some (e,u)):ni h (s::i)=some (e,R::u):=by
 simp only[ni,a,b]
def zr{r:Sc}:∀{t:vT} {j:Nat} {m:List r.cZ} {l:eQ} {u w:aZ} {st:St} {h:Hp},zp ev hg r j t=some (m,l,u)->Sk ev st->HC hg w h->(∀k,u.contains k=true->w.contains k=true)->
 ∃s f,ni h (t.map λp=>st.ev p.2)=some (bz l++h,s)/\k5 (t.map (·.1)) s=some f/\Bz hg l/\f.length=m.length/\oZ (f.map (·.2)) (List.map (bF r) m)/\(∀q∈f,q.2.all AV.one=true)/\∀i q,f[i]? =some q->q.1=j+i
 |[],j,m,l,u,w,st,h,a,A,y,B=>by
  simp only[zp,apU,aqa]at a;obtain⟨rfl,rfl,rfl⟩:=a;exact⟨[],[],rfl,rfl,λk o c=>(by cases c),rfl,.nil,λq b=>(by cases b),λi q b=>(by simp at b)⟩
 |(i,x)::t,j,m,l,u,w,st,h,a,A,y,B=>by
  simp only[zp]at a;obtain⟨z,a⟩:=aY a;have z:=apX z;split at a
  ·rename_i v W Y C
   split at a
   ·rename_i a0 X Z K
    simp only[apU,aqa]at a;obtain⟨rfl,rfl,rfl⟩:=a;obtain⟨⟨F,V,G,H,I,J⟩,E⟩:=Am C y (λk g=>B k (by simp at g⊢;exact .inl g));obtain⟨s,f,M,N,O,Q,R,S,U⟩:=zr (st:=st) K A (y.put E λk h=>h) (λk g=>B k (by simp at g⊢;exact .inr g));have L:st.ev x=enc (eI ev x):=A.is rfl (λe=>by
     rw[e]at C;cases r<;>simp[n_,mM,Gf]at C)
    refine⟨F::s,(i,V)::f,?_,?_,λk o c=>?_,by simp[Q],.cons I R,?_,?_⟩
    ·rw[aqc,fG,aqm]
     exact K5 (by rw[L];exact G) M
    ·simp only[aqc,k5,H,N]
    ·rcases ap3.1 c with c|c
     ·exact O k o c
     ·exact E k o c
    ·intro q b
     rcases aqj.1 b with rfl|b
     ·exact J
     ·exact S q b
    ·intro D q b
     cases D with
     |zero=>simp at b;subst b;simpa using z
     |succ D=>
      have:=U D q (by simpa using b);omega
   ·cases a
  ·cases a
def zt{sz:Nat}:∀(a:List (Nat×List AV)) (b:List AV) (j:Nat),b.length=j*sz->(∀i q,a[i]? =some q->q.1=j+i/\q.2.length=sz)->
 gv (λi=>some (i*sz,sz)) (b++List.replicate (a.length*sz) .un) a=some (b++(a.map (·.2)).flatten)
 |[],b,j,e,f=>by simp[gv]
 |(i,xs)::a,b,j,e,f=>by
  obtain⟨g,c⟩:=f 0 (i,xs) rfl;simp only[arf]at g;subst g;have k:List.replicate ((a.length+1)*sz) AV.un=List.replicate sz .un++List.replicate (a.length*sz) .un:=by
   rw[List.replicate_append_replicate];congr 1;rw[aqv];omega
  have l:setCells (b++List.replicate ((a.length+1)*sz) AV.un) (i*sz) xs=(b++xs)++List.replicate (a.length*sz) .un:=by
   rw[k,fv _ _ _ _ (by omega),e,atp,hQ _ _ _ _ (by simp only[as1];simp only at c;omega),o6 _ _ (by simp only[as1];simp only at c;omega),aqm]
  simp only[aqf,gv];rw[apR ⟨c,by simp only[aqb,as1,e,aqv];omega⟩,l];have:=zt (sz:=sz) a (b++xs) (i+1) (by simp only at c;simp only[aqb,e,c,aqv];omega) (λm q h=>by
   have:=f (m+1) q (by simpa using h);exact⟨by omega,this.2⟩)
  rw[this];simp
def vj{sz:Nat}:∀(a:List (List AV)),(∀r∈a,r.length=sz)->chunk sz a.length a.flatten=a
 |[],_=>rfl
 |r::a,h=>by
  have b:=h r (by simp);simp only[aqf,chunk,aqu];rw[asE b,List.drop_left' b,vj a λx c=>h x (by simp[c])]
def ZE(Q:gw P T){B:CI}{k:EV->eQ->aZ->Fr->Option a}{r:a}(hd:d<n)(h:ZA T ev hg d b m B.toList k=some r):
 ∃c u M N,FS P ⟨some d,.buildSlice b m B,ty,pos,af,gd⟩ n ev hg c u M N/\k c u M N=some r:=by
 unfold ZA at h;split at h
 ·split at h
  ·rename_i S
   split at h
   ·rename_i e p j z G
    obtain⟨w,F⟩:=aY h;refine⟨_,_,_,_,λst hn I O A=>?_,F⟩;have Y:0<p:=apY w;have:=SS.buildSlice (P:=P) (t:=b) (len:=0) (parts:=B) (ty:=ty) (pos:=pos) (af:=af) (gd:=gd) (d:=d) (h':=st.h) (aS:=[]) (qs:=[]) (cs:=[]) (K:=λL=>L=⟨st.n,(d,.sl true p [])::st.t,st.h⟩) (Q.el _ _ G) (by rw[S];rfl) (by rw[S];rfl) (by simp[gv]) rfl (by simp) Y (by omega) rfl;exact this.lF (cn.wkT Wk.Pz)
   ·cases h
  ·cases h
 ·rename_i g
  split at h
  ·rename_i e p j z G
   split at h
   ·rename_i W a5
    split at h
    ·rename_i vs u M hv
     obtain⟨w,F⟩:=aY h;simp only[apS]at w;obtain⟨⟨⟨v,C⟩,D⟩,E⟩:=w;have v:=apX v;have C:=apX C;have D:=apY D;have E:0<p:=apY E;refine⟨_,_,_,_,λst hn I O A=>?_,F⟩;obtain⟨X,s,q1,q2,q3,q4,J,q6,q7⟩:=zr (st:=st) hv I O.hc λ_ h=>h;have V:∀q∈s,q.2.length=p:=λq t=>by
      obtain⟨i,hi,rfl⟩:=aqB t;have A:=J.flat;have:∀(f c:List (List AV)),oZ f c->(∀x∈c,x.length=p)->∀x∈f,x.length=p:=by
       intro f c Z
       induction Z with
       |nil=>simp
       |cons h I ih=>
        intro R x o;rcases aqj.1 o with rfl|o
        ·rw[<-h.len];exact R _ (by simp)
        ·exact ih (λy hy=>R y (by simp[hy])) x o
      exact this _ _ J (λx o=>by obtain⟨y,_,rfl⟩:=ap4.1 o;rw[eT,v]) _ (ap4.2 ⟨_,asi hi,rfl⟩)
     have H:=zt (sz:=p) s [] 0 (by simp) (λi q t=>⟨q7 i q t,V q (ap_ t)⟩);simp only[aqC]at H;have U:s.length=g+1:=by rw[q4,C]
     rw[U]at H;have a0:chunk p (g+1) (s.map (·.2)).flatten=s.map (·.2):=by
      have:=vj (sz:=p) (s.map (·.2)) (λx o=>by obtain⟨q,t,rfl⟩:=ap4.1 o;exact V q t);rw[ap1,U]at this;exact this
     have:=SS.we (P:=P) (t:=b) (len:=g+1) (parts:=B) (ty:=ty) (pos:=pos) (af:=af) (gd:=gd) (d:=d) (h':=bz u++st.h) (aS:=X) (qs:=s) (cs:=(s.map (·.2)).flatten) (K:=λL=>L=⟨st.n,jz (some d) (.ow d) (cY d st.t),((d,some (.arr e p (s.map (·.2)) true))::bz u)++br d st.h⟩) (Q.el _ _ G) q1 q2 H (by
      rw[aqg];intro x o;obtain⟨l,hl,o⟩:=arR.1 o;obtain⟨q,t,rfl⟩:=ap4.1 hl;exact aqg.1 (q6 q t) x o) D E (by omega) (by rw[a0,q8 d q3];rfl)
     refine(SS.fresh A.t A.h this).lF ?_;subst v;exact cn.wh (h:=bz u++st.h) (rows':=List.map (bF W) vs) J (eO W _)
    ·cases h
   ·cases h
  ·cases h
def WX(R:gw P T){D:CI}{k:EV->eQ->aZ->Fr->Option a}{r:a}(hd:d<n)(h:PU T ev hg d b m D.toList k=some r):
 ∃c u F G,FS P ⟨some d,.buildSlice b m D,ty,pos,af,gd⟩ n ev hg c u F G/\k c u F G=some r:=by
 unfold PU at h;split at h
 ·cases h
 ·rename_i g
  split at h
  ·rename_i e t j z V
   split at h
   ·rename_i rc a0
    split at h
    ·rename_i vs u F Z
     obtain⟨H,O⟩:=aY h;simp only[apS]at H;obtain⟨⟨⟨v,w⟩,A⟩,B⟩:=H;have v:=apX v;have w:=apX w;have A:=apY A;have B:0<t:=apY B;refine⟨_,_,_,_,λst hn L Q W=>?_,O⟩;obtain⟨N,p,q1,q2,q3,q4,E,q6,q7⟩:=zr (st:=st) Z L Q.hc λ_ h=>h;have M:∀q∈p,q.2.length=t:=λq s=>by
      obtain⟨i,X,rfl⟩:=aqB s;have W:=E.flat;have:∀(f c:List (List AV)),oZ f c->(∀x∈c,x.length=t)->∀x∈f,x.length=t:=by
       intro f c S
       induction S with
       |nil=>simp
       |cons h L ih=>
        intro I x o;rcases aqj.1 o with rfl|o
        ·rw[<-h.len];exact I _ (by simp)
        ·exact ih (λy hy=>I y (by simp[hy])) x o
      exact this _ _ E (λx o=>by obtain⟨y,_,rfl⟩:=ap4.1 o;rw[eT,v]) _ (ap4.2 ⟨_,asi X,rfl⟩)
     have C:=zt (sz:=t) p [] 0 (by simp) (λi q s=>⟨q7 i q s,M q (ap_ s)⟩);simp only[aqC]at C;have J:p.length=g+1:=by rw[q4,w]
     rw[J]at C;have U:chunk t (g+1) (p.map (·.2)).flatten=p.map (·.2):=by
      have:=vj (sz:=t) (p.map (·.2)) (λx o=>by obtain⟨q,s,rfl⟩:=ap4.1 o;exact M q s);rw[ap1,J]at this;exact this
     have:=SS.buildSlice (P:=P) (t:=b) (len:=g+1) (parts:=D) (ty:=ty) (pos:=pos) (af:=af) (gd:=gd) (d:=d) (h':=bz u++st.h) (aS:=N) (qs:=p) (cs:=(p.map (·.2)).flatten) (K:=λs'=>s'=⟨st.n,(d,.sl true t (p.map (·.2)))::st.t,bz u++st.h⟩) (R.el _ _ V) q1 q2 C (by
      rw[aqg];intro x o;obtain⟨l,Y,o⟩:=arR.1 o;obtain⟨q,s,rfl⟩:=ap4.1 Y;exact aqg.1 (q6 q s) x o) A B (by omega) (by rw[U])
     refine this.lF (cn.wkT ?_);rw[v];exact Wk.rows E (eO rc vs)
    ·cases h
   ·cases h
  ·cases h
def vk(p:gw P T){A:Op}{k:EV->eQ->aZ->Fr->Option a}{r:a}(l:d<n)(h:exM T ev hg d A k=some r):
 ∃c s q w,FS P ⟨some d,A,ty,pos,af,gd⟩ n ev hg c s q w/\k c s q w=some r:=by
 unfold exM at h;split at h
 ·split at h
  ·rename_i J t
   obtain⟨i,g⟩:=aY h;simp only[apS]at i;exact⟨_,_,_,_,FS.box (zl i.1) l t i.2,g⟩
  ·cases h
 ·obtain⟨v,h⟩:=aY h
  have v:=zl v;split at h
  ·rename_i z u
   split at h
   ·rename_i m e I K
    rcases bL h with⟨_,h⟩|⟨_,h⟩
    ·exact⟨_,_,_,_,FS.alloc p v l u,h⟩
    ·split at h
     ·rename_i H M
      obtain⟨i,g⟩:=aY h;simp only[apS]at i;exact⟨_,_,_,_,FS.C5 p l u (apX i.1.1) i.1.2 (apY i.2),g⟩
     ·cases h
   ·exact⟨_,_,_,_,FS.alloc p v l u,h⟩
  ·cases h
 ·split at h
  ·rename_i e I b z E
   split at h
   ·rename_i H t
    obtain⟨i,g⟩:=aY h;clear h;simp only[apS]at i;obtain⟨⟨B,C⟩,D⟩:=i;split at g
    ·rename_i u
     split at g
     ·rename_i f y
      split at g
      ·rename_i c t
       obtain⟨m,x,F⟩:=bj g;have:=zo D y t;subst this;exact⟨_,_,_,_,FS.make p l E (apX B) (apY C) u y t x,F⟩
      ·cases g
     ·cases g
    ·cases g
   ·cases h
  ·cases h
 ·split at h
  ·rename_i O z x
   split at h
   ·rename_i N Q L
    obtain⟨i,g⟩:=aY h;exact⟨_,_,_,_,FS.makeMap p l x,g⟩
   ·cases h
  ·cases h
 ·split at h
  ·rename_i j o G
   obtain⟨c,q,i,g⟩:=ZD p G h;exact⟨c,_,q,_,FS.read i l,g⟩
  ·obtain⟨c,s,q,i,g⟩:=PT p l h
   exact⟨c,s,q,_,i,g⟩
 ·obtain⟨c,s,q,w,i,g⟩:=ZE p l h
  exact⟨c,s,q,_,i,g⟩
 ·obtain⟨i,g⟩:=aY h
  have:=apX i;subst this;exact K4 p l g
 ·cases h
def oZ.set(a:Nat)(b:nA i u):oZ (h.set a i) (h.set a u):=by
 induction h generalizing a with
 |nil=>exact .nil
 |cons r h c=>
  cases a with
  |zero=>exact .cons b (oZ.refl h)
  |succ a=>exact .cons (nA.refl r) (c a)
def oj{hg:Nat->Option ea}{x:I.cZ}{b:eQ}(h:mM hg I y=some (x,b,B)):∀p∈b,B.contains p.1=true:=by
 unfold mM at h;split at h
 ·split at h
  ·split at h
   ·simp only[apU,aqa]at h
    obtain⟨_,rfl,rfl⟩:=h;intro p a;simp at a;simp[a]
   ·cases h
  ·cases h
 ·split at h
  ·simp only[apU,aqa]at h
   obtain⟨_,rfl,rfl⟩:=h;intro p a;cases a
  ·cases h
def wq{hg:Nat->Option ea}:∀(s:Sc) {j f:List EV} {x:s.cZ} {b:eQ} {e:aZ},iu hg s j=some (x,f,b,e)->∀p∈b,e.contains p.1=true
 |.pr a c,j,f,x,b,e,h=>by
  simp only[iu]at h;split at h
  ·rename_i g
   split at h
   ·rename_i l
    simp only[apU,aqa]at h;obtain⟨_,_,rfl,rfl⟩:=h;intro p i;simp only[atq,ap3,aqQ];rcases ap3.1 i with i|i
    ·have:=wq c l p i;simp at this;exact .inr this
    ·have:=wq a g p i;simp at this;exact .inl this
   ·cases h
  ·cases h
 |.u,j,f,x,b,e,h=>by
  simp only[iu,apU,aqa]at h;obtain⟨_,_,rfl,rfl⟩:=h;intro p i;cases i
 |.i k,[],f,x,b,e,h=>by simp[iu]at h
 |.b,[],f,x,b,e,h=>by simp[iu]at h
 |.sl r,[],f,x,b,e,h=>by simp[iu]at h
 |.i k,c::j,f,x,b,e,h=>by
  simp only[iu]at h;split at h
  ·rename_i g
   simp only[apU,aqa]at h;obtain⟨_,_,rfl,rfl⟩:=h;exact oj g
  ·cases h
 |.b,c::j,f,x,b,e,h=>by
  simp only[iu]at h;split at h
  ·rename_i g
   simp only[apU,aqa]at h;obtain⟨_,_,rfl,rfl⟩:=h;exact oj g
  ·cases h
 |.sl r,c::j,f,x,b,e,h=>by
  simp only[iu]at h;split at h
  ·rename_i g
   simp only[apU,aqa]at h;obtain⟨_,_,rfl,rfl⟩:=h;exact oj g
  ·cases h
def K6{hg:Nat->Option ea}{x:I.cZ}{b:eQ}(h:n_ hg I y=some (x,b,B)):∀p∈b,B.contains p.1=true:=by
 unfold n_ at h;split at h
 ·split at h
  ·split at h
   ·rename_i a
    simp only[apU,aqa]at h;obtain⟨_,rfl,rfl⟩:=h;exact wq _ a
   ·cases h
  ·split at h
   ·rename_i a
    simp only[apU,aqa]at h;obtain⟨_,rfl,rfl⟩:=h;exact wq _ a
   ·cases h
  ·cases h
 ·split at h
  ·cases h
  ·cases h
  ·exact oj h
  ·exact oj h
  ·exact oj h
def afh{hg:Nat->Option ea}:∀(r:Sc) (x:r.cZ) (o m:Nat) (b:r.cZ) (c:eQ) (e:aZ),q9 hg y r x o m=some (b,c,e)->∀p∈c,e.contains p.1=true:=by
 intro r
 induction r with
 |pr a j g i=>
  intro x o m b c e h;simp only[q9]at h;rcases bL h with⟨_,h⟩|⟨_,h⟩
  ·exact K6 h
  ·rcases bL h with⟨_,h⟩|⟨_,h⟩
   ·split at h
    ·rename_i f
     simp only[apU,aqa]at h;obtain⟨_,rfl,rfl⟩:=h;exact g _ _ _ _ _ _ f
    ·cases h
   ·split at h
    ·rename_i f
     simp only[apU,aqa]at h;obtain⟨_,rfl,rfl⟩:=h;exact i _ _ _ _ _ _ f
    ·cases h
 |u=>intro x o m b c e h;simp[q9]at h
 |_=>
  intro x o m b c e h;simp only[q9]at h;obtain⟨_,h⟩:=aY h;exact K6 h
def PW(L:gw P T){k:eQ->aZ->Option a}{r:a}(h:Iw T ev hg b c e k=some r):
 ∃v A,FS P ⟨none,.store b c e,ty,pos,af,gd⟩ n ev hg .un v A .no/\k v A=some r:=by
 unfold Iw at h;split at h
 ·rename_i ag m N
  split at h
  ·rename_i j o H
   split at h
   ·rename_i G R C
    split at h
    ·rename_i w O
     obtain⟨x,y⟩:=aY h;simp only[apS]at x;obtain⟨⟨⟨⟨⟨a0,F⟩,I⟩,J⟩,a4⟩,a5⟩:=x;refine⟨_,_,λst Z z u X=>?_,y⟩;have E:st.ev e=enc (eI ev e):=z.is rfl (λf=>by rw[f]at O;simp[nB,enc,AV.one]at O);have U:=zm O;rw[<-E]at U;refine SS.nQ (zl a0) (z.is H (by intro f;cases f)) (u.at (by simp) C) (L.ty _ _ N) U (by rw[fF];exact apX F) J (by rw[E];exact Ip a4 u (λk s=>by simp at s⊢;exact .inr (.inl s))) ?_ (by rw[fF];exact apY I) ?_
     ·rw[aqg]
      intro l V;rw[dR]at V;obtain⟨Q,W,rfl⟩:=ap4.1 V;refine Ip (aqg.1 a5 Q W) u λk s=>?_;simp only[atq,aqj,ap3,aq9,aqQ]at s⊢;exact .inr ⟨Q,W,s⟩
     ·simp only[bz,Option.map,b_,o2];rfl
    ·cases h
   ·cases h
  ·rename_i j i sz o H
   split at h
   ·rename_i G t w C
    obtain⟨x,y⟩:=aY h;have F:=apX x;obtain⟨g,B,s⟩:=bj y;obtain⟨i0,B⟩:=eH B;split at s
    ·rename_i a' v A D
     rcases bL s with⟨_,s⟩|⟨a6,s⟩
     ·cases s
     refine⟨_,_,λst Z z u X=>?_,s⟩;have aj:∀k,A.contains k=true->(j::A).contains k=true:=λk s=>by simp at s⊢;exact .inr s
     obtain⟨⟨c1,R,S,g2,g3,g4,g5,g6⟩,g7⟩:=afe u.hc t g o m D aj;have E:st.ev e=enc (eI ev e):=z.is rfl (λf=>by
      rw[f]at S;have ad:∀(r:Sc) (c:r.cZ) (o m:Nat),q9 hg .un r c o m=none:=by
       intro r
       induction r with
       |pr g b2 ak al=>
        intro c o m;simp only[q9,ak,al,n_,Bool.cond_self]
       |_=>intro c o m;simp[q9,n_,mM,Gf]
      rw[f,ad]at D;cases D)
     have aa:a_ (bz v++st.h) j=some (.arr G t.w (List.map (bF t) w) true):=by
      have hb:=(u.hc.put g7 λk h=>h) j (by simp) _ _ _ _ C;rw[ep,BQ];cases a9:v.any (λp=>p.1==j)with
      |false=>exact u.at (by simp) C
      |true=>
       exfalso;obtain⟨p,ae,ah⟩:=ary.1 a9;have am:∀(r:Sc) (c:r.cZ) (o m:Nat) (y':r.cZ) (v:eQ) (A:aZ),q9 hg (eI ev e) r c o m=some (y',v,A)->∀p∈v,A.contains p.1=true:=afh;have:=am _ _ _ _ _ _ _ D p ae;rw[show p.1=j by simpa using ah]at this;rw[this]at a6;cases a6
     have ai:(List.map (bF t) w)[i.toNat]? =some (bF t g):=by rw[aqd,B];rfl
     subst F;have:=SS.Zx (P:=P) (t:=b) (x:=c) (y:=e) (ty:=ty) (pos:=pos) (af:=af) (gd:=gd) (K:=λs'=>s'=⟨st.n,st.t,(j,some (.arr G t.w ((List.map (bF t) w).set i.toNat (setCells (bF t g) o R)) true))::(bz v++st.h)⟩)
      (z.is H (by intro f;cases f)) (by rw[E];exact S) aa ai (L.ty _ _ N) g2 g4 g3 g5 rfl
     refine this.lF ?_;refine cn.wh (h:=bz v++st.h) ?_ (eO t _);rw[arP];exact oZ.set _ g6
    ·cases s
   ·rename_i G t w M C
    obtain⟨x,y⟩:=aY h;simp only[apS]at x;have F:=apX x.1.1;have I:=apX x.1.2;have J:=apX x.2;subst F;subst I;subst J;split at y
    ·rename_i p E
     split at y
     ·rename_i t2 r2 ys wr2 D
      obtain⟨Y,h3⟩:=aY y;obtain⟨g,B,s⟩:=bj h3;obtain⟨i0,B⟩:=eH B;refine⟨_,_,λst Z z u X=>?_,s⟩;have a7:a_ st.h p=some (b_ (.arr t2 r2 ys wr2)):=u.at (by simp) D;have ac:i.toNat<w.length:=(apV.1 B).1;have a8:st.ev e=.ow p:=z.is E (by intro f;cases f);have ab:(vf t w M).length=w.length:=by
       unfold vf;split<;>simp
      refine SS.Ig (z.is H (by intro f;cases f)) (u.at (by simp) C) (L.ty _ _ N) (by rw[a8];rfl) rfl (by rw[a8];simp only[nR,a7,b_]) (by simp only[nR,a7,b_]) (by rw[ab];exact ac) ?_;have:(vf t w M).set i.toNat (.ow p)=vf t w (some (i,some p)):=by
       unfold ZB at Y;cases M with
       |none=>rfl
       |some q=>
        obtain⟨i1,q⟩:=q;have:i.toNat=i1.toNat:=aqK Y;simp only[vf,<-this,aua,nrH]
      simp only[bz,Option.map,b_,this];rfl
     ·cases y
    ·cases y
   ·cases h
  ·cases h
 ·cases h
def An(B:gw P T){x y v:Operand}{k:eQ->aZ->Option a}{r:a}(h:wj T ev hg b x y v k=some r):
 ∃s t,FS P ⟨none,.mapUpdate b x y v,ty,pos,af,gd⟩ n ev hg .un s t .no/\k s t=some r:=by
 unfold wj at h;split at h
 ·rename_i j G
  split at h
  ·rename_i L K l M D
   split at h
   ·rename_i Q z E
    split at h
    ·rename_i g m
     split at h
     ·rename_i f o
      obtain⟨i,w⟩:=aY h;simp only[apS]at i;have C:=oh i.1 i.2;subst C;obtain⟨I,J⟩:=qY i.1 g;refine⟨_,_,λq O p A N=>?_,w⟩;have u:enc (eI ev v)=enc (iS l f):=by rcases R3 o with h|h<;>exact h.1
      have F:q.ev v=enc (eI ev v):=p.is rfl (λe=>by rw[e]at o;cases l<;>simp[WU]at o);have H:q.ev y=enc (eI ev y):=p.is rfl (λe=>by rw[e]at m;cases K<;>simp[Ir,Gf]at m);refine SS.mapUpdate (B.mp _ _ E) (p.is G (by intro e;cases e)) (h1:=q.h) (c:=enc (iS l f)) (by rw[F,u];exact Dc l f) (A.at (by simp) D) (by rw[H];exact wg i.1 m) I ?_;simp only[bz,Option.map,b_];rw[C7 J];rfl
     ·cases h
    ·cases h
   ·cases h
  ·cases h
 ·cases h
end
section
open Go Go.RowKit MapKept
section
def K7(rows:List a)(l m:Nat)(z:a):List a:=rows.take l++(List.replicate m z++rows.drop (l+m))
def K8(b:List a)(l:Nat)(z:a):K7 b l 0 z=b:=by simp[K7]
def ZF{b:List a}{l m:Nat}{z:a}(h:l<b.length):K7 (b.set l z) (l+1) m z=K7 b l (m+1) z:=by
 unfold K7;have c:(b.set l z).take (l+1)=b.take l++[z]:=by
  rw[List.take_succ_eq_append_getElem (by simpa using h)];rw[atd,List.getElem_set_self,List.set_eq_of_length_le (by rw[aqD];exact Nat.min_le_left _ _)]
 have e:(b.set l z).drop (l+1+m)=b.drop (l+(m+1)):=by
  rw[List.drop_set_of_lt (by omega),show l+1+m=l+(m+1) by omega]
 rw[c,e,ark];simp
def Ao{α:Type}:∀(xs A B:List α),xs.length=B.length->setCells (A++B) A.length xs=A++xs
 |[],A,B,h=>by
  have:B=[]:=aqT h.symm;subst this;rfl
 |x::xs,A,[],h=>by simp at h
 |x::xs,A,y::B,h=>by
  have e:(A++y::B).set A.length x=(A++[x])++B:=by rw[atn _ _ (apT _)];simp
  rw[setCells,e,show A.length+1=(A++[x]).length by simp,Ao xs (A++[x]) B (by simpa using h)];simp
def K9{b B:List a}(h:b.length=B.length):setCells B 0 b=b:=Ao b [] B h
section
variable{P:Program}
def jX{a:Addr}{b:World}:∀{us vs:bD} {i:Nat} {w:World},(storeCells a us i).run P w=.ok () b->(storeCells a (us++vs) i).run P w=(storeCells a vs (i+us.length)).run P b
 |[],vs,i,w,h=>by
  have:w=b:=by simpa[storeCells]using h
  subst this;rfl
 |u::us,vs,i,w,h=>by
  simp only[storeCells,aq6,ap6]at h⊢;cases c:(store (a.add i) u).run P w with
  |ok x e=>
   rw[c]at h;simp only[ap7]at h⊢;rw[jX h,aqf,show i+1+us.length=i+(us.length+1) by omega]
  |_=>rw[c]at h;cases h
def Ga.clear{x:Bs}{s:bE}{k b:Nat}{t:TypeId}{r:Nat}{zs:bD}(D:zs.all (λv=>(lq v).one)=true)(p:zs.length=r):∀(m l:Nat) {st:St} {e:Env} {a:Act} {w:World} {f:List (List AV)} (h:Ga x s e st a w) (n:a_ st.h k=some (.arr t r f true)) (o:e.bS k=some b)
 (z:l+m<=f.length) (q g:Nat) (B:g+q=l*r),
 ∃H F u,(storeCells ⟨b,g,none⟩ (List.replicate m zs).flatten q).run P w=.ok () F/\Ga x s H ⟨st.n,st.t,u⟩ a F/\a_ u k=some (.arr t r (K7 f l m (zs.map lq)) true)/\∀j,j≠k->a_ u j=a_ st.h j
 |0,l,st,e,a,w,f,h,n,o,z,q,g,B=>⟨e,w,st.h,rfl,h,by rw[K8];exact n,λ_ _=>rfl⟩
 |m+1,l,st,e,a,w,f,h,n,o,z,q,g,B=>by
  have A:l<f.length:=by omega
  have C:f[l]? =some f[l]:=ap0 A;have R:=(h.sr.ob _ _ n).1 _ (ap_ C);have O:LR (VR (bO x s e st.h w) none) (zs.map lq) zs:=vY zs;obtain⟨Z,w1,h1,W,J,E,U,G⟩:=Ga.qP (P:=P) (i:=l) (zs.map lq) zs 0 h n o C O (λc N=>by
   obtain⟨v,Q,rfl⟩:=ap4.1 N;exact aqg.1 D v Q) (by simp[p]) q g (by omega)
  rw[K9 (by simp[p,R])]at E;obtain⟨I,Y,M,X,L,S,V⟩:=Ga.clear D p m (l+1) J E (by rw[G];exact o) (by simp;omega) (q+zs.length) g (by rw[p,aqv,arW];omega);refine⟨I,Y,M,?_,L,?_,λj y=>by rw[V j y,U j y]⟩
  ·rw[ark,aqu,jX W];exact X
  ·rw[S,ZF A]
variable{st:St}{d:Nat}{ty:TypeId}{pos:String}{af:dI}{gd:fE}{K:St->Prop}
def K_{α:Type}(z:List α):∀(m j:Nat),0<z.length->j<m*z.length->(List.replicate m z).flatten[j]? =z[j % z.length]?
 |0,j,b,a=>by simp at a
 |m+1,j,b,a=>by
  rw[ark,aqu];by_cases h:j<z.length
  ·rw[aqF h,asa h]
  ·rw[aq7 (by omega),K_ z m (j - z.length) b (by rw[aqv,arW]at a;omega),<-atX (by omega)]
def SS.clear{t E s:TypeId}{x:Operand}{k l m g G:Nat}{z:bD}{r:List (List AV)}(Y:FA P t=some (E,g,G,z))(Z:st.ev x=.sw k l m g)(B:a_ st.h k=some (.arr s g r true))(S:l+m<=r.length)(W:0<g)
 (a0:z.all (λv=>(lq v).one)=true) (p:K ⟨st.n,st.t,(k,some (.arr s g (K7 r l m (z.map lq)) true))::st.h⟩):
 SS P ⟨none,.call ⟨.builtin .clear, #[x], #[t]⟩,ty,pos,af,gd⟩ st K:=by
 intro w0 a1 e a w next Q h C
 obtain⟨i,c,p2,p3,p4,F,rfl,_,rfl⟩:=cT Y;have y:(#[x]:fU).map a.eval= #[a.eval x]:=by simp only[asd,aqc,aqZ]
 have q:=h.ev x;rw[Z]at q;generalize A:a.eval x=u at q;cases q with
 | @sw _ _ _ _ _ b o a2 I V h1 h2=>
  cases m with
  |zero=>
   rw[K8]at p;refine eo (v:=undef) (w':=w) ?_ (C _ p _ _ _ (h.kE λj=>?_))
   ·simp[execOp,resolve,y,A,invoke,builtin,Builtin.clear_,aqi p2,undef]
   ·by_cases f:j=k
    ·subst f;rw[bf];exact B.symm
    ·rw[bc f]
  |succ m=>
   obtain⟨e',w',h',D,M,R,N⟩:=Ga.clear (P:=P) a0 (by simpa using F) (m+1) l h B I S 0 o (by rw[V (by omega)];rfl);have L:(Builtin.zeroCells c.cells (m+1)).toList=(List.replicate (m+1) c.cells.toList).flatten:=by
    have n:0<c.cells.size:=by rw[F];exact W
    refine arC λj=>?_;have X:(Builtin.zeroCells c.cells (m+1)).toList.length=(m+1)*c.cells.size:=by simp[art]
    have J:((List.replicate (m+1) c.cells.toList).flatten).length=(m+1)*c.cells.size:=by simp
    by_cases f:j<(m+1)*c.cells.size
    ·rw[K_ c.cells.toList (m+1) j (by simpa using n) (by simpa using f)]
     have a3:j % c.cells.toList.length<c.cells.size:=by simpa using asb j n
     have O:j<(m+1)*c.cells.size:=f;rw[ara,ara];have H:j % c.cells.toList.length=j % c.cells.size:=by simp
     rw[H];have U:j % c.cells.size<c.cells.size:=asb j n;simp[Builtin.zeroCells,O,U]
    ·rw[aqE (by rw[X];omega),aqE (by rw[J];omega)]
   rw[<-L]at D;refine eo (v:=undef) (w':=w') ?_ (C _ p _ _ _ (M.kE λj=>?_))
   ·simp[execOp,resolve,y,A,invoke,builtin,Builtin.clear_,aqi p2,undef,zeroValue,typeInfo,p3,p4,D]
   ·by_cases f:j=k
    ·subst f;rw[bf];exact R.symm
    ·rw[bc f,N j f]
open Classical in
def FR{α:Type}:List (Value×α)->Value->Nat
 |[],_=>0
 |(k,_)::es,x=>if k=x then 0 else FR es x+1
def Gk{α:Type}:∀{a:List (Value×α)} {x:Value},fc a x=none->FR a x=a.length
 |[],_,_=>rfl
 |(k,c)::a,x,h=>by
  rw[fc]at h;by_cases b:k=x
  ·rw[apR b]at h;cases h
  ·rw[apQ b]at h
   rw[FR,apQ b,Gk h];rfl
def R5{α:Type}:∀{a:List (Value×α)} {x:Value} {j:Nat} {c:α},a[j]? =some (x,c)->(∀(i:Nat) p,i<j->a[i]? =some p->p.1≠x)->FR a x=j
 |[],_,_,_,h,_=>by simp at h
 |(k,e)::a,x,j,c,h,b=>by
  cases j with
  |zero=>simp at h;rw[FR,apR h.1]
  |succ j=>
   rw[FR,apQ (b 0 (k,e) (by omega) rfl),R5 (j:=j) (c:=c) (by simpa using h) λi p g f=>b (i+1) p (by omega) (by simpa using f)]
def SS.mapEntry{t:TypeId}{x y:Operand}{k:Nat}{I:TypeDesc}{z f:Value}{r:List (Value×AV)}(ht:mapA P t=some (I,z))(hx:st.ev x=.mp k)
 (S:a_ st.h k=some (.mp I r)) (hy:∀(Rd:bE) E u,VR Rd E (st.ev y) u->u=f) (B:kD I f) (hd:d<st.n)
 (hK:K ⟨st.n,(d,.tu [(fc r f).getD (Kj z),.v (.int .i64 (FR r f:Nat))])::st.t,(k,some (.mp I (nz r f ((fc r f).getD (Kj z)))))::st.h⟩):SS P ⟨some d,.mapEntry t x y,ty,pos,af,gd⟩ st K:=by
 intro N O e a w next Q A hn
 obtain⟨kt,et,i,p1,p2,p3,p4⟩:=hP ht;obtain⟨b,g,D,a6,L,ah,s,C⟩:=A.Ge hx S;have ar:=hy _ _ _ (A.ev y);have X:=A.sr.base _ _ _ S L;obtain⟨c,v,j,n,o,hc,a9,H,ao,ak⟩:∃c v j n o,(fc r f).getD (Kj z)=c/\VR (bO N O e st.h w) none c v/\FR r f=j/\
  (Instr.mapEntry t (.map (some b)) f).run P w=.ok (.tuple #[v,.int .i64 (j:Nat)]) {w with heap:=w.heap.setIfInBounds b (.map n o)}/\MR (bO N O e st.h w) I (nz r f c) n o:=by
  rcases C.find (P:=P) B p2 with⟨J,F,G,f4⟩|⟨j,m,c,J,F,G,f4,f5,f6,f7⟩
  ·obtain⟨n,o,M,Y⟩:=Fz.put (P:=P) C (λ_ _ h=>h) B p1 p2 (Ie z) s
   have a0:(Instr.mapUpdate t (.map (some b)) f z).run P w=.ok () {w with heap:=w.heap.setIfInBounds b (.map (g.push {key:=f,val:=z,born:=D}) (D+1))}:=by
    simp[Instr.mapUpdate,aqi p1,aqW s,p2.KQ _ _ _ B,J,arl _ s,Result.andThen]
   rw[a0]at M;have hw:({w with heap:=w.heap.setIfInBounds b (.map (g.push {key:=f,val:=z,born:=D}) (D+1))}:World)={w with heap:=w.heap.setIfInBounds b (.map n o)}:=by
    injection M
   refine⟨_,z,r.length,n,o,rfl,by rw[G];exact Ie z,Gk G,?_,by rw[G];exact Y⟩;rw[<-hw];have a8:D=r.length:=by rw[C.clk,C.len]
   simp[Instr.mapEntry,aqi p1,aqW s,p2.KQ _ _ _ B,J,arl _ s,zeroValue,typeInfo,p3,p4,goInt,a8]
  ·obtain⟨n,o,M,Y⟩:=Fz.put (P:=P) (R':=VR (bO N O e st.h w) none) C (λ_ _ h=>h) B p1 p2 f5 s
   have av:∀R,g[j]? =some R->({R with key:=f,val:=m.val}:MapEntry)=R:=λR a3=>by rw[F]at a3;cases a3;cases m;subst G;rfl
   have aj:g.modify j (λe=>{e with key:=f})=g.modify j (λe=>{e with key:=f,val:=m.val}):=by
    apply Array.ext_getElem?;intro q;rw[arB,arB];by_cases Z:j=q
    ·subst Z;rw[apR rfl,apR rfl,F];cases m;rfl
    ·rw[apQ Z,apQ Z]
   have a0:(Instr.mapUpdate t (.map (some b)) f m.val).run P w=.ok () {w with heap:=w.heap.setIfInBounds b (.map (g.modify j λe=>{e with key:=f,val:=m.val}) D)}:=by
    simp[Instr.mapUpdate,aqi p1,aqW s,p2.KQ _ _ _ B,J,F,G,p2.stay _ _ B,arl _ s,Result.andThen]
   rw[a0]at M;have hw:({w with heap:=w.heap.setIfInBounds b (.map (g.modify j λe=>{e with key:=f,val:=m.val}) D)}:World)={w with heap:=w.heap.setIfInBounds b (.map n o)}:=by
    injection M
   have ab:∀(i:Nat) p,i<j->r[i]? =some p->p.1≠f:=λi p ad hp an=>by
    have ag:∃U,g[i]? =some U/\U.key=p.1:=by
     have hi:i<g.size:=by rw[C.len];exact(apV.1 hp).1
     exact⟨g[i],aqA hi,(C.key i p _ hp (aqA hi)).1⟩
    obtain⟨U,a4,ai⟩:=ag;have ac:i<g.toList.length:=by have:=(aqx.1 a4).1;simpa using this
    have ae:j<g.toList.length:=by have:=(aqx.1 F).1;simpa using this
    have a5:=atk.1 ((at3 g D).1 C.jV).2.2 i j ac ae ad;have e1:g.toList[i]=U:=by
     have:=(aqx.1 a4).2;simpa using this
    have e2:g.toList[j]=m:=by
     have:=(aqx.1 F).2;simpa using this
    rw[e1,e2]at a5;exact a5 (by rw[ai,an,G])
   refine⟨c,m.val,j,n,o,by rw[f4];rfl,f5,R5 f6 ab,?_,Y⟩;rw[<-hw,<-aj];have a7:m.born=j:=C.Pe j m F;simp[Instr.mapEntry,aqi p1,aqW s,p2.KQ _ _ _ B,J,F,G,p2.stay _ _ B,arl _ s,goInt,a7]
 have a1:=asY (o':=.map n o) s;have aa:Bx N {w with heap:=w.heap.setIfInBounds b (.map n o)}:=
  A.sr.ext.step rfl rfl rfl (by simp) λj H _=>a1.2 j λe=>H (by rw[e];exact X.1)
 obtain⟨ap,a2⟩:=A.sr.tR (w':={w with heap:=w.heap.setIfInBounds b (.map n o)}) k (some b) (e.sv k) 0 (some (.mp I (nz r f c))) aa (.inr ⟨L.symm,rfl⟩) (by simp)
  (λV W al=>a1.2 V λhh=>al _ S (by rw[L];exact ap5 some hh.symm))
  (λV W _=>by obtain rfl:=apZ W;exact⟨X.1,by simpa using X.2,.inl ⟨_,S,L⟩⟩)
  (λV o' u' ob ho W aw au=>by have:e.cM k=0:=ah;omega)
  (λRd hR _ ax am=>by
   obtain rfl:=apZ am;exact⟨Env.bW,b,n,o,Env.bT,a1.1,MR.mono hR ak⟩)
 rw[hc,H]at hK;have aq:=(A.tr.mono a2).ir (e':=e.cK k (some b) (e.sv k) 0) (λj=>by by_cases H:j=k<;>simp[Env.cK,H,L]) (λj=>by by_cases H:j=k<;>simp[Env.cK,H]);have l:=LR.cons ((a9.mono a2).cS (E:=some (e.cK k (some b) (e.sv k) 0))) (LR.cons (VR.v (Rd:=bO N O (e.cK k (some b) (e.sv k) 0) ((k,some (.mp I (nz r f c)))::st.h) {w with heap:=w.heap.setIfInBounds b (.map n o)}) (x:=.int .i64 (j:Nat))) LR.nil);refine eo (v:=.tuple #[v,.int .i64 (j:Nat)]) (w':={w with heap:=w.heap.setIfInBounds b (.map n o)}) ?_ (hn _ hK _ _ _ ⟨by simpa[Act.put]using A.n,A.d,ap,TR.put aq (by rw[A.n.1];exact hd) (.tu _ l.1 l.2)⟩);simp[execOp,a6,ar,ao]
def SS.entryStore{t:TypeId}{x y v:Operand}{k i:Nat}{s:TypeDesc}{z kv:Value}{n:List (Value×AV)}{ki:IntKind}{h1:Hp}{c c0:AV}(ht:mapA P t=some (s,z))(hx:st.ev x=.mp k)(hy:st.ev y=.v (.int ki (i:Nat)))(hl:jx st.h (st.ev v)=some (h1,c))
 (B:a_ h1 k=some (.mp s n)) (J:n[i]? =some (kv,c0)) (U:K ⟨st.n,st.t,(k,some (.mp s (n.set i (kv,c))))::h1⟩):SS P ⟨none,.entryStore t x y v,ty,pos,af,gd⟩ st K:=by
 intro R S e a w next Q u hn
 obtain⟨F,a6,hv⟩:=qR u.sr (u.ev v) hl;have l:=u.cM a6;have o:(⟨st.n,st.t,h1⟩:St).ev x=.mp k:=by rw[<-hx];cases x<;>rfl
 obtain⟨b,h,m,X,p,a0,I,g⟩:=l.Ge o B;have C:=u.ev y;rw[hy]at C;have C:=C.bN;have H:=l.sr.base _ _ _ B p;have A:i<h.size:=by rw[g.len];exact(apV.1 J).1
 have Z:h.findIdx? (λe=>(e.born:Int)==(i:Int))=some i:=by
  rw[auQ];refine⟨A,?_,λq O=>?_⟩
  ·rw[g.Pe i _ (aqA A)];simp
  ·rw[g.Pe q _ (aqA (by omega))];simp;omega
 have a2:MR (bO R S F h1 w) s (n.set i (kv,c)) (h.modify i λe=>{e with val:=a.eval v}) m:=by
  refine⟨by simp[g.len],λq x' D o f=>?_,λD f=>?_,at4 g.jV _ _ (λ_ _=>rfl) (λ_ _ _=>rfl),λq D f=>?_,by rw[g.clk];simp⟩
  ·rw[arB]at f
   by_cases L:i=q
   ·subst L
    rw[apR rfl,aqA A]at f;have N:i<n.length:=(apV.1 J).1;simp[N]at o f;subst o f;exact⟨(g.key i _ _ J (aqA A)).1,hv⟩
   ·rw[apQ L]at f
    rw[atm L]at o;exact g.key q x' D o f
  ·obtain⟨q,O,rfl⟩:=aqB f
   have a8:q<h.size:=by simpa using O
   have:=g.isk h[q] (by simp);rw[asX,atl];split
   ·exact this
   ·exact this
  ·rw[arB]at f
   split at f
   ·obtain⟨m0,a1,rfl⟩:=aqo.1 f
    exact g.Pe q m0 a1
   ·exact g.Pe q D f
 have M:=asY (o':=.map (h.modify i λe=>{e with val:=a.eval v}) m) I;have Y:Bx R {w with heap:=w.heap.setIfInBounds b (.map (h.modify i λe=>{e with val:=a.eval v}) m)}:=
  l.sr.ext.step rfl rfl rfl (by simp) λj r _=>M.2 j λe=>r (by rw[e];exact H.1)
 obtain⟨a5,W⟩:=l.sr.tR (w':={w with heap:=w.heap.setIfInBounds b (.map (h.modify i λe=>{e with val:=a.eval v}) m)}) k (some b) (F.sv k) 0 (some (.mp s (n.set i (kv,c)))) Y (.inr ⟨p.symm,rfl⟩) (by simp)
  (λE G a3=>M.2 E λhh=>a3 _ B (by rw[p];exact ap5 some hh.symm))
  (λE G _=>by obtain rfl:=apZ G;exact⟨H.1,by simpa using H.2,.inl ⟨_,B,p⟩⟩)
  (λE o' u' ob ho G N a7=>by have:F.cM k=0:=a0;omega)
  (λRd V _ a9 a4=>by
   obtain rfl:=apZ a4;exact⟨Env.bW,b,_,m,Env.bT,M.1,MR.mono V a2⟩)
 refine sP (w':={w with heap:=w.heap.setIfInBounds b (.map (h.modify i λe=>{e with val:=a.eval v}) m)}) ?_ (hn _ U _ _ _ ⟨l.n,l.d,a5,(l.tr.mono W).ir (λj=>by by_cases r:j=k<;>simp[Env.cK,r,p]) (λj=>by by_cases r:j=k<;>simp[Env.cK,r])⟩);simp[execOp,Instr.entryStore,X,C,aqW I,asInt,asIntOf,Z,arl _ I]
