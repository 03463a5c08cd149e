/- part 2 -/
import Derived.Test.YtillffjlojlhoaaGreatDoorZWholeSound1
set_option linter.all false
noncomputable section
open Go Go.RowKit
set_option maxRecDepth 100000
open List (replicate)
open Nat (beq)
namespace Go.Proofs.YtillffjlojlhoaaGreatDoor
def ffB:Nat->In:=λ_=>false
mutual
def zM:∀c:AV,c.hL ffB=true
 |.un=>rfl
 |.v _=>rfl
 |.sl _ _ _=>rfl
 |.fp _=>rfl
 |.ow _=>rfl
 |.pt _ _=>rfl
 |.pe _ _ _ _=>rfl
 |.sw _ _ _ _=>rfl
 |.mp _=>rfl
 |.ag a=>by rw[AV.hL];exact xH a
 |.tu a=>by rw[AV.hL];exact xH a
 |.cl _ b a=>by rw[AV.hL,xH b,xH a];rfl
def xH:∀a:Do AV,AV.oa ffB a=true
 |[]=>rfl
 |c::a=>by rw[AV.oa,zM c,xH a];rfl
end
def aka(t:Do (Nat×AV)):DY ffB t=true:=by simp[DY,zM]
def Ob.zM(o:Ob):o.hL ffB=true:=by cases o<;>simp[Ob.hL,xH]
def Xj(h:Hp):sj ffB h=true:=by
 simp only[sj,awt,av4];intro q _;refine⟨rfl,?_⟩;split
 .exact Ob.zM _
 .rfl
structure PD(P:Program)(l:bq)(oZ:St)(pl:List En):Prop where
 len:pl.length<=l.length
 step:∀(j:Nat) o u,l[j]? =some o->pl[j]? =some u->o.dst=u.d/\DS P l oZ (pl.take j) o u
 fit:∀(i j:Nat) v u,i<j->pl[i]? =some v->pl[j]? =some u->P5 l i j v u/\aeo l i j v u
 P7:∀(j:Nat) u,pl[j]? =some u->DY u.fr oZ.t=true/\sj u.fr oZ.h=true
def P9:Nat->bq->In
 |_,[]=>true
 |j,o::l=>o.after.all (λe=> !Region.binds .any e||Nat.blt e.on j) && P9 (j+1) l
def D2:∀{a:Nat} {l:bq},P9 a l=true->∀(j:Nat) o,l[j]? =some o->∀e∈o.after,Region.binds .any e=true->e.on<a+j
 |a,[],_,j,o,h=>by simp at h
 |a,x::l,b,j,o,h=>by
  simp only[P9,av4]at b;cases j with
  |zero=>
   simp at h;subst h;intro e d c;have:=(Array.all_eq_true'.1 b.1) e d;simpa[c]using this
  |succ j=>
   intro e d c;have:=D2 b.2 j o (by simpa using h) e d c;omega
variable{s:AV}{Y:Bs}{L:Env}{n:Hp}{U:Nat->In}{c e:If}{b:EQ}{v:Id}{o:GE}{E:bL}{F:bI}
mutual
def P_(d:Nat):∀c:AV,c.hL (λk=>k==d)= !c.gW d
 |.un=>rfl
 |.v _=>rfl
 |.sl _ _ _=>rfl
 |.fp _=>rfl
 |.ow _=>rfl
 |.pt _ _=>rfl
 |.pe _ _ _ _=>rfl
 |.sw _ _ _ _=>rfl
 |.mp _=>rfl
 |.ag a=>by rw[AV.hL,AV.gW];exact rb d a
 |.tu a=>by rw[AV.hL,AV.gW];exact rb d a
 |.cl _ b a=>by rw[AV.hL,AV.gW,rb d b,rb d a,Bool.not_or]
def rb(d:Nat):∀a:Do AV,AV.oa (λk=>k==d) a= !AV.nZ d a
 |[]=>rfl
 |c::a=>by rw[AV.oa,AV.nZ,P_ d c,rb d a,Bool.not_or]
end
def re{d:Nat}(h:s.hL (λk=>k==d)=true):s.kill d=s:=by
 rw[P_]at h;unfold AV.kill;rw[av2];cases a:s.gW d
 .simp
 .rw[a]at h;cases h
def Ob.re{d:Nat}{o:Ob}(h:o.hL (λk=>k==d)=true):o.kill d=o:=by
 cases o with
 |box t e=>
  simp only[Ob.kill];congr 1;rw[aw3 (g:=id),ayc];intro c a;obtain⟨i,b,rfl⟩:=awV a;exact Go.Proofs.YtillffjlojlhoaaGreatDoor.re (fJ h i _ (awf b))
 |arr=>rfl
 |mp=>rfl
 |nr t e=>
  simp only[Ob.kill];congr 1;rw[aw3 (g:=id),ayc];intro c a;obtain⟨i,b,rfl⟩:=awV a;exact Go.Proofs.YtillffjlojlhoaaGreatDoor.re (fJ h i _ (awf b))
def Ob.q_{o:Ob}(h:o.hL U=true):o.lB U=o:=by
 cases o with
 |box t e=>
  simp only[Ob.lB];congr 1;rw[aw3 (g:=id),ayc];intro c a;obtain⟨i,b,rfl⟩:=awV a;exact mj (fJ h i _ (awf b))
 |arr=>rfl
 |mp=>rfl
 |nr t e=>
  simp only[Ob.lB];congr 1;rw[aw3 (g:=id),ayc];intro c a;obtain⟨i,b,rfl⟩:=awV a;exact mj (fJ h i _ (awf b))
section
variable{P:Fd}{st:St}{d:Nat}{ty:EQ}{pos:String}{af:dY}{gd:gg}{K:St->Prop}
def SS.mono{o:Oper}{K c:St->Prop}(h:SS P o st K)(q:∀s,K s->∃b,cG P s b/\c b):SS P o st c:=λj f e a w next Q p t=>
 h j f e a w next Q p λx v k g i m=>by
  obtain⟨b,r,u⟩:=q x v;obtain⟨l,n⟩:=r j f k g i m;exact t b u l g i n
def SS.fresh{o:Oper}{b:cn}(g:∀x,(bO st.t x).hL (λk=>k==d)=true)(c:∀k ob,bc st.h k=some ob->ob.hL (λk=>k==d)=true)
 (h:SS P o st λa=>a=⟨st.n,kX b s (dm d st.t),n++bx d st.h⟩):SS P o st λa=>a=⟨st.n,kX b s st.t,n++st.h⟩:=by
 refine h.mono λa f=>?_;subst f;refine⟨_,cG.same (λx=>?_) (λk=>?_),rfl⟩
 .rw[kx,kx,xA,re (g x)]
 .rw[eP,eP,dE]
  split
  .rfl
  .cases e:bc st.h k with
   |none=>rfl
   |some ob=>rw[aw9,Ob.re (c k ob e)]
def SS.aep{o:Oper}{b:cn}(j:∀x,(bO st.t x).hL U=true)(c:∀k ob,bc st.h k=some ob->ob.hL U=true)(f:∀k,U k=true->bc st.h k=none)
 (h:SS P o st λa=>a=⟨st.n,kX b s (tZ U st.t),n++iR U st.h⟩):SS P o st λa=>a=⟨st.n,kX b s st.t,n++st.h⟩:=by
 refine h.mono λa i=>?_;subst i;refine⟨_,cG.same (λx=>?_) (λk=>?_),rfl⟩
 .rw[kx,kx,nR,mj (j x)]
 .rw[eP,eP,xE]
  split
  .rfl
  .split
   next g=>exact f k g
   .cases e:bc st.h k with
    |none=>rfl
    |some ob=>rw[aw9,Ob.q_ (c k ob e)]
def SR.No(p:SR Y E L n o){k d:Nat}{ob:Ob}(B:bc n k=some ob)(ab:d≠k)(X:qY d n=true)(ly:d<4294967296):
 SR Y E (L.cR d (L.ca k) (L.sv k) (L.cX k)) ((d,some ob)::(k,none)::n) o/\∀b a u,bT Y E L n o b a u->bT Y E (L.cR d (L.ca k) (L.sv k) (L.cX k)) ((d,some ob)::(k,none)::n) o b a u:=by
 have C:∀j g,bc ((d,some ob)::(k,none)::n) j=some g->(j=d/\g=ob)\/(j≠d/\j≠k/\bc n j=some g):=λj g e=>by
  by_cases l:j=d
  .subst l;rw[bf]at e;exact .inl ⟨rfl,(av_ e).symm⟩
  .rw[bd l]at e
   by_cases r:j=k
   .subst r;rw[bf]at e;cases e
   .rw[bd r]at e;exact .inr ⟨l,r,e⟩
 have O:∀b a u,bT Y E L n o b a u->bT Y E (L.cR d (L.ca k) (L.sv k) (L.cX k)) ((d,some ob)::(k,none)::n) o b a u:=λb a u ⟨y,z,m⟩=>⟨y,z,λj g e f=>by
  rcases C j g e with⟨rfl,rfl⟩|⟨l,r,q⟩
  .rw[Env.cc]at f;rw[Env.cq];exact m k _ B f
  .rw[Env.bE l]at f;rw[Env.lM l];exact m j _ q f⟩
 refine⟨⟨p.ext,p.lA,λj g e=>?_,λj g b e f=>?_,λj Z aa a0 b e q f A=>?_,λj e=>by rw[Env.bE bv,Env.dy bv];exact p.yz j e⟩,O⟩
 .rcases C j g e with⟨rfl,rfl⟩|⟨l,r,q⟩
  .have G:=(p.ob k _ B).mono O
   have W:g.gW j=false:=AK X k _ B;cases g with
   |box t cs=>
    obtain⟨x,b,us,y,z,m⟩:=G;exact⟨by rw[Env.cq];exact x,b,us,by rw[Env.cc];exact y,z,m.1,λi c u D S=>(m.2 i c u D S).env rfl j (fE (by simpa[Ob.gW]using W) i c D) (λ_ h=>Env.bE h) (λ_ h=>Env.dy h)⟩
   |arr t sz ac wr=>
    obtain⟨x,y,z,m⟩:=G;refine⟨x,y,λhw=>by rw[Env.cq];exact z hw,?_⟩;rcases m with⟨s,v,w⟩|⟨b,M,N,s,v,w,H,I,J,F,a8⟩
    .exact .inl ⟨s,by rw[Env.cc];exact v,by rw[Env.dZ];exact w⟩
    .exact .inr ⟨b,M,N,by rw[Env.cc];exact s,by rw[Env.dZ];exact v,w,H,I,J,F,by rw[Env.cq];exact a8⟩
   |mp d es=>
    obtain⟨x,b,arr,a9,y,z,m⟩:=G;exact⟨by rw[Env.cq];exact x,b,arr,a9,by rw[Env.cc];exact y,z,m⟩
   |nr t cs=>
    obtain⟨x,m⟩:=G;refine⟨by rw[Env.cq];exact x,?_⟩;rcases m with⟨s,v,w⟩|⟨b,M,N,s,v,w,H,I,J,F⟩
    .exact .inl ⟨s,by rw[Env.cc];exact v,by rw[Env.dZ];exact w⟩
    .exact .inr ⟨b,M,N,by rw[Env.cc];exact s,by rw[Env.dZ];exact v,w,H,I,J,⟨F.1,λi c u D S=>(F.2 i c u D S).env rfl j (fE (by simpa[Ob.gW]using W) i c D) (λ_ h=>Env.bE h) (λ_ h=>Env.dy h)⟩⟩
  .exact((p.ob j g q).mono O).env (k:=d) l (.inl (AK X j g q)) (λ_ h=>Env.bE h) (λ_ h=>Env.dy h) (λ_ h=>Env.lM h) (λb _ _=>rfl)
 .rcases C j g e with⟨rfl,rfl⟩|⟨l,r,q⟩
  .rw[Env.cc]at f;exact p.base k _ b B f
  .rw[Env.bE l]at f;exact p.base j _ b q f
 .rcases C j aa e with⟨rfl,rfl⟩|⟨l,r,U⟩
  .rcases C Z a0 q with⟨rfl,rfl⟩|⟨R,V,Q⟩
   .rfl
   .rw[Env.cc]at f
    rw[Env.bE R]at A;exact absurd (p.inj _ _ _ _ _ Q B A f) V
  .rcases C Z a0 q with⟨rfl,rfl⟩|⟨R,V,Q⟩
   .rw[Env.cc]at A
    rw[Env.bE l]at f;exact absurd (p.inj _ _ _ _ _ U B f A) r
   .rw[Env.bE l]at f
    rw[Env.bE R]at A;exact p.inj _ _ _ _ _ U Q f A
def abR{d:Nat}(a:qY d n=true)(k:Nat):qY d ((k,none)::n)=true:=by simpa[qY]using a
def rf(k:Nat)(c:AV):(c.kill k).kill k=c.kill k:=by
 have:=lN k c;generalize c.kill k=x at this;unfold AV.kill;rw[av2 (by rw[this];simp)]
def Ob.rf(k:Nat)(o:Ob):(o.kill k).kill k=o.kill k:=by
 cases o with
 |box t a=>
  simp only[Ob.kill,axe];congr 1;exact aw3 λc _=>by simp[Go.Proofs.YtillffjlojlhoaaGreatDoor.rf]
 |arr=>rfl
 |mp=>rfl
 |nr t a=>
  simp only[Ob.kill,axe];congr 1;exact aw3 λc _=>by simp[Go.Proofs.YtillffjlojlhoaaGreatDoor.rf]
def sq{g:cn}{a:Act}{w f:GE}(h:(Builtin.append_ #[b,b] ty #[a.eval c,a.eval e]).run P w=.ok v f):
 (execOp a.eval ⟨g,.call ⟨.builtin .append, #[c,e], #[b,b]⟩,ty,pos,af,gd⟩).run P w=.ok (.value v) f:=by
 have i:(#[c,e]:gV).map a.eval= #[a.eval c,a.eval e]:=by simp only[ayr,awo,axd]
 simp only[execOp,resolve,i,awi,awm,awk,invoke,builtin];simp only[ay3,h,awk]
def SS.Qa{t E:EQ}{x y:If}{k h v:Nat}{h1:Hp}{tt wr:In}{rows ys:Do (Do AV)}(ht:KF P t=some (E,h,v,F))(hx:st.ev x=.ow k)(S:iQ st.h (st.ev y)=some (h1,.sl tt h ys))
 (O:bc h1 k=some (.arr E h rows wr)) (L:d≠k) (W:0<h) (U:rows.length+ys.length<=maxLen) (I:(rows.length+ys.length)*v<=140737488355328) (J:d<st.n)
 (G:K ⟨st.n,(d,.ow d)::dm d st.t,(d,some (.arr E h (rows++ys) wr))::(k,none)::bx d h1⟩):SS P ⟨some d,.call ⟨.builtin .append, #[x,y], #[t,t]⟩,ty,pos,af,gd⟩ st K:=by
 intro s o e a w next Q c V
 obtain⟨i,zv,p2,p3,p4,p5,rfl,rfl,_⟩:=c_ ht;obtain⟨b,a3,hv⟩:=q9 c.sr (c.ev y) S;have p:=c.cX a3;have q:=p.ev x;have a2:a.eval x=b.sv k:=by
  have:(⟨st.n,st.t,h1⟩:St).ev x=.ow k:=by rw[<-hx];cases x<;>rfl
  rw[this]at q;generalize a.eval x=u at q;cases q with
  |ow=>rfl
 obtain⟨X,z⟩:=p.sr.kill d;have R:bc (bx d h1) k=some (.arr E i.size rows wr):=by rw[dE,O];rfl
 obtain⟨Y,A⟩:=X.No R L (eC d h1) (by have:=c.n.2;omega);have a0:=((hv.mono z).mono A).c9 (E:=some (b.cR d (b.ca k) (b.sv k) (b.cX k)));obtain⟨g,r,n,l,C,Z,H⟩:=Y.append (by have:=c.n.2;omega) bf t ty i zv p2 p3 p4 rfl p5 W a0 U I;rw[Env.dZ]at C;have N:∀j,bc ((d,some (.arr E i.size (rows++ys) wr))::(k,none)::bx d h1) j=bc ((d,some (.arr E i.size (rows++ys) wr))::bx d ((d,some (.arr E i.size rows wr))::(k,none)::bx d h1)) j:=λj=>by
  by_cases m:j=d
  .subst m;rw[bf,bf]
  .rw[bd m,bd m,dE,bd m]
   by_cases B:j=k
   .subst B;rw[bf];rfl
   .rw[bd B,dE]
    cases bc h1 j with
    |none=>rfl
    |some ob=>simp[Ob.rf]
 have a1:TR (bT s o ((b.cR d (b.ca k) (b.sv k) (b.cX k)).cR d n g l) ((d,some (.arr E i.size (rows++ys) wr))::bx d ((d,some (.arr E i.size rows wr))::(k,none)::bx d h1)) r) ((b.cR d (b.ca k) (b.sv k) (b.cX k)).cR d n g l) ((d,.ow d)::dm d st.t) (a.tmps.setIfInBounds d g):=by
  refine TR.put ?_ (by rw[c.n.1];exact J) ?_
  .have D:=(((((p.tr.kill d).mono z).mono A).env d (ef d st.t) (e':=b.cR d (b.ca k) (b.sv k) (b.cX k)) (λ_ f=>Env.bE f) (λ_ f=>Env.dy f)).mono H)
   exact D.env d (ef d st.t) (λ_ f=>Env.bE f) (λ_ f=>Env.dy f)
  .have:=VR.ow (Rd:=bT s o ((b.cR d (b.ca k) (b.sv k) (b.cX k)).cR d n g l) ((d,some (.arr E i.size (rows++ys) wr))::bx d ((d,some (.arr E i.size rows wr))::(k,none)::bx d h1)) r) (e:=(b.cR d (b.ca k) (b.sv k) (b.cX k)).cR d n g l) (k:=d)
   rw[Env.dZ]at this;exact this
 have M:Ga s o _ ⟨st.n,(d,.ow d)::dm d st.t,_⟩ (a.put (some d) g) r:=⟨by simpa[Act.put]using c.n,c.d,Z,a1⟩;exact eO (sq (by rw[a2];exact C)) (V _ G _ _ _ (M.mh N))
def SS.Ll{t E:EQ}{x y:If}{o sz0 s:Nat}{h1:Hp}{tt:In}{ys:Do (Do AV)}(Z:KF P t=some (E,o,s,F))(hx:st.ev x=.sl true sz0 [])(R:iQ st.h (st.ev y)=some (h1,.sl tt o ys))
 (V:0<o) (S:ys.length<=maxLen) (L:ys.length*s<=140737488355328) (M:d<st.n)
 (J:K ⟨st.n,(d,.ow d)::dm d st.t,(d,some (.arr E o ys true))::bx d h1⟩):SS P ⟨some d,.call ⟨.builtin .append, #[x,y], #[t,t]⟩,ty,pos,af,gd⟩ st K:=by
 intro r p e a w next Q b U
 obtain⟨i,zv,p2,p3,p4,p5,rfl,rfl,_⟩:=c_ Z;obtain⟨g,a2,hv⟩:=q9 b.sr (b.ev y) R;have C:=b.cX a2;have H:=b.ev x;rw[hx]at H;obtain⟨c,a3,us,A,_,_,_,_,_,a1,_⟩:=H.n_;have B:=a1 rfl;simp only[aw4]at B A;subst B;obtain⟨W,u⟩:=C.sr.kill d;obtain⟨X,v⟩:=W.HP d E i.size c (eC d h1) (by have:=b.n.2;omega);have Y:=((hv.mono u).mono v).c9 (E:=some (g.cR d none (.slice c 0 0) 0));obtain⟨h,q,n,l,D,G,z⟩:=X.append (by have:=b.n.2;omega) bf t ty i zv p2 p3 p4 rfl p5 V Y (by simpa using S) (by simpa using L);rw[Env.dZ]at D;rw[awL]at G z;have O:∀j,bc ((d,some (.arr E i.size ys true))::bx d h1) j=bc ((d,some (.arr E i.size ys true))::bx d ((d,some (.arr E i.size [] true))::bx d h1)) j:=λj=>by
  by_cases m:j=d
  .subst m;rw[bf,bf]
  .rw[bd m,bd m,dE,dE,bd m,dE]
   cases bc h1 j with
   |none=>rfl
   |some ob=>simp[Ob.rf]
 have a0:TR (bT r p ((g.cR d none (.slice c 0 0) 0).cR d n h l) ((d,some (.arr E i.size ys true))::bx d ((d,some (.arr E i.size [] true))::bx d h1)) q) ((g.cR d none (.slice c 0 0) 0).cR d n h l) ((d,.ow d)::dm d st.t) (a.tmps.setIfInBounds d h):=by
  refine TR.put ?_ (by rw[b.n.1];exact M) ?_
  .have I:=(((((C.tr.kill d).mono u).mono v).env d (ef d st.t) (e':=g.cR d none (.slice c 0 0) 0) (λ_ f=>Env.bE f) (λ_ f=>Env.dy f)).mono z)
   exact I.env d (ef d st.t) (λ_ f=>Env.bE f) (λ_ f=>Env.dy f)
  .have:=VR.ow (Rd:=bT r p ((g.cR d none (.slice c 0 0) 0).cR d n h l) ((d,some (.arr E i.size ys true))::bx d ((d,some (.arr E i.size [] true))::bx d h1)) q) (e:=(g.cR d none (.slice c 0 0) 0).cR d n h l) (k:=d)
   rw[Env.dZ]at this;exact this
 have N:Ga r p _ ⟨st.n,(d,.ow d)::dm d st.t,_⟩ (a.put (some d) h) q:=⟨by simpa[Act.put]using b.n,b.d,G,a0⟩;exact eO (sq (by rw[A];exact D)) (U _ J _ _ _ (N.mh O))
end
variable{D:In}{i u:Do AV}{m:Nat}
section
variable{P:Fd}{st:St}{d:Nat}{dd:cn}{ty:EQ}{pos:String}{af:dY}{gd:gg}{K:St->Prop}
def Bx.ext(h:Bx Y o)(c:∀b,¬Y.own b):Ext Y.w o:=⟨⟨h.os,h.tape,h.output,h.size,λb e=>h.block b λa=>by
 rcases a with a|a
 .omega
 .exact c b a⟩,h.drawn⟩
def aeq(b:Nat):¬(cB [] m L o).own b:=by rintro⟨p,c,h,_⟩;cases h
def akb{b:Nat}(a:(cB [] m L o).iP b):o.heap.size<=b:=a.resolve_right (aeq b)
def Ga.amD{e h:Env}{a:Act}{w c:GE}(f:Ga Y E e st a w)(y:SR (cB [] m e w) (cRd [] m Y E e st.h w) h [] c)
 (z:VR (bT (cB [] m e w) (cRd [] m Y E e st.h w) h [] c) (some h) s v) (x:s.hL (λ_=>true)=true) (p:d<st.n):Ga Y E e ⟨st.n,(d,s)::st.t,st.h⟩ (a.put (some d) v) c:=by
 have l:Ext w c:=y.ext.ext aeq;have q:Ga Y E e st a c:=f.later l;refine q.put p ?_;have A:=z.KT (e':=e) rfl (λ_=>true) x (λj i=>by cases i) (λj i=>by cases i);refine A.mono λb o u ⟨B,C,_⟩=>?_;by_cases g:(cB [] m e w).iP b
 .have g:=akb g
  exact⟨B,λt=>absurd (f.sr.ext.iP g) t,λk ob r n=>by have:=(f.sr.base _ _ _ r n).2;omega⟩
 .exact(f.sr.later l).2 b o u (C g).1
def SS.aqc{f:FuncId}{q:Op}(m:Gq P f [] u [] s)(C:PF P ⟨some d,q,ty,pos,af,gd⟩ st f i)(D:Xb st [] (1000*(d+1)) n [] u i)(G:s.hL (λ_=>true)=true)(B:d<st.n)
 (z:K ⟨st.n,(d,s)::st.t,n⟩):SS P ⟨some d,q,ty,pos,af,gd⟩ st K:=by
 intro r g e a w next Q h H
 obtain⟨U,N,J⟩:=C m.1 r g e a w h;obtain⟨t,l,k,F,O⟩:=D r g e w _ h.sr N;have j:=h.cX l;have y:PE (1000*(d+1)) []=true:=by
  have:=h.n.2;simp[PE,Gp];omega
 have L:=j.sr.qp k y F;have A:=m.2 _ _ _ w U L (O.ra λb o c E=>E.qp k λp ob I=>by simp[bc]at I);unfold Oper.wp;rw[J w];show Calls P f _ w _;refine A.mono λx W S=>?_;obtain⟨v,V,rfl,M,R⟩:=S;exact H _ z t _ _ (j.amD M R G B)
def SS.anu{f:FuncId}{r:Op}(q:Gq P f [] u [] s)(G:s.pu=true)(C:PF P ⟨some d,r,ty,pos,af,gd⟩ st f i)(g:U0 st [] (1000*(d+1)) [] u i)(E:s.hL (λ_=>true)=true)(B:d<st.n)
 (y:K ⟨st.n,(d,s)::st.t,st.h⟩):SS P ⟨some d,r,ty,pos,af,gd⟩ st K:=by
 intro t m e a w next Q h F
 obtain⟨R,L,H⟩:=C q.1 t m e a w h;obtain⟨n,V,M⟩:=g t m e w _ h.sr L;have z:∀b o c,RB [] (1000*(d+1)) e w b o c->bT (cB [] (1000*(d+1)) e w) (RB [] (1000*(d+1)) e w) (e.pi [] (1000*(d+1))) [] w b o c:=λb o c j=>⟨j.1,λ_=>j,λp ob l U=>by simp[bc]at l⟩;have I:SR (cB [] (1000*(d+1)) e w) (RB [] (1000*(d+1)) e w) (e.pi [] (1000*(d+1))) [] w:=
  ⟨⟨rfl,rfl,rfl,av5 _,λ_ _=>rfl,av5 _⟩,⟨λb o c j=>j,λb o c g=>⟨(h.sr.HO g).1,h.sr.PW n g⟩⟩,λp ob l=>by simp[bc]at l,λp ob b l=>by simp[bc]at l,λp X ob W b l=>by simp[bc]at l,λk _=>⟨rfl,rfl⟩⟩
 have A:=q.2 _ _ _ w R I (M.ra z);unfold Oper.wp;rw[H w];show Calls P f _ w _;refine A.mono λx Y O=>?_;obtain⟨v,S,rfl,J,N⟩:=O;exact F _ y e _ _ (h.amD (J.pure (λk ob D=>by simp[bc]at D) ⟨λb o c j=>⟨j.1.1,j.2⟩,λb o c g=>⟨h.sr.HO g,h.sr.PW n g⟩⟩) (N.pure G) E B)
def SS.Qb{t E:EQ}{x y:If}{v W:Nat}{rows ys:Do (Do AV)}(ht:KF P t=some (E,v,W,F))(hx:st.ev x=.sl true v rows)(hl:iQ st.h (st.ev y)=some (n,.sl D v ys))
 (S:0<ys.length) (Y:0<v) (R:rows.length+ys.length<=maxLen) (J:(rows.length+ys.length)*W<=140737488355328) (hd:d<st.n)
 (hK:K ⟨st.n,(d,.ow d)::dm d st.t,(d,some (.arr E v (rows++ys) true))::bx d n⟩):SS P ⟨some d,.call ⟨.builtin .append, #[x,y], #[t,t]⟩,ty,pos,af,gd⟩ st K:=by
 intro w0 V e a w next Q l hn
 obtain⟨i,g,p2,p3,p4,p5,rfl,rfl,_⟩:=c_ ht;obtain⟨m,ap,hv⟩:=q9 l.sr (l.ev y) hl;have A:=l.cX ap;have an:VR (bT w0 V m n w) (some m) (.sl true i.size rows) (a.eval x):=by
  have:=A.ev x;have e2:(⟨st.n,st.t,n⟩:St).ev x=st.ev x:=by cases x<;>rfl
  rw[e2,hx]at this;exact this
 obtain⟨G,ar,f,a5,a0,a2,N,_,au,ak,ha⟩:=an.n_;obtain⟨aq,H,xs,a6,a1,a3,O,_,av,_,a4⟩:=hv.n_;have a9:=ak rfl;subst a9;have aa:=eM a0;have ab:=eM a1;have s:xs.length=ys.length*i.size:=by rw[O.1,ab]
 have ao:xs≠[]:=by
  rintro rfl;have:=ayy S Y;simp at s;omega
 obtain⟨z,C,rfl,a8⟩:=a4 ao;have U:∀(j:Nat) u,xs[j]? =some u->w.cell? ((⟨z,C,none⟩:Addr).add j)=some u:=λj u M=>by rw[awT];exact(a8 j u M).1
 have B:f.length=rows.length*i.size:=by rw[N.1,aa]
 have aw:rows.length+ys.length<=9223372036854775807:=by unfold maxLen at R;exact R
 have ae:∃b,(Builtin.append_ #[t,t] ty #[a.eval x,a.eval y]).run P w=.ok (.slice (some ⟨w.heap.size,0,none⟩) (rows.length+ys.length) (grownCap w (rows.length+ys.length) b E))
  (w.drew.alloc (.cells (f.toArray++xs.toArray++Builtin.zeroCells g.cells (grownCap w (rows.length+ys.length) b E - (rows.length+ys.length))) E)):=by
  rw[a5,a6];by_cases q:rows.length=0
  .have al:f=[]:=aw6 (by rw[B,q];simp)
   subst al;simp only[q,awB];cases G with
   |none=>
    refine⟨0,?_⟩;have:=azY (P:=P) w t ty E i g p2 p3 p4 ⟨z,C,none⟩ ys.length H xs s U S bv (by
     rw[q,awB]at J;omega)
    simpa using this
   |some G=>
    refine⟨0,?_⟩;have:=aym (P:=P) w t ty E i g p2 p3 p4 G 0 0 [] d5 d5 ⟨z,C,none⟩ ys.length H xs s U bv bv (by
     rw[q,awB]at J;rw[awB,nextslicecap_zero S];omega)
    simpa using this
  .have am:f≠[]:=by
    rintro rfl;have:=ayy (Nat.pos_of_ne_zero q) Y;simp at B;omega
   obtain⟨b1,o1,rfl,a7⟩:=ha am;exact⟨rows.length,aym (P:=P) w t ty E i g p2 p3 p4 ⟨b1,o1,none⟩ rows.length rows.length f B (λj u M=>by rw[awT];exact(a7 j u M).1) ⟨z,C,none⟩ ys.length H xs s U bv bv (ayV bv J)⟩
 obtain⟨b,ai⟩:=ae;obtain⟨aj,I⟩:=A.sr.kill d;have ag:=axu w (rows.length+ys.length) b E;have ah:=azX w (rows.length+ys.length) b E R;have ac:(rows++ys).flatten.length=f.length+xs.length:=by rw[axM,awl,N.1,O.1]
 obtain⟨Z,X⟩:=aj.Nj d E i.size (grownCap w (rows.length+ys.length) b E) (rows:=rows++ys) (cur:=f.toArray++xs.toArray++Builtin.zeroCells g.cells (grownCap w (rows.length+ys.length) b E - (rows.length+ys.length)))
  (λr p=>by
   rcases awc.1 p with p|p
   .exact a0 r p
   .exact a1 r p)
  (λc o=>by
   rw[axM]at o;rcases awc.1 o with o|o
   .exact a2 c o
   .exact a3 c o)
  (by
   have m:(f.toArray++xs.toArray++Builtin.zeroCells g.cells (grownCap w (rows.length+ys.length) b E - (rows.length+ys.length))).toList.take (rows++ys).flatten.length=f++xs:=by
    rw[ayl,ayl,ac,<-awl];exact ayT
   rw[m,axM];exact(N.imp λ_ _ h=>h.mono I).append (O.imp λ_ _ h=>h.mono I)) (by rw[awl];exact ag) ah
  (by
   simp only[ayk,axX,axN,p5,B,s,<-awK];congr 1;omega) (eC d n) (by have:=l.n.2;omega) (w.drew.alloc (.cells (f.toArray++xs.toArray++Builtin.zeroCells g.cells (grownCap w (rows.length+ys.length) b E - (rows.length+ys.length))) E)) rfl (A.sr.ext.drew.alloc _)
 rw[awl]at Z X;refine eO (sq ai) (hn _ hK _ _ _ ⟨by simpa[Act.put]using l.n,l.d,Z,TR.put ?_ (by rw[l.n.1];exact hd) ?_⟩)
 .exact(((A.tr.kill d).mono I).mono X).env d (ef d st.t) (λ_ L=>Env.bE L) (λ_ L=>Env.dy L)
 .have:=VR.ow (Rd:=bT w0 V (m.cR d (some w.heap.size) (.slice (some ⟨w.heap.size,0,none⟩) (rows.length+ys.length) (grownCap w (rows.length+ys.length) b E)) 0) ((d,some (.arr E i.size (rows++ys) true))::bx d n) (w.drew.alloc (.cells (f.toArray++xs.toArray++Builtin.zeroCells g.cells (grownCap w (rows.length+ys.length) b E - (rows.length+ys.length))) E))) (e:=m.cR d (some w.heap.size) (.slice (some ⟨w.heap.size,0,none⟩) (rows.length+ys.length) (grownCap w (rows.length+ys.length) b E)) 0) (k:=d)
  rw[Env.dZ]at this;exact this
end
variable{j:TypeDesc}
section
open Go Go.RowKit MapKept
variable{P:Fd}
structure U5(P:Program)(kt:TypeId)(d:TypeDesc):Prop where
 Qc:∀(e:Bool) (v:Value) (w:World),mg d v->(Instr.checkKey e 10000 kt v).run P w=.ok () w
 fnd:∀(v:Value) (l:List MapEntry),mg d v->(∀m∈l,mg d m.key)->
  ((∀w:World,(Instr.findKey kt v l).run P w=.ok none w)/\∀m∈l,m.key≠v)\/∃j m,(∀w:World,(Instr.findKey kt v l).run P w=.ok (some (j,m.val)) w)/\l[j]? =some m/\m.key=v
 stay:∀(v:Value) (w:World),mg d v->(Instr.keyThatStays v v).run P w=.ok v w
def U6:TypeDesc->In
 |.int _=>true
 |.bool=>true
 |_=>false
def sx(h:U6 j=true):mg j v↔IsKey j v:=by
 cases j<;>simp[U6]at h<;>rfl
def H5{kt:EQ}{d:TypeDesc}(hp:U6 d=true)(hu:P.underlying kt=some d):U5 P kt d where
 Qc:=λe v w hv=>aAa hu ((sx hp).1 hv) e 9999
 fnd:=λv l hv hl=>by
  have hv':=(sx hp).1 hv;rcases findNow_spec hv' l 0 (λm hm=>(sx hp).1 (hl m hm))with⟨h1,h2⟩|⟨j,m,h1,h2,h3⟩
  .exact .inl ⟨λw=>run_findKey hu h1,h2⟩
  .exact .inr ⟨j,m,λw=>by have:=run_findKey (w:=w) hu h1;simpa using this,h2,h3⟩
 stay:=λv w hv=>run_keyThatStays ((sx hp).1 hv)
def aqd(P:Fd)(f g:Field):In:=decide (f.offset=0) && decide (g.offset=1) && f.name != "_"&& g.name != "_"&& (match P.underlying f.type,P.underlying g.type with
 |some (.int .i64),some (.int .i64)=>true
 |_,_=>false)
def Qd(P:Fd)(a:EQ):In:= !(P.stoodInHeld a) && (match P.underlying a with
 |some (.struct ⟨[f,g]⟩)=>aqd P f g
 |_=>false)
def zN(h:Qd P b=true):P.stoodInHeld b=false/\∃f g,P.underlying b=some (.struct #[f,g])/\f.offset=0/\g.offset=1/\f.name≠ "_"/\g.name≠ "_"/\P.underlying f.type=some (.int .i64)/\P.underlying g.type=some (.int .i64):=by
 simp only[Qd,av4,axi]at h;obtain⟨m,a⟩:=h;split at a
 next f g n=>
  simp only[aqd,av4,awJ,bne_iff_ne]at a;obtain⟨⟨⟨⟨d,e⟩,i⟩,j⟩,c⟩:=a;refine⟨m,f,g,n,d,e,i,j,?_⟩;split at c
  next k l=>exact⟨k,l⟩
  .cases c
 .cases a
def Lm(h:Qd P b=true)(a e c d:Int)(w:GE):(Op.equal b (.agg #[.int .i64 a,.int .i64 e]) (.agg #[.int .i64 c,.int .i64 d])).run P w=.ok (decide (a=c/\e=d)) w:=by
 obtain⟨z,f,g,u,C,D,A,B,x,y⟩:=zN h;have t:P.fieldsOf b= #[f,g]:=by simp[Program.fieldsOf,u]
 have p1:P.plainKey f.type=true:=by simp[Program.plainKey,x]
 have p2:P.plainKey g.type=true:=by simp[Program.plainKey,y]
 show(Op.equalIn (9999+1) _ _ _).run P w=_;rw[run_equalIn_struct w 9999 b _ _ (by rw[t];exact u) z,t];have k:∀i:ey,∀v,i[0]? =some v->(part f.type i f.offset).run P w=.ok v w:=λi v p=>ayd w p1 (by rw[C];exact p);have q:∀i:ey,∀v,i[1]? =some v->(part g.type i g.offset).run P w=.ok v w:=λi v p=>ayd w p2 (by rw[D];exact p);have j:(Op.equalIn 9999 f.type (.int .i64 a) (.int .i64 c)).run P w=.ok (a==c) w:=aAb (P:=P) w 9998 f.type .i64 .i64 a c x;have n:(Op.equalIn 9999 g.type (.int .i64 e) (.int .i64 d)).run P w=.ok (e==d) w:=aAb (P:=P) w 9998 g.type .i64 .i64 e d y;simp only[Op.eqFields,A,B,ne_eq,azp,awG,awi,k #[.int .i64 a,.int .i64 e] (.int .i64 a) rfl,k #[.int .i64 c,.int .i64 d] (.int .i64 c) rfl,awk];have E:=k #[.int .i64 a,.int .i64 e] (.int .i64 a) rfl;have F:=k #[.int .i64 c,.int .i64 d] (.int .i64 c) rfl;have r:=q #[.int .i64 a,.int .i64 e] (.int .i64 e) rfl;have s:=q #[.int .i64 c,.int .i64 d] (.int .i64 d) rfl;cases l:(a==c)with
 |false=>
  rw[l]at j;have:¬a=c:=by simpa using l
  simp[j,this]
 |true=>
  rw[l]at j;have:a=c:=by simpa using l
  subst this;cases m:(e==d)with
  |false=>
   rw[m]at n;have o:¬e=d:=by simpa using m
   simp[j,n,r,s,o]
  |true=>
   rw[m]at n;have o:e=d:=by simpa using m
   subst o;simp[j,n,r,s]
def abS(h:Qd P b=true)(e:In)(a c:Int)(w:GE):(Instr.checkKey e 10000 b (.agg #[.int .i64 a,.int .i64 c])).run P w=.ok () w:=by
 obtain⟨t,f,g,o,r,s,p,q,d,i⟩:=zN h;have p1:P.plainKey f.type=true:=by simp[Program.plainKey,d]
 have p2:P.plainKey g.type=true:=by simp[Program.plainKey,i]
 have m:(part f.type #[Value.int .i64 a,.int .i64 c] f.offset).run P w=.ok (.int .i64 a) w:=ayd w p1 (by rw[r];rfl);have n:(part g.type #[Value.int .i64 a,.int .i64 c] g.offset).run P w=.ok (.int .i64 c) w:=ayd w p2 (by rw[s];rfl);have j:(Instr.checkKey e 9999 f.type (.int .i64 a)).run P w=.ok () w:=aAa d (k:=.int .i64 a) (by simp[IsKey]) e 9998;have l:(Instr.checkKey e 9999 g.type (.int .i64 c)).run P w=.ok () w:=aAa i (k:=.int .i64 c) (by simp[IsKey]) e 9998;rw[Instr.checkKey];simp[aww o,awi,p,q,m,n,j,l]
def Qe{g:EQ}(h:Qd P g=true)(a b:Int):∀(l:Do MapEntry) (i:Nat),(∀m∈l,∃c d:Int,m.key=.agg #[.int .i64 c,.int .i64 d])->
 ((∀w:GE,(Instr.findAsking g (.agg #[.int .i64 a,.int .i64 b]) l i).run P w=.ok none w)/\∀m∈l,m.key≠.agg #[.int .i64 a,.int .i64 b])\/
  ∃j m,(∀w:GE,(Instr.findAsking g (.agg #[.int .i64 a,.int .i64 b]) l i).run P w=.ok (some (i+j,m.val)) w)/\l[j]? =some m/\m.key=.agg #[.int .i64 a,.int .i64 b]
 |[],i,_=>.inl ⟨λw=>by simp[Instr.findAsking,awm],d5⟩
 |m::l,i,q=>by
  obtain⟨c,d,k⟩:=q m d5;by_cases p:a=c/\b=d
  .obtain⟨rfl,rfl⟩:=p
   refine .inr ⟨0,m,λw=>?_,rfl,k⟩;have:=Lm h a b a b w;simp only[Instr.findAsking,k,awi,this,awk];simp[awm]
  .have t:m.key≠.agg #[.int .i64 a,.int .i64 b]:=λe=>by
    rw[k]at e;simp at e;exact p ⟨e.1.symm,e.2.symm⟩
   have r:∀w:GE,(Instr.findAsking g (.agg #[.int .i64 a,.int .i64 b]) (m::l) i).run P w=(Instr.findAsking g (.agg #[.int .i64 a,.int .i64 b]) l (i+1)).run P w:=λw=>by
    have:=Lm h a b c d w;simp only[Instr.findAsking,k,awi,this,awk];simp[p]
   rcases Qe h a b l (i+1) (λx f=>q x (by simp[f]))with⟨n,o⟩|⟨j,u,n,o,s⟩
   .refine .inl ⟨λw=>by rw[r];exact n w,λx f=>?_⟩
    rcases awr.1 f with rfl|f
    .exact t
    .exact o x f
   .exact .inr ⟨j+1,u,λw=>by rw[r,n w];congr 3;omega,by simpa using o,s⟩
def aer{kt:EQ}(h:Qd P kt=true):U5 P kt (.tuple #[])where
 Qc:=λe v w hv=>by
  obtain⟨a,b,rfl⟩:=hv;exact abS h e a b w
 fnd:=λv l hv hl=>by
  obtain⟨a,b,rfl⟩:=hv;obtain⟨h0,f,g,hu,_⟩:=zN h;have aqe:∀w:GE,(Instr.findKey kt (.agg #[.int .i64 a,.int .i64 b]) l).run P w=(Instr.findAsking kt (.agg #[.int .i64 a,.int .i64 b]) l 0).run P w:=λw=>by
   unfold Instr.findKey;rw[awi,aww hu,awk];cases l with
   |nil=>simp[Instr.findNow,Instr.findAsking,awm]
   |cons m l=>
    obtain⟨c,d,hm⟩:=hl m d5;simp[Instr.findNow,Instr.sameNow,hm]
  rcases Qe h a b l 0 hl with⟨h1,h2⟩|⟨j,m,h1,h2,h3⟩
  .exact .inl ⟨λw=>by rw[aqe];exact h1 w,h2⟩
  .exact .inr ⟨j,m,λw=>by rw[aqe,h1 w];simp,h2,h3⟩
 stay:=λv w hv=>by
  obtain⟨a,b,rfl⟩:=hv;simp[Instr.keyThatStays,Instr.sameBits,awm]
def anv(P:Fd)(a:EQ):At TypeDesc:=cond (Qd P a) (some (.tuple #[])) (match P.underlying a with
 |some (.int k)=>some (.int k)
 |some .bool=>some .bool
 |_=>none)
def akc(h:anv P b=some j):U5 P b j:=by
 unfold anv at h;cases a:Qd P b with
 |true=>
  rw[a]at h;cases h;exact aer a
 |false=>
  rw[a]at h;simp only[av8]at h;split at h
  next k c=>cases h;exact H5 rfl c
  next c=>cases h;exact H5 rfl c
  .cases h
end
variable{h:Do (Do AV)}{X:At Env}{a:Type}{G k:EQ}{W:jP}
section
open Go Go.RowKit MapKept
open Classical in
noncomputable def fM{α:Type}:Do (Id×α)->Id->At α
 |[],_=>none
 |(k,c)::es,x=>if k=x then some c else fM es x
open Classical in
noncomputable def qu{α:Type}:Do (Id×α)->Id->α->Do (Id×α)
 |[],x,v=>[(x,v)]
 |(k,c)::es,x,v=>if k=x then(k,v)::es else(k,c)::qu es x v
def H7{α:Type}:∀{a:Do (Id×α)} {x:Id},(∀p∈a,p.1≠x)->fM a x=none
 |[],_,_=>rfl
 |(k,c)::a,x,h=>by
  rw[fM,av2 (h (k,c) d5)];exact H7 λp b=>h p (by simp[b])
def Qf{α:Type}:∀{a:Do (Id×α)} {x:Id} {j:Nat} {c:α},a[j]? =some (x,c)->(∀(i:Nat) p,i<j->a[i]? =some p->p.1≠x)->fM a x=some c
 |[],_,_,_,h,_=>by simp at h
 |(k,e)::a,x,j,c,h,b=>by
  cases j with
  |zero=>simp at h;rw[fM,av3 h.1,h.2]
  |succ j=>
   rw[fM,av2 (b 0 (k,e) bv rfl)];exact Qf (j:=j) (by simpa using h) λi p g f=>b (i+1) p bv (by simpa using f)
def Ln{α:Type}:∀{a:Do (Id×α)} {x:Id} {v:α},(∀p∈a,p.1≠x)->qu a x v=a++[(x,v)]
 |[],_,_,_=>rfl
 |(k,c)::a,x,v,h=>by
  rw[qu,av2 (h (k,c) d5),Ln λp b=>h p (by simp[b])];rfl
def Xk{α:Type}:∀{a:Do (Id×α)} {x:Id} {j:Nat} {c v:α},a[j]? =some (x,c)->(∀(i:Nat) p,i<j->a[i]? =some p->p.1≠x)->qu a x v=a.set j (x,v)
 |[],_,_,_,_,h,_=>by simp at h
 |(k,e)::a,x,j,c,v,h,b=>by
  cases j with
  |zero=>simp at h;rw[qu,av3 h.1,h.1];rfl
  |succ j=>
   rw[qu,av2 (b 0 (k,e) bv rfl),Xk (j:=j) (c:=c) (by simpa using h) λi p g f=>b (i+1) p bv (by simpa using f)];rfl
def mapA(P:Fd)(t:EQ):At (TypeDesc×Id):=
 match P.underlying t with
 |some (.map k e)=>match anv P k,P.info? e with
  |some d,some i=>match i.zero with
   |some z=>some (d,z)
   |none=>none
  |_,_=>none
 |_=>none
def iS{P:Fd}{d:TypeDesc}(h:mapA P b=some (d,v)):∃k e i,P.underlying b=some (.map k e)/\U5 P k d/\P.info? e=some i/\i.zero=some v:=by
 unfold mapA at h;split at h
 next k e a=>
  split at h
  next j i c f=>
   split at h
   next l g=>simp only[av6,awn]at h;obtain⟨rfl,rfl⟩:=h;exact⟨k,e,i,a,akc c,f,g⟩
   .cases h
  .cases h
 .cases h
def PH:Id->AV
 |.agg a=>.ag (a.toList.map na)
 |x=>na x
def Np{Rd:bL}(x:Id):VR Rd X (PH x) x:=by
 unfold PH;split
 next a=>have h:=AN (Rd:=Rd) (E:=X) a.toList;have:=VR.ag (Rd:=Rd) (E:=X) a.toList h.1 h.2;simpa using this
 .exact HQ x
def KE.find{P:Fd}{R:a->Id->Prop}{d:TypeDesc}{g:Do (Id×a)}{k:AI}(h:KE R d g k m)(M:mg d v)(G:U5 P b d):
 ((∀w:GE,(Instr.findKey b v k.toList).run P w=.ok none w)/\(∀x∈k.toList,x.key≠v)/\fM g v=none/\∀f,qu g v f=g++[(v,f)])\/
 ∃j e c,(∀w:GE,(Instr.findKey b v k.toList).run P w=.ok (some (j,e.val)) w)/\k[j]? =some e/\e.key=v/\fM g v=some c/\R c e.val/\g[j]? =some (v,c)/\∀f,qu g v f=g.set j (v,f):=by
 have A:∀(j:Nat) p,g[j]? =some p->∃e,k[j]? =some e/\e.key=p.1:=λj p o=>by
  have l:j<k.size:=by rw[h.len];exact(av7.1 o).1
  exact⟨k[j],awU l,(h.key j p _ o (awU l)).1⟩
 rcases G.fnd v k.toList M h.isk with⟨r,q⟩|⟨j,e,r,q,s⟩
 .have C:∀p∈g,p.1≠v:=λp o u=>by
   obtain⟨j,l,rfl⟩:=awV o;obtain⟨e,n,N⟩:=A j _ (awf l);exact q e (Array.mem_toList_iff.2 (aAP n)) (N.trans u)
  exact .inl ⟨r,q,H7 C,λf=>Ln C⟩
 .have n:k[j]? =some e:=by simpa using q
  have l:j<g.length:=by rw[<-h.len];exact(awS.1 n).1
  have y:=h.key j _ e (awf l) n;have H:g[j].1=v:=y.1.symm.trans s;have t:g[j]? =some (v,g[j].2):=by rw[awf l,<-H]
  have z:∀(i:Nat) p,i<j->g[i]? =some p->p.1≠v:=λi p J o u=>by
   obtain⟨Q,B,O⟩:=A i p o;have S:=h.lG.2.2;have I:i<k.toList.length:=by have:=(awS.1 B).1;simpa using this
   have L:j<k.toList.length:=by have:=(awS.1 n).1;simpa using this
   have D:=ay6.1 ((aAc k m).1 h.lG).2.2 i j I L J;have E:k.toList[i]=Q:=by
    have:=(awS.1 B).2;simpa using this
   have F:k.toList[j]=e:=by
    have:=(awS.1 n).2;simpa using this
   rw[E,F]at D;exact D (by rw[O,u,s])
  refine .inr ⟨j,e,g[j].2,r,n,s,Qf t z,y.2,t,λf=>Xk t z⟩
def KE.put{P:Fd}{R R':a->Id->Prop}{z:Do (Id×a)}{y:AI}(n:KE R j z y m)(M:∀c u,R c u->R' c u){w:Id}(s:mg j w)
 (p1:P.underlying b=some (.map k G)) (p2:U5 P k j) {c:a} {v:Id} (N:R' c v) {h:Nat} (C:o.heap[h]? =some (.map y m)):
 ∃I J,(Instr.mapUpdate b (.map (some h)) w v).run P o=.ok () {o with heap:=o.heap.setIfInBounds h (.map I J)}/\KE R' j (qu z w c) I J:=by
 rcases n.find (P:=P) s p2 with⟨E,A,F,L⟩|⟨f,g,Y,E,A,F,L,Z,O,Q⟩
 .refine⟨y.push {key:=w,val:=v,born:=m},m+1,?_,?_⟩
  .simp[Instr.mapUpdate,aww p1,aw_ C,p2.Qc _ _ _ s,E,axI _ C,Result.andThen]
  .rw[L]
   refine⟨by simp[n.len],λf x g p l=>?_,λg l=>?_,stamped_push n.lG A,λf g r=>?_,by rw[n.clk];simp⟩
   .by_cases r:f<z.length
    .rw[awY r]at p
     rw[ayi,av2 (by rw[n.len];omega)]at l;exact⟨(n.key f x g p l).1,M _ _ (n.key f x g p l).2⟩
    .have S:f=z.length:=by
      have:=(av7.1 p).1;simp at this;omega
     subst S;simp at p;rw[ayi,av3 n.len.symm]at l;simp at l;subst p;subst l;exact⟨rfl,N⟩
   .rw[Array.toList_push,awc]at l
    rcases l with l|l
    .exact n.isk g l
    .simp at l;subst l;exact s
   .rw[ayi]at r
    split at r
    next e=>cases r;rw[e];exact n.clk
    .exact n.UP f g r
 .have V:∀q,y[f]? =some q->({q with key:=w,val:=v}:MapEntry).key=q.key:=λq D=>by rw[A]at D;cases D;exact F.symm
  refine⟨y.modify f λe=>{e with key:=w,val:=v},m,?_,?_⟩
  .simp[Instr.mapUpdate,aww p1,aw_ C,p2.Qc _ _ _ s,E,A,F,p2.stay _ _ s,axI _ C,Result.andThen]
  .rw[Q]
   refine⟨by simp[n.len],λi x B p l=>?_,λB t=>?_,aAd n.lG _ _ (λ_ _=>rfl) (λq _ D=>V q D),λi B t=>?_,by rw[n.clk];simp⟩
   rotate_left
   .obtain⟨i,hi,rfl⟩:=awV t
    rw[ay7,azq];split
    .exact s
    .exact n.isk _ d5
   .rw[axS]at t
    split at t
    .obtain⟨X,W,rfl⟩:=awC.1 t
     exact n.UP i X W
    .exact n.UP i B t
   rw[axS]at l;by_cases H:f=i
   .subst H
    have U:f<z.length:=(av7.1 O).1;rw[A]at l;simp at l;simp[U]at p;subst p;subst l;exact⟨rfl,N⟩
   .rw[av2 H]at l
    rw[azr H]at p;exact⟨(n.key i x B p l).1,M _ _ (n.key i x B p l).2⟩
section
variable{P:Fd}{st:St}{d:Nat}{dd:cn}{ty:EQ}{pos:String}{af:dY}{gd:gg}{K:St->Prop}
def Ga.Lo{a:Act}(h:Ga Y E L st a o){i:Do (Id×AV)}(s:st.ev c=.mp m)(r:bc st.h m=some (.mp j i)):
 ∃b e f,a.eval c=.map (some b)/\L.ca m=some b/\L.cX m=0/\o.heap[b]? =some (.map e f)/\MR (bT Y E L st.h o) j i e f:=by
 obtain⟨l,b,e,f,k,n,p⟩:=h.sr.ob _ _ r;have g:=h.ev c;rw[s]at g;generalize a.eval c=u at g;cases g with
 |mp q=>
  obtain rfl:=av_ (q.symm.trans k);exact⟨_,e,f,rfl,k,l,n,p⟩
def RS.atP{k:Nat}{t u:TypeDesc}{es:Do (Id×AV)}(q:W[0]? =some b)(p:mapA P b=some (t,v))(r:st.ev c=.mp k)(n:bc st.h k=some (.mp u es)):
 RS P ⟨dd,.call ⟨.builtin .len, #[c],W⟩,ty,pos,af,gd⟩ st (.v (.int .i64 es.length)):=λH x e a w h=>by
 obtain⟨F,A,i,g,B,C,D⟩:=iS p;obtain⟨f,y,z,j,E,_,m,o⟩:=h.Lo r n;refine⟨_,.v,λG s=>?_⟩;have l:=s.block m;simp[execOp,resolve,invoke,builtin,Builtin.len_,q,aww g,j,goInt,aw_ l,o.len]
def RS.lookup{t:EQ}{x y:If}{k:Nat}{q:TypeDesc}{z p:Id}{r:Do (Id×AV)}(M:mapA P t=some (q,z))(N:st.ev x=.mp k)(J:bc st.h k=some (.mp q r))(O:∀(Rd:bL) E u,VR Rd E (st.ev y) u->u=p)(n:mg q p):
 RS P ⟨dd,.lookup t x y false,ty,pos,af,gd⟩ st ((fM r p).getD (PH z)):=λY R e a w h=>by
 obtain⟨X,V,i,v,g,H,I⟩:=iS M;obtain⟨b,S,U,A,W,_,B,L⟩:=h.Lo N J;have C:=O _ _ _ (h.ev y);rcases L.find (P:=P) n g with⟨f,D,s,_⟩|⟨j,m,c,f,D,s,F,G,_⟩
 .refine⟨z,by rw[s];exact Np z,λQ o=>?_⟩
  have l:=o.block B;simp[execOp,Instr.lookup,A,C,aww v,aw_ l,g.Qc _ _ _ n,f,zeroValue,typeInfo,H,I]
 .refine⟨m.val,by rw[F];exact G.c9,λQ o=>?_⟩
  have l:=o.block B;simp[execOp,Instr.lookup,A,C,aww v,aw_ l,g.Qc _ _ _ n,f]
def RS.aes{z o:Id}{p:Do (Id×AV)}(Q:mapA P b=some (j,z))(R:st.ev c=.mp m)(N:bc st.h m=some (.mp j p))(S:∀(Rd:bL) E u,VR Rd E (st.ev e) u->u=o)(v:mg j o):
 RS P ⟨dd,.lookup b c e true,ty,pos,af,gd⟩ st (.tu [(fM p o).getD (PH z),.v (.bool (fM p o).isSome)]):=λG y f a w h=>by
 obtain⟨Z,X,i,B,s,L,M⟩:=iS Q;obtain⟨k,V,W,C,Y,_,D,O⟩:=h.Lo R N;have F:=S _ _ _ (h.ev e);rcases O.find (P:=P) v s with⟨r,H,A,_⟩|⟨n,g,l,r,H,A,I,J,_⟩
 .have q:LR (VR (bT G y f st.h w) (some f)) [(fM p o).getD (PH z),.v (.bool (fM p o).isSome)] [z,.bool false]:=by
   rw[A];exact LR.cons (Np z) (LR.cons .v LR.nil)
  refine⟨_,.tu _ q.1 q.2,λU x=>?_⟩;have t:=x.block D;simp[execOp,Instr.lookup,C,F,aww B,aw_ t,s.Qc _ _ _ v,r,zeroValue,typeInfo,L,M]
 .have q:LR (VR (bT G y f st.h w) (some f)) [(fM p o).getD (PH z),.v (.bool (fM p o).isSome)] [g.val,.bool true]:=by
   rw[I];exact LR.cons J.c9 (LR.cons .v LR.nil)
  refine⟨_,.tu _ q.1 q.2,λU x=>?_⟩;have t:=x.block D;simp[execOp,Instr.lookup,C,F,aww B,aw_ t,s.Qc _ _ _ v,r]
def SS.makeMap{t:EQ}{z:Id}(L:mapA P t=some (j,z))(s:d<st.n)(k:K ⟨st.n,(d,.mp d)::dm d st.t,(d,some (.mp j []))::bx d st.h⟩):SS P ⟨some d,.makeMap t none,ty,pos,af,gd⟩ st K:=by
 intro N H e a w next Q f B
 obtain⟨i,l⟩:=f.sr.kill d;have C:=abL w (.map #[] 0);obtain⟨F,n⟩:=i.yk d (some w.heap.size) (e.sv d) 0 (some (.mp j [])) (f.sr.ext.alloc (.map #[] 0)) (.inl ⟨eC d st.h,by have:=f.n.2;omega⟩) d5 (λb g _=>aei w _ b g)
  (λb g _=>by obtain rfl:=av_ g;exact⟨f.sr.ext.iP (av5 _),d5,.inr (av5 _)⟩)
  (λb o u ob D g J r=>by
   have q:=(i.base _ _ _ D g).2;refine⟨by rw[ayw (w:=w) (aei w _ b q)];exact r,λ_ p=>?_⟩;obtain rfl:=av_ p;omega)
  (λRd I _ M E=>by
   obtain rfl:=av_ E;exact⟨Env.cq,w.heap.size, #[],0,Env.cc,C,rfl,λc x m G=>by simp at G,λm A=>by simp at A,stamped_empty 0,λc m y=>by simp at y,rfl⟩)
 refine eO (v:=.map (some w.heap.size)) (w':=w.alloc (.map #[] 0)) (by simp[execOp,run_makeMap]) (B _ k _ _ _ ⟨by simpa[Act.put]using f.n,f.d,F,TR.put ?_ (by rw[f.n.1];exact s) (.mp Env.cc)⟩);exact(((f.tr.kill d).mono l).mono n).env d (ef d st.t) (λ_ h=>Env.bE h) (λ_ h=>Env.dy h)
def SS.mapUpdate{t:EQ}{x y v:If}{k:Nat}{n:TypeDesc}{z m:Id}{r:Do (Id×AV)}{h1:Hp}{c:AV}(ht:mapA P t=some (n,z))(hx:st.ev x=.mp k)(V:kV st.h (st.ev v)=some (h1,c))
 (A:bc h1 k=some (.mp n r)) (hy:∀(Rd:bL) E u,VR Rd E (st.ev y) u->u=m) (U:mg n m) (M:K ⟨st.n,st.t,(k,some (.mp n (qu r m c)))::h1⟩):SS P ⟨none,.mapUpdate t x y v,ty,pos,af,gd⟩ st K:=by
 intro J L e a w next Q s hn
 obtain⟨kt,et,i,p1,p2,p3,p4⟩:=iS ht;obtain⟨C,a7,hv⟩:=vp s.sr (s.ev v) V;have l:=s.cX a7;have a6:(⟨st.n,st.t,h1⟩:St).ev x=.mp k:=by rw[<-hx];cases x<;>rfl
 obtain⟨b,a8,a9,O,p,W,I,Y⟩:=l.Lo a6 A;have a5:=hy _ _ _ (s.ev y);have G:=l.sr.base _ _ _ A p;have a1:∃f g,(Instr.mapUpdate t (.map (some b)) m (a.eval v)).run P w=.ok () {w with heap:=w.heap.setIfInBounds b (.map f g)}/\∀Rd,(∀b o u,bT J L C h1 w b o u->Rd b o u)->MR Rd n (qu r m c) f g:=by
  obtain⟨f,g,hr,X⟩:=KE.put (P:=P) Y (λ_ _ h=>h) U p1 p2 hv I;exact⟨f,g,hr,λRd D=>MR.mono D X⟩
 obtain⟨f,g,a3,Z⟩:=a1;have H:=ay8 (o':=.map f g) I;have R:Bx J {w with heap:=w.heap.setIfInBounds b (.map f g)}:=
  l.sr.ext.step rfl rfl rfl d5 λj q _=>H.2 j λe=>q (by rw[e];exact G.1)
 obtain⟨a4,N⟩:=l.sr.yk (w':={w with heap:=w.heap.setIfInBounds b (.map f g)}) k (some b) (C.sv k) 0 (some (.mp n (qu r m c))) R (.inr ⟨p.symm,rfl⟩) d5
  (λB F a0=>H.2 B λS=>a0 _ A (by rw[p];exact awh some S.symm))
  (λB F _=>by obtain rfl:=av_ F;exact⟨G.1,by simpa using G.2,.inl ⟨_,A,p⟩⟩)
  (λB o' u' ob ho F ab aa=>by have:C.cX k=0:=W;omega)
  (λRd D _ ac a2=>by
   obtain rfl:=av_ a2;exact⟨Env.cq,b,f,g,Env.cc,H.1,Z Rd D⟩)
 refine xC (w':={w with heap:=w.heap.setIfInBounds b (.map f g)}) ?_ (hn _ M _ _ _ ⟨l.n,l.d,a4,(l.tr.mono N).jt (λj=>by by_cases q:j=k<;>simp[Env.cR,q,p]) (λj=>by by_cases q:j=k<;>simp[Env.cR,q])⟩);simp[execOp,O,a5,a3]
def SS.aqf{L s:Nat}(H:KF P b=some (k,L,s,F))(J:st.ev c=.sl D m h)(p:h=[]\/0<m)(B:d<st.n)
 (x:∀f:In,(f=true->h=[])->K ⟨st.n,(d,.v (.bool f))::st.t,st.h⟩):SS P ⟨some d,.binOp .eql b c (.const (.slice none 0 0)) G,ty,pos,af,gd⟩ st K:=by
 intro S N e a w next Q n j
 obtain⟨i,U,p2,_⟩:=c_ H;have q:=n.ev c;rw[J]at q;obtain⟨g,l,M,z,I,O,C,_,_,_,y⟩:=q.n_;have A:g.isNone=true->h=[]:=λj=>by
  cases h with
  |nil=>rfl
  |cons r h=>
   have R:=I r d5;have p:0<m:=p.resolve_left d5;have E:M≠[]:=by
    rintro rfl;have:=C.1;simp at this;omega
   obtain⟨f,o,rfl,_⟩:=y E;cases j
 refine eO (v:=.bool g.isNone) (w':=w) ?_ (j _ (x g.isNone A) e _ _ (n.put B .v));have t:a.eval (.const (.slice none 0 0))=.slice none 0 0:=rfl;have u:(eqGuard .eql b c (.const (.slice none 0 0)) (.slice g h.length l) (.slice none 0 0)).run P w=.ok () w:=by simp[eqGuard]
 simp only[execOp,z,t,u,awi,aAe w b k g h.length l 0 0 p2,awk,awm]
def RS.max2{o:jP}{x y:If}{k:IntKind}{m n:Int}(j:st.ev x=.v (.int k m))(l:st.ev y=.v (.int k n)):RS P ⟨dd,.call ⟨.builtin .max, #[x,y],o⟩,ty,pos,af,gd⟩ st (.v (.int k (if n>m then n else m))):=λr p e a w h=>by
 have b:=h.ev x;have c:=h.ev y;rw[j]at b;rw[l]at c;refine⟨_,.v,λq _=>?_⟩;have f:=b.bS;have g:=c.bS;have i:(#[x,y]:gV).map a.eval= #[.int k m,.int k n]:=by simp only[ayr,awo,axd,f,g]
 simp only[execOp,resolve,i,awi,awm,awk,invoke,builtin,Builtin.max_,ayF,ayG,Builtin.max2]
end
end
variable{R:AV}{C:IntKind}
section
variable{P:Fd}{st:St}{d:Nat}{dd:cn}{ty:EQ}{pos:String}{af:dY}{gd:gg}{K:St->Prop}
def SS.H8{t:EQ}{n l:Nat}(k:Fc P t=some F)(p:∀r∈h,r.length=l)(E:h.length=n)(m:h.flatten=F.map na)(f:∀c∈h.flatten,c.one=true)(C:n<=maxLen)(A:d<st.n)
 (x:K ⟨st.n,(d,.pt d 0)::dm d st.t,(d,some (.arr t l h true))::bx d st.h⟩):SS P ⟨some d,.alloc t,ty,pos,af,gd⟩ st K:=by
 intro L q e a w next Q b D
 obtain⟨G,y⟩:=b.sr.kill d;have B:=eM p;have I:F.length=n*l:=by rw[<-E,<-B,m,awa]
 have o:LR (VR (bT L q e (bx d st.h) w) none) h.flatten F:=by
  rw[m];exact⟨d5,λj c u f s=>by
   rw[awp,s]at f;simp at f;subst f;exact HQ u⟩
 obtain⟨H,z⟩:=G.Nj d t l n (rows:=h) (cur:=F.toArray) p f (by
  have:F.toArray.toList.take h.flatten.length=F:=by
   rw[o.1.symm];simp
  rw[this];exact o) bv C (by simp[I]) (eC d st.h) (by have:=b.n.2;omega) (w.alloc (.cells F.toArray t)) rfl (b.sr.ext.alloc _)
 unfold Fc at k;obtain⟨i,g,k⟩:=ayp.1 k;obtain⟨M,J,rfl⟩:=awC.1 k;refine eO (v:=.pointer (some ⟨w.heap.size,0,none⟩)) (w':=w.alloc (.cells M.cells.toList.toArray t)) ?_ (D _ x _ _ _ ⟨by simpa[Act.put]using b.n,b.d,H,TR.put ?_ (by rw[b.n.1];exact A) (.pt Env.cc)⟩)
 .simp[execOp,Instr.alloc,zeroValue,typeInfo,g,J,newVar,newRow,newObj,Sem.run]
 .exact(((b.tr.kill d).mono y).mono z).env d (ef d st.t) (λ_ g=>Env.bE g) (λ_ g=>Env.dy g)
def SS.AU{t E:EQ}{len f U:Nat}{parts:HL}{h':Hp}{aS cs:Do AV}{qs:Do (Nat×Do AV)}(ht:KF P t=some (E,f,U,F))
 (hl:qm st.h (parts.toList.map λp=>st.ev p.2)=some (h',aS)) (hq:mN (parts.toList.map (·.1)) aS=some qs) (L:hQ (λi=>some (i*f,f)) (replicate (len*f) .un) qs=some cs)
 (y:cs.all AV.one=true) (Z:len*f<=16777216) (a5:0<f) (hd:d<st.n) (X:K ⟨st.n,(d,.ow d)::dm d st.t,(d,some (.arr E f (chunk f len cs) true))::bx d h'⟩):SS P ⟨some d,.buildSlice t len parts,ty,pos,af,gd⟩ st K:=by
 intro B q e a w next Q h hn
 obtain⟨i,zv,n,V,W,h5,rfl,_,_⟩:=c_ ht;have Y:LR (VR (bT B q e st.h w) (some e)) (parts.toList.map λp=>st.ev p.2) (parts.toList.map λp=>a.eval p.2):=by
  refine⟨d5,λj c u y n=>?_⟩;rw[awp]at y n;obtain⟨x,R,rfl⟩:=awC.1 y;rw[R]at n;simp at n;subst n;exact h.ev x.2
 obtain⟨s,l,D⟩:=DU _ _ _ _ _ _ h.sr Y hl;have o:=h.cX l;obtain⟨p1,p2⟩:=DW _ _ _ _ hq D d5;obtain⟨H,a0,a6⟩:=mO (P:=P) w t E len (parts.map λ(i,x)=>(i,a.eval x)) i zv n V W Z;have a4:LR (VR (bT B q s h' w) none) (replicate (len*i.size) .un) H.toList:=by
  refine⟨by simp[a0],λj c u b hu=>?_⟩;rw[ayB]at b;split at b
  .simp at b;subst b;exact .un
  .cases b
 obtain⟨g,M,z⟩:=kU (place:=λj=>some (j*i.size,i.size)) qs _ _ cs H a4 p1 p2 L;have a8:(parts.toList.map (·.1)).zip (parts.toList.map λp=>a.eval p.2)=(parts.map λ(i,x)=>(i,a.eval x)).toList:=by
  rw[axP,List.zip_map']
 rw[a8]at M;have N:cs.length=len*i.size:=by
  have R:=z.1;have:∀(A:Do (Nat×Do AV)) (c r:Do AV),hQ (λj=>some (j*i.size,i.size)) c A=some r->r.length=c.length:=by
   intro A
   induction A with
   |nil=>intro c r m;simp only[hQ,av6]at m;rw[m]
   |cons p A ih=>
    intro c r m;obtain⟨k,xs⟩:=p;simp only[hQ]at m;split at m
    .rw[ih _ _ m,mM]
    .cases m
  rw[this _ _ _ L];simp
 obtain⟨G,S,k3⟩:=HY i.size len cs N;obtain⟨a7,I⟩:=o.sr.kill d;have a2:len<=maxLen:=by
  unfold maxLen;have:len*1<=len*i.size:=axZ _ a5;omega
 have a1:(chunk i.size len cs).flatten.length=g.toList.length:=by rw[G,z.1]
 have a3:LR (VR (bT B q s (bx d h') w) none) (chunk i.size len cs).flatten (g.toList.take (chunk i.size len cs).flatten.length):=by
  rw[a1,List.take_length,G];exact z.imp λ_ _ D=>D.mono I
 obtain⟨O,J⟩:=a7.Nj d E i.size len (rows:=chunk i.size len cs) (cur:=g) k3 (λc b=>by rw[G]at b;exact awt.1 y c b) a3 (by rw[S];exact av5 _) a2 (by have:=z.1;rw[N]at this;simpa using this) (eC d h') (by have:=h.n.2;omega) (w.alloc (.cells g E)) rfl (o.sr.ext.alloc _);rw[S]at O J;refine eO (v:=.slice (some ⟨w.heap.size,0,none⟩) len len) (w':=w.alloc (.cells g E)) ?_ (hn _ X _ _ _ ⟨by simpa[Act.put]using o.n,o.d,O,TR.put ?_ (by rw[o.n.1];exact hd) ?_⟩)
 .simp only[execOp,awi,a6 g M,awk,awm]
 .exact(((o.tr.kill d).mono I).mono J).env d (ef d st.t) (λ_ C=>Env.bE C) (λ_ C=>Env.dy C)
 .have:=VR.ow (Rd:=bT B q (s.cR d (some w.heap.size) (.slice (some ⟨w.heap.size,0,none⟩) len len) 0) ((d,some (.arr E i.size (chunk i.size len cs) true))::bx d h') (w.alloc (.cells g E))) (e:=s.cR d (some w.heap.size) (.slice (some ⟨w.heap.size,0,none⟩) len len) 0) (k:=d)
  rw[Env.dZ]at this;exact this
def RS.imp{o:Oper}(h:RS P o st s)(c:∀Rd E u,VR Rd E s u->VR Rd E R u):RS P o st R:=λj b e a w f=>by
 obtain⟨v,i,g⟩:=h j b e a w f;exact⟨v,c _ _ _ i,g⟩
def RS.U7{n a f:Nat}{i:Int}(l:arA P b=some (n,k,a))(r:st.ev e=.v (.int C i))(g:0<=i)(h:i<n)(p:st.ev c=.pt f 0):
 RS P ⟨dd,.indexAddr b c e,ty,pos,af,gd⟩ st (.pe f i.toNat a 0):=by
 refine RS.imp (RS.AM (q:=.pt f (0+i.toNat*a)) l r g h (by rw[p];rfl)) λRd k u m=>?_;cases m with
 |pt j=>
  have:=VR.pe (Rd:=Rd) (i:=i.toNat) (sz:=a) (o:=0) j;rw[axv]at this;rw[awB];exact this
def RS.anw{p m:jO}{n L I l h:Nat}(Q:arA P b=some (n,k,L))(R:st.ev c=.pt I 0)(B:ve st 0 p=some l)(z:ve st n m=some h)(V:l<=h)(W:h<=n)(X:n<=maxLen):
 RS P ⟨dd,.slice b c p m none,ty,pos,af,gd⟩ st (.sw I l (h - l) L):=λw0 U e a w x=>by
 obtain⟨S,v,M,rfl⟩:=xB Q;have C:=x.ev c;rw[R]at C;generalize r:a.eval c=u at C;cases C with
 | @pt e f o g E=>
  have j:P.elem b=k:=by simp[Program.elem,v]
  have i:P.arrayLen b=n:=by simp[Program.arrayLen,v]
  have t:P.underlying b=some (.array (P.arrayLen b) (P.elem b)):=by rw[j,i];exact v
  have O:(p=none/\l=0)\/∃f,p.map a.eval=some (.int f (l:Int)):=by
   cases p with
   |none=>simp[ve]at B;exact .inl ⟨rfl,B.symm⟩
   |some y=>obtain⟨f,A⟩:=AQ x B;exact .inr ⟨f,by simp[A]⟩
  have N:(m=none/\h=n)\/∃f,m.map a.eval=some (.int f (h:Int)):=by
   cases m with
   |none=>simp[ve]at z;exact .inl ⟨rfl,z.symm⟩
   |some y=>obtain⟨f,A⟩:=AQ x z;exact .inr ⟨f,by simp[A]⟩
  refine⟨slicedAt ⟨g,0,none⟩ l h n S.size,?_,λq Z=>?_⟩
  .unfold slicedAt
   by_cases D:n=l
   .rw[av3 D]
    exact VR.sw E (λY=>by omega) bv bv
   .rw[av2 D,awT,awB]
    exact VR.sw E (λ_=>rfl) bv bv
  .have s:=cT (P:=P) q M
   rcases O with⟨rfl,rfl⟩|⟨J,G⟩<;>rcases N with⟨rfl,rfl⟩|⟨H,F⟩
   .simp[execOp,r,aAQ q b ⟨g,0,none⟩ t,j,i,s]
   .simp only[execOp,r,ax2,F,aAR q b ⟨g,0,none⟩ t H h bv (by rw[i];omega),awi,j,s,i,awk,av9,awm]
   .simp only[execOp,r,ax2,G,aAS q b ⟨g,0,none⟩ t J l bv (by rw[i];omega),awi,j,s,i,awk,av9,awm]
   .simp only[execOp,r,ax2,G,F,aAT q b ⟨g,0,none⟩ t J H l h bv bv (by rw[i];omega),awi,j,s,i,awk,av9,awm]
end
variable{A:Int}
section
variable{P:Fd}{st:St}{d:Nat}{dd:cn}{ty:EQ}{pos:String}{af:dY}{gd:gg}{K:St->Prop}
def RS.makeFunc{c:Fn}{f b:gV}:RS P ⟨dd,.makeFunc c f b,ty,pos,af,gd⟩ st (.cl c (f.toList.map st.ev) (b.toList.map st.ev)):=λn l e a w h=>by
 refine⟨.func c (f.map a.eval) (b.map a.eval),?_,λm _=>by simp[execOp,Instr.makeFunc]⟩;have j:=h.args f;have k:=h.args b;have:=VR.cl (fn:=c) _ _ j.1 k.1 j.2 k.2;have i:∀g:gV,(g.toList.map a.eval).toArray=g.map a.eval:=λg=>by rw[<-axP]
 rw[i,i]at this;exact this
def nnA:AV->In
 |.pt _ _=>true
 |.pe _ _ _ _=>true
 |.fp _=>true
 |.cl (.func _) _ _=>true
 |_=>false
def RS.nilCheck(j:nnA (st.ev c)=true):RS P ⟨dd,.nilCheck c,ty,pos,af,gd⟩ st (st.ev c):=λy p e a w h=>by
 refine⟨a.eval c,h.ev c,λx _=>?_⟩;have i:=h.ev c;generalize st.ev c=b at j i;generalize g:a.eval c=u at i;cases i with
 |pt l=>simp[execOp,g]
 |pe l=>simp[execOp,g]
 |fp o n m s=>simp[execOp,g]
 | @cl _ k r q o z n v m t=>
  cases k with
  |func f=>simp[execOp,g]
  |_=>simp[nnA]at j
 |_=>simp[nnA]at j
def OR.anx{Rd:bL}(c:OR Rd L o m (.arr b 1 h true)):OR Rd L o m (.nr b h.flatten):=by
 obtain⟨r,w,s,t⟩:=c;have g:h.flatten.length=h.length:=by rw[eM r,axy]
 refine⟨s rfl,?_⟩;rcases t with⟨rfl,e,f⟩|⟨a,p,q,i,e,f,j,k,l,n,v⟩
 .exact .inl ⟨rfl,e,f⟩
 .exact .inr ⟨a,p,q,i,by rw[g];exact e,by rw[g];exact f,j,k,by rw[l,axy],n.imp λ_ _ u=>u.c9⟩
def vv(a:Do AV):(a.map λc=>[c]).flatten=a:=by
 induction a with
 |nil=>rfl
 |cons c a b=>simp[b]
def OR.aqh{Rd:bL}(h:OR Rd L o m (.nr b i))(y:∀c∈i,c.fz=true)(w:∀c∈i,c.one=true)(wr:In):OR Rd L o m (.arr b 1 (i.map λc=>[c]) wr):=by
 obtain⟨k,x⟩:=h;refine⟨λr z=>?_,by rw[vv];exact w,λ_=>k,?_⟩
 .obtain⟨c,_,rfl⟩:=awe.1 z
  rfl
 .rcases x with⟨rfl,e,f⟩|⟨a,t,v,n,e,f,p,q,s,g⟩
  .exact .inl ⟨rfl,e,f⟩
  .refine .inr ⟨a,t,v,n,by rw[awa];exact e,by rw[awa];exact f,p,q,by rw[s,axy],?_,by rw[k];exact awy _⟩
   rw[vv];exact⟨g.1,λj c u l A=>(g.2 j c u l A).HT (y c (awg l))⟩
def OR.atQ{Rd:bL}{g cs':Do AV}(e:cs'.length=g.length)(A:∀(j:Nat) c f,g[j]? =some c->cs'[j]? =some f->∀u,VR Rd (some L) c u->VR Rd (some L) f u)(h:OR Rd L o m (.nr b g)):OR Rd L o m (.nr b cs'):=by
 obtain⟨y,z⟩:=h;refine⟨y,?_⟩;rcases z with⟨rfl,i,k⟩|⟨a,w,x,r,i,k,s,t,v,l⟩
 .exact .inl ⟨aw6 e,i,k⟩
 .refine .inr ⟨a,w,x,r,by rw[e];exact i,by rw[e];exact k,s,t,v,⟨by rw[e];exact l.1,λj f u n q=>?_⟩⟩
  rw[e]at q;have p:j<g.length:=by rw[<-e];exact(av7.1 n).1
  exact A j _ f (awf p) n u (l.2 j _ u (awf p) q)
def RS.Xl{cs:Do AV}{l:Nat}
 (E:KF P b=some (k,1,m,F)) (G:st.ev c=.ow l) (y:bc st.h l=some (.nr k cs)) (H:st.ev e=.v (.int C A)) (p:0<=A) (n:A<cs.length):
 RS P ⟨dd,.indexAddr b c e,ty,pos,af,gd⟩ st (.pe l A.toNat 1 0):=λZ L f a w h=>by
 obtain⟨I,zv,q,r,N,O,s,_,_⟩:=c_ E;have j:=h.ev c;rw[G]at j;have i:=h.ev e;rw[H]at i;have i:=i.bS;obtain⟨_,B⟩:=h.sr.ob _ _ y;rcases B with⟨z,R,_⟩|⟨g,o,M,x,D,S,X,V,U,W⟩
 .subst z;simp at n;omega
 have v:a.eval c=.slice (some ⟨g,0,none⟩) cs.length o:=by
  generalize Q:a.eval c=u at j;cases j with
  |ow=>exact D
 refine⟨.pointer (some ⟨g,A.toNat*1+0,none⟩),.pe x,λJ Y=>?_⟩;have t:(⟨g,0,none⟩:Addr).add (A.toNat*I.size)=⟨g,A.toNat,none⟩:=by rw[s,awT,awB,axy]
 simp[execOp,Instr.indexAt,i,asIntOf,aww q,v,p,n,cT J r,t]
def SR.Nq(l:SR Y E L n o){c:Nat}(k:bc n m=some (.nr b i))(f:L.ca m=some c)(a:Nat)
 (W:VR (bT Y E L n o) (some L) s v):
 SR Y E (L.cR m (some c) (L.sv m) 0) ((m,some (.nr b (i.set a s)))::n) (o.setCell ⟨c,a,none⟩ v)/\
 ∀h w x,bT Y E L n o h w x->bT Y E (L.cR m (some c) (L.sv m) 0) ((m,some (.nr b (i.set a s)))::n) (o.setCell ⟨c,a,none⟩ v) h w x:=by
 obtain⟨N,U⟩:=l.ob _ _ k;have t:=l.base _ _ _ k f;rcases U with⟨Z,G,_⟩|⟨g,C,p,F,V,H,Q,J,I,A⟩
 .rw[G]at f;cases f
 obtain rfl:g=c:=av_ (F.symm.trans f);refine l.yk m (some g) (L.sv m) 0 _ (l.ext.setCell t.1 _) (.inr ⟨f.symm,rfl⟩) d5 (λh r R=>azV o _ _ _ (λM=>R _ k (by rw[f];exact awh some M.symm))) (λh r _=>?_) (λh w x ob ho r O X=>?_) (λRd y _ a0 S=>?_)
 .obtain rfl:=av_ r
  exact⟨t.1,by simp;exact t.2,.inl ⟨_,k,f⟩⟩
 .rw[N]at O;omega
 .obtain rfl:=av_ S
  have z:∀j,(L.cR m (some g) (L.sv m) 0).ca j=L.ca j:=λj=>by by_cases u:j=m<;>simp[Env.cR,u,f]
  have B:∀j,(L.cR m (some g) (L.sv m) 0).sv j=L.sv j:=λj=>by by_cases u:j=m<;>simp[Env.cR,u]
  refine⟨Env.cq,.inr ⟨g,C,p.setIfInBounds a v,Env.cc,by rw[Env.dZ,axf];exact V,by rw[axf];exact H,Q,azW o g a p b v J,by simpa using I,?_⟩⟩;rw[axf,ayR,azh];have q:LR (VR Rd (some (L.cR m (some g) (L.sv m) 0))) i (p.toList.take i.length):=⟨A.1,λe s v q D=>((A.2 e s v q D).mono y).jt rfl z B⟩;exact q.set a ((W.mono y).jt rfl z B)
def SS.Nq{t l:EQ}{x y:If}{k i:Nat}{n:Do AV}{c:AV}{D:In}(Y:st.ev x=.pe k i 1 0)(r:bc st.h k=some (.nr l n))(ht:UW P t=some (D,1))(O:cellsOf (st.ev y)=some [c])
 (E:c.one=true) (W:q8 st.h (st.ev y)=true) (X:q8 st.h c=true) (hi:i<n.length) (G:K ⟨st.n,st.t,(k,some (.nr l (n.set i c)))::st.h⟩):
 SS P ⟨none,.store t x y,ty,pos,af,gd⟩ st K:=by
 intro w0 C e a w next Q h V
 obtain⟨B,hu,s⟩:=sd O (h.ev y) (h.q8 W);have p:=h.ev x;rw[Y]at p;generalize J:a.eval x=u at p;cases p with
 | @pe _ _ _ _ _ b g=>
  obtain⟨td,ad,h2,F,_,a2⟩:=jg ht;obtain⟨v,rfl⟩:∃v,B=[v]:=by
   match B,s.1 with
   |[v],_=>exact⟨v,rfl⟩
  have A:VR (bT w0 C e st.h w) (some e) c v:=s.2 0 c v rfl rfl;have ab:v.oneCell'=true:=A.kT E λe' k' R S=>by cases R;exact h.q8 X k' S
  obtain⟨hs,H⟩:=h.sr.Nq r g i A;obtain⟨a8,Z⟩:=h.sr.ob _ _ r;rcases Z with⟨aa,N,_⟩|⟨f,a3,m,L,ac,a4,hm,q,a6,a9⟩
  .rw[N]at g;cases g
  obtain rfl:=av_ (L.symm.trans g);have M:∀j,(e.cR k (some f) (e.sv k) 0).ca j=e.ca j:=λj=>by by_cases o:j=k<;>simp[Env.cR,o,g]
  have a0:∀j,(e.cR k (some f) (e.sv k) 0).sv j=e.sv j:=λj=>by by_cases o:j=k<;>simp[Env.cR,o]
  refine xC (w':=w.setCell ⟨f,i,none⟩ v) ?_ (V _ G _ _ _ ⟨h.n,h.d,hs,(h.tr.mono H).jt M a0⟩);have U:i<m.size:=bv
  have a5:w.cell? ⟨f,i,none⟩=some m[i]:=by
   rw[aw8 w f i m l (0,0) q];simp[U]
  have a7:=ayA w f i m l q;have a1:(store ⟨f,i,none⟩ v).run P w=.ok () (w.setCell ⟨f,i,none⟩ v):=by
   cases v<;>simp_all[store,Sem.run,Value.oneCell']
  have I:(⟨f,i*1+0,none⟩:Addr).add 0=⟨f,i,none⟩:=by rw[awT];simp
  have z:(storeCells ⟨f,i*1+0,none⟩ [v] 0).run P w=.ok () (w.setCell ⟨f,i,none⟩ v):=by
   simp only[storeCells,awi,I,a1,awk,awm]
  simp only[axy,axv]at z;simp[execOp,Instr.storeAt,Instr.sureAddr,J,storeVar,hu,cT w F,<-a2,z]
end
variable{O:Do (Do AV)}{d:Nat}
inductive Sc where
 |i (k:IntKind)
 |b
 |sl (r:Sc)
 |pr (x y:Sc)
 |u
@[reducible] def Sc.dp:Sc->Type
 |.i _=>Int
 |.b=>In
 |.sl r=>Do r.dp
 |.pr x y=>x.dp×y.dp
 |.u=>Unit
def Sc.w:Sc->Nat
 |.pr x y=>x.w+y.w
 |.u=>0
 |.i _=>1
 |.b=>1
 |.sl _=>1
def Sc.eqP:(a c:Sc)->At (PLift (a=c))
 |.i k,.i l=>if h:k=l then some ⟨by rw[h]⟩else none
 |.b,.b=>some ⟨rfl⟩
 |.sl r,.sl s=>match Sc.eqP r s with
  |some ⟨h⟩=>some ⟨by rw[h]⟩
  |none=>none
 |.pr x y,.pr z w=>match Sc.eqP x z with
  |some ⟨h⟩=>match Sc.eqP y w with
   |some ⟨g⟩=>some ⟨by rw[h,g]⟩
   |none=>none
  |none=>none
 |.u,.u=>some ⟨rfl⟩
 |_,_=>none
def eT(a c:Sc)(x:a.dp):At c.dp:=match Sc.eqP a c with
 |some ⟨h⟩=>some (h▸x)
 |none=>none
def dC{a c:Sc}{x:a.dp}{y:c.dp}(h:eT a c x=some y):∃e:a=c,y=e▸x:=by
 unfold eT at h;split at h
 next e _=>cases h;exact⟨e,rfl⟩
 .cases h
def bM:(s:Sc)->s.dp->Do AV
 |.i k,x=>[.v (.int k x)]
 |.b,x=>[.v (.bool x)]
 |.sl r,a=>[.sl false r.w (List.map (bM r) a)]
 |.pr x y,p=>bM x p.1++bM y p.2
 |.u,_=>[]
def encS:(s:Sc)->s.dp->AV
 |.i k,x=>.v (.int k x)
 |.b,x=>.v (.bool x)
 |.sl r,a=>.sl false r.w (List.map (bM r) a)
 |.pr _ _,_=>.un
 |.u,_=>.un
def fy:∀(s:Sc) (x:s.dp),(bM s x).length=s.w
 |.i _,_=>rfl
 |.b,_=>rfl
 |.sl _,_=>rfl
 |.pr x y,p=>by rw[bM,awl,fy x,fy y];rfl
 |.u,_=>rfl
def rh:∀(s:Sc) (x:s.dp),∀c∈bM s x,c.one=true
 |.i _,_,c,h=>by simp only[bM,awq]at h;subst h;rfl
 |.b,_,c,h=>by simp only[bM,awq]at h;subst h;rfl
 |.sl _,_,c,h=>by simp only[bM,awq]at h;subst h;rfl
 |.pr x y,p,c,h=>by
  simp only[bM,awc]at h;exact h.elim (rh x _ c) (rh y _ c)
 |.u,_,c,h=>by simp[bM]at h
def Nr:∀(s:Sc) (x:s.dp),∀c∈bM s x,c.fz=true
 |.i _,_,c,h=>by simp only[bM,awq]at h;subst h;rfl
 |.b,_,c,h=>by simp only[bM,awq]at h;subst h;rfl
 |.sl _,_,c,h=>by simp only[bM,awq]at h;subst h;rfl
 |.pr x y,p,c,h=>by
  simp only[bM,awc]at h;exact h.elim (Nr x _ c) (Nr y _ c)
 |.u,_,c,h=>by simp[bM]at h
inductive EV where
 |un
 |sc (s:Sc) (x:s.dp)
 |nil
 |ts (r:Sc) (xs:List r.dp)
 |v (x:Value)
 |ow (k:Nat)
 |pt (k o:Nat)
 |pe (k:Nat) (i:Int) (sz o:Nat)
 |sw (k:Nat) (l n:Int) (sz:Nat)
 |mp (k:Nat)
 |fp (cs:List EV)
 |ag (cs:List EV)
 |tu (cs:List EV)
 |cl (fn:Fn) (fs cs:List EV)
mutual
def enc:EV->AV
 |.un=>.un
 |.sc s x=>encS s x
 |.nil=>.sl true 0 []
 |.ts r e=>.sl true r.w (List.map (bM r) e)
 |.v x=>.v x
 |.ow k=>.ow k
 |.pt k o=>.pt k o
 |.pe k i b o=>.pe k i.toNat b o
 |.sw k l n b=>.sw k l.toNat n.toNat b
 |.mp k=>.mp k
 |.fp a=>.fp (cw a)
 |.ag a=>.ag (cw a)
 |.tu a=>.tu (cw a)
 |.cl c d a=>.cl c (cw d) (cw a)
def cw:Do EV->Do AV
 |[]=>[]
 |c::a=>enc c::cw a
end
def ei:∀a:Do EV,cw a=a.map enc
 |[]=>rfl
 |c::a=>by rw[cw,ei a];rfl
def mn(a ds:Do EV):cw (a++ds)=cw a++cw ds:=by rw[ei,ei,ei,awQ]
def gh(a:Do EV):(cw a).length=a.length:=by rw[ei,awa]
def vw:(s:Sc)->s.dp->Do EV
 |.i k,x=>[.sc (.i k) x]
 |.b,x=>[.sc .b x]
 |.sl r,a=>[.sc (.sl r) a]
 |.pr x y,p=>vw x p.1++vw y p.2
 |.u,_=>[]
def hY:∀(s:Sc) (x:s.dp),cw (vw s x)=bM s x
 |.i _,_=>rfl
 |.b,_=>rfl
 |.sl _,_=>rfl
 |.pr x y,p=>by rw[vw,mn,hY x,hY y];rfl
 |.u,_=>rfl
def kg:(s:Sc)->s.dp->EV
 |.pr x y,p=>.ag (vw (.pr x y) p)
 |.u,p=>.ag []
 |.i k,x=>.sc (.i k) x
 |.b,x=>.sc .b x
 |.sl r,x=>.sc (.sl r) x
def Wk(c a:AV):Prop:=∀(Rd:bL) E u,VR Rd E c u->VR Rd E a u
def Wk.refl(c:AV):Wk c c:=λ_ _ _ h=>h
inductive qv:List AV->List AV->Prop
 |nil:qv [] []
 |cons {c c':AV} {cs cs':List AV} (h:Wk c c') (hs:qv cs cs'):qv (c::cs) (c'::cs')
def qv.refl:∀a:Do AV,qv a a
 |[]=>.nil
 |c::a=>.cons (Wk.refl c) (qv.refl a)
def qv.append{a c d e:Do AV}(h:qv a c)(k:qv d e):qv (a++d) (c++e):=by
 induction h with
 |nil=>exact k
 |cons h f b=>exact .cons h b
def qv.len(h:qv i u):u.length=i.length:=by
 induction h with
 |nil=>rfl
 |cons _ _ a=>simp[a]
def qv.get{a c:Do AV}(h:qv a c):∀(j:Nat) x,a[j]? =some x->∃y,c[j]? =some y/\Wk x y:=by
 induction h with
 |nil=>intro j x b;simp at b
 |cons h e d=>
  intro j x b;cases j with
  |zero=>simp at b;subst b;exact⟨_,rfl,h⟩
  |succ j=>exact d j x (by simpa using b)
def qv.lr(h:qv i u){Rd:bL}(c:LR (VR Rd X) i F):LR (VR Rd X) u F:=by
 refine⟨by rw[c.1,h.len],λj y a d f=>?_⟩;have b:j<i.length:=by
  have:=(av7.1 d).1;rw[h.len]at this;exact this
 obtain⟨k,e,g⟩:=h.get j _ (awf b);rw[d]at e;cases e;exact g _ _ _ (c.2 j _ a (awf b) f)
def Wk.tight:Wk (.sl true d h) (.sl false d h):=by
 intro Rd E u a;cases a with
 |sl k j c i g b e l f=>exact .sl k j c i g b e d5 f
def Wk.empty(h:D=false):Wk (.sl true d []) (.sl D m []):=by
 intro Rd E u h;cases h with
 |sl g k i f e a b j c=>exact .sl g d5 d5 f e a b (by simp[*]) c
def Wk.U8:Wk (.sl D d []) (.sl D m []):=by
 intro Rd E u h;cases h with
 |sl i k j g f a b c e=>exact .sl i d5 d5 g f a b c e
def Wk.ag{a b:Do AV}(h:qv a b):Wk (.ag a) (.ag b):=by
 intro Rd E u d;obtain⟨e,rfl,c⟩:=VR.fI d;have:=h.lr c;exact .ag e this.1 this.2
def Wk.tu{a b:Do AV}(h:qv a b):Wk (.tu a) (.tu b):=by
 intro Rd E u d;obtain⟨e,rfl,c⟩:=VR.HM d;have:=h.lr c;exact .tu e this.1 this.2
def Wk.clM{c:Fn}{d e a b:Do AV}(h:qv d e)(k:qv a b):Wk (.cl c d a) (.cl c e b):=by
 intro Rd E u n;cases n with
 |cl o p l m i j=>
  have f:=h.lr ⟨l,i⟩;have g:=k.lr ⟨m,j⟩;exact .cl o p f.1 g.1 f.2 g.2
inductive sA:List (List AV)->List (List AV)->Prop
 |nil:sA [] []
 |cons {r r':List AV} {rs rs':List (List AV)} (h:qv r r') (hs:sA rs rs'):sA (r::rs) (r'::rs')
def sA.flat(a:sA h O):qv h.flatten O.flatten:=by
 induction a with
 |nil=>exact .nil
 |cons a c b=>simpa using a.append b
def sA.len(a:sA h O):O.length=h.length:=by
 induction a with
 |nil=>rfl
 |cons _ _ b=>simp[b]
def sA.wid(a:sA h O)(c:∀r∈h,r.length=d):∀r∈O,r.length=d:=by
 induction a with
 |nil=>simp
 |cons a g f=>
  intro r b;rcases awr.1 b with rfl|b
  .rw[a.len];exact c _ d5
  .exact f (λx e=>c x (by simp[e])) r b
def sA.refl:∀a:Do (Do AV),sA a a
 |[]=>.nil
 |c::a=>.cons (qv.refl c) (sA.refl a)
def Wk.rows(a:sA h O)(g:∀x∈O.flatten,x.one=true):Wk (.sl D d h) (.sl D d O):=by
 intro Rd E u m;cases m with
 |sl b n o k j c e f i=>
  have l:LR (VR Rd none) h.flatten b:=⟨k,j⟩;have:=a.flat.lr l;rw[<-a.len];exact .sl b (a.wid n) g this.1 this.2 (by rw[a.len];exact c) e (by rw[a.len];exact f) i
def Lp(s:Sc):EV->At s.dp
 |.sc a x=>eT a s x
 |.nil=>match s with
  |.sl r=>some (show Do r.dp from [])
  |_=>none
 |.ts r b=>eT (.sl r) s b
 |_=>none
def U9{s:Sc}{c:EV}{x:s.dp}(h:Lp s c=some x):Wk (enc c) (encS s x):=by
 cases c with
 |sc b y=>
  obtain⟨rfl,rfl⟩:=dC h;exact Wk.refl _
 |nil=>
  cases s with
  |sl r=>
   have a:x=(show Do r.dp from []):=(av_ h).symm;rw[a];exact Wk.empty rfl
  |_=>simp[Lp]at h
 |ts r d=>
  obtain⟨rfl,rfl⟩:=dC h;exact Wk.tight
 |_=>simp[Lp]at h
variable{y:EV}{I:Sc}{B V:a_}
def dv:(s:Sc)->s.dp->bI
 |.i k,x=>[.int k x]
 |.b,x=>[.bool x]
 |.sl _,_=>[undef]
 |.pr x y,p=>dv x p.1++dv y p.2
 |.u,_=>[]
def sB:(s:Sc)->s.dp->Id
 |.i k,x=>.int k x
 |.b,x=>.bool x
 |.sl _,_=>undef
 |.pr x y,p=>.agg (dv (.pr x y) p).toArray
 |.u,p=>.agg (dv .u p).toArray
def Sc.key:Sc->In
 |.i _=>true
 |.b=>true
 |.sl _=>false
 |.pr x y=>x.key && y.key
 |.u=>true
def jE:(s:Sc)->s.dp->s.dp->In
 |.i _,x,y=> @decide (@Eq Int x y) (Int.instDecidableEq x y)
 |.b,x,y=> @BEq.beq In _ x y
 |.sl _,_,_=>false
 |.pr a c,x,y=>jE a x.1 y.1 && jE c x.2 y.2
 |.u,_,_=>true
def fT:∀(s:Sc) (x y:s.dp),s.key=true->(jE s x y=true↔x=y)
 |.i _,x,y,_=>by simp[jE]
 |.b,x,y,_=>by simp[jE]
 |.sl _,x,y,h=>by simp[Sc.key]at h
 |.pr a c,x,y,h=>by
  simp only[Sc.key,av4]at h;obtain⟨b,d⟩:=x;obtain⟨f,g⟩:=y;simp only[jE,av4,fT a _ _ h.1,fT c _ _ h.2];constructor
  .rintro⟨rfl,rfl⟩;rfl
  .intro e;cases e;exact⟨rfl,rfl⟩
 |.u,x,y,_=>by simp[jE]
def D3:∀(s:Sc) (x y:s.dp),(dv s x).length=(dv s y).length
 |.i _,_,_=>rfl
 |.b,_,_=>rfl
 |.sl _,_,_=>rfl
 |.pr a c,x,y=>by simp[dv,D3 a x.1 y.1,D3 c x.2 y.2]
 |.u,_,_=>rfl
def D4:∀(s:Sc) (x y:s.dp),s.key=true->dv s x=dv s y->x=y
 |.i _,x,y,_,h=>by simp[dv]at h;exact h
 |.b,x,y,_,h=>by simp[dv]at h;exact h
 |.sl _,_,_,h,_=>by simp[Sc.key]at h
 |.pr a c,x,y,h,e=>by
  simp only[Sc.key,av4]at h;simp only[dv]at e;obtain⟨b,d⟩:=List.append_inj e (D3 a _ _);exact axz (D4 a _ _ h.1 b) (D4 c _ _ h.2 d)
 |.u,_,_,_,_=>rfl
def H9(s:Sc)(x y:s.dp)(h:s.key=true)(e:sB s x=sB s y):x=y:=by
 cases s with
 |i k=>simp[sB]at e;exact e
 |b=>simp[sB]at e;exact e
 |sl r=>simp[Sc.key]at h
 |pr a c=>
  simp only[sB,Value.agg.injEq]at e;exact D4 _ _ _ h (by simpa using e)
 |u=>rfl
def bN(s:Sc){β:Type}:Do (s.dp×β)->s.dp->At β
 |[],_=>none
 |p::a,x=>cond (jE s p.1 x) (some p.2) (bN s a x)
def d_(s:Sc){β:Type}:Do (s.dp×β)->s.dp->β->Do (s.dp×β)
 |[],x,v=>[(x,v)]
 |p::a,x,v=>cond (jE s p.1 x) ((p.1,v)::a) (p::d_ s a x v)
def o0(a b:Sc)(c:Do (a.dp×b.dp)):Do (Id×AV):=c.map λp=>(sB a p.1,enc (kg b p.2))
def ri{a d:Sc}(c:a.key=true):∀(b:Do (a.dp×d.dp)) (x:a.dp),fM (o0 a d b) (sB a x)=(bN a b x).map λv=>enc (kg d v)
 |[],_=>rfl
 |p::b,x=>by
  rw[o0,awo,fM,bN];by_cases h:p.1=x
  .rw[av3 (by rw[h]),(fT a _ _ c).2 h];rfl
  .rw[av2 (λe=>h (H9 a _ _ c e))]
   have:jE a p.1 x=false:=by
    cases f:jE a p.1 x with
    |false=>rfl
    |true=>exact absurd ((fT a _ _ c).1 f) h
   rw[this];exact ri c b x
def U_(g:I.key=true)(z:a)(b c:I.dp):∀d:Do (I.dp×a),(bN I (d_ I d c ((bN I d c).getD z)) b).getD z=(bN I d b).getD z:=by
 have i:∀{x y:I.dp},x≠y->jE I x y=false:=λ{x y} h=>by
  cases j:jE I x y with
  |false=>rfl
  |true=>exact absurd ((fT I _ _ g).1 j) h
 have l:∀(v:a) (d:Do (I.dp×a)),v=(bN I d c).getD z->(bN I (d_ I d c v) b).getD z=(bN I d b).getD z:=by
  intro v d
  induction d with
  |nil=>
   intro e;simp only[d_,bN];by_cases h:c=b
   .rw[(fT I _ _ g).2 h,e];rfl
   .rw[i h];rfl
  |cons p d k=>
   intro e;simp only[bN]at e;simp only[d_];by_cases h:p.1=c
   .rw[(fT I _ _ g).2 h]at e⊢
    simp only[awv,bN]at e⊢;by_cases f:p.1=b
    .rw[(fT I _ _ g).2 f,e];rfl
    .rw[i f];rfl
   .rw[i h]at e⊢
    simp only[av8,bN]at e⊢;by_cases f:p.1=b
    .rw[(fT I _ _ g).2 f];rfl
    .rw[i f];exact k e
 exactλd=>l _ d rfl
def H_{a b:Sc}(d:a.key=true):∀(c:Do (a.dp×b.dp)) (x:a.dp) (v:b.dp),qu (o0 a b c) (sB a x) (enc (kg b v))=o0 a b (d_ a c x v)
 |[],_,_=>rfl
 |p::c,x,v=>by
  rw[o0,awo,qu,d_];by_cases h:p.1=x
  .rw[av3 (by rw[h]),(fT a _ _ d).2 h];rfl
  .rw[av2 (λe=>h (H9 a _ _ d e))]
   have:jE a p.1 x=false:=by
    cases g:jE a p.1 x with
    |false=>rfl
    |true=>exact absurd ((fT a _ _ d).1 g) h
   rw[this];have f:=H_ d c x v;rw[o0]at f;rw[f];rfl
inductive eD where
 |box (t:TypeId) (cs:List EV)
 |arr (t:TypeId) (r:Sc) (xs:List r.dp) (wr:Bool)
 |mp (d:TypeDesc) (kc vc:Sc) (es:List (kc.dp×vc.dp))
 |nr (t:TypeId) (r:Sc) (xs:List (List r.dp)) (ho:Ni)
 |qr (t:TypeId) (ho:cn) (sz:Nat) (xs:aX)
def nrA(r:Sc):Do r.dp->AV
 |[]=>.sl true 0 []
 |x::l=>.sl false r.w (List.map (bM r) (x::l))
def nrH:cn->AV
 |some j=>.ow j
 |none=>.un
def zO(r:Sc)(a:Do (Do r.dp)):Ni->Do AV
 |none=>a.map (nrA r)
 |some (i,p)=>(a.map (nrA r)).set i.toNat (nrH p)
def qrA(a:Nat):cn->Int->AV
 |some k,i=>.pe k i.toNat a 0
 |none,_=>.un
abbrev fv:=Do (Nat×At eD)
def cA:eD->Ob
 |.box t c=>.box t (cw c)
 |.arr t r a wr=>.arr t r.w (List.map (bM r) a) wr
 |.mp d f h e=>.mp d (o0 f h e)
 |.nr t r a b=>.nr t (zO r a b)
 |.qr t b g a=>.nr t (a.map (qrA g b))
def bF:fv->Hp
 |[]=>[]
 |(k,o)::h=>(k,o.map cA)::bF h
def hP:Do (Nat×EV)->Do (Nat×AV)
 |[]=>[]
 |(i,c)::t=>(i,enc c)::hP t
def dj:Do (Nat×EV)->Nat->EV
 |[],_=>.un
 |(j,c)::t,i=>cond (beq i j) c (dj t i)
def bH:fv->Nat->At eD
 |[],_=>none
 |(j,o)::t,i=>cond (beq i j) o (bH t i)
def jF(h:¬d=m):beq d m=false:=by
 cases a:beq d m with
 |false=>rfl
 |true=>exact absurd (awb a) h
def cU:∀(t:Do (Nat×EV)) (i:Nat),bO (hP t) i=enc (dj t i)
 |[],_=>rfl
 |(j,c)::t,i=>by
  simp only[hP,bO,dj];by_cases h:i=j
  .rw[av3 h,h,awD];rfl
  .rw[av2 h,(jF h),cU t i];rfl
def dw:∀(t:fv) (i:Nat),bc (bF t) i=(bH t i).map cA
 |[],_=>rfl
 |(j,c)::t,i=>by
  simp only[bF,bc,bH];by_cases h:i=j
  .rw[av3 h,h,awD];rfl
  .rw[av2 h,(jF h),dw t i];rfl
def gi:∀a c:fv,bF (a++c)=bF a++bF c
 |[],c=>rfl
 |(k,o)::a,c=>by rw[axh,bF,gi a c];rfl
def HC(b:Nat->At eD)(c:a_)(h:Hp):Prop:=
 ∀k,c.contains k=true->∀t r a wr,b k=some (.arr t r a wr)->∃d,bc h k=some (.arr t r.w (List.map (bM r) a) d)
def Gs(b:Nat->At eD)(c:fv):Prop:=∀k o,(k,o)∈c->∃t r a wr,b k=some (.arr t r a wr)/\o=some (.arr t r a false)
def Lq:∀{a:fv} {k:Nat},a.any (λp=>p.1==k)=true->∃o,(k,o)∈a/\bc (bF a) k=o.map cA
 |[],k,h=>by simp at h
 |(j,o)::a,k,h=>by
  by_cases b:k=j
  .subst b;exact⟨o,d5,by simp[bF,bc]⟩
  .simp only[axY,aw2]at h
   rcases h with h|h
   .exact absurd (by simpa using h) (λe:j=k=>b e.symm)
   .obtain⟨f,c,d⟩:=Lq h
    exact⟨f,aw5 _ c,by rw[bF,bc,av2 b];exact d⟩
def GO(a:fv)(k:Nat):(bF a).any (λp=>p.1==k)=a.any (λp=>p.1==k):=by
 induction a with
 |nil=>rfl
 |cons p a b=>obtain⟨j,o⟩:=p;simp only[bF,axY,b]
def HC.put{a:Nat->At eD}{h:Hp}{d:fv}(i:HC a B h)(m:Gs a d)(n:∀k,V.contains k=true->B.contains k=true):HC a V (bF d++h):=by
 intro k j t r p wr c;rw[eP,GO];split
 next f=>obtain⟨o,l,g⟩:=Lq f;obtain⟨s,q,u,wr2,b,e⟩:=m _ _ l;rw[c]at b;cases b;subst e;exact⟨false,g⟩
 .exact i k (n k j) t r p wr c
def pa(b:Nat->At eD)(s:Sc):EV->At (s.dp×fv×a_)
 |.ow k=>match b k with
  |some (.arr t r a wr)=>match eT (.sl r) s a with
   |some y=>some (y,[(k,some (.arr t r a false))],[k])
   |none=>none
  |_=>none
 |c=>match Lp s c with
  |some y=>some (y,[],[])
  |none=>none
def akd(s:Sc)(x:s.dp):(encS s x).fz=true:=by
 cases s<;>rfl
def aeu{x:I.dp}(h:Lp I y=some x):(enc y).fz=true:=by
 cases y with
 |sc b a=>exact akd _ _
 |nil=>rfl
 |ts r c=>rfl
 |_=>simp[Lp]at h
def Ia(a:s.fz=true):iQ n s=some (n,s):=by
 cases s<;>first|(simp[AV.fz]at a;done)|(simp only[iQ,a,awG])
def Ns{r:Hp×AV}(a:iQ n s=some r):kV n s=some r:=by
 cases s<;>first|(simp[iQ,AV.fz]at a;done)|(rw[kV];exact a;intro b n;cases n)
def aev{e:Nat->At eD}{h:Hp}{x:I.dp}{f:fv}(b:pa e I y=some (x,f,B))(j:HC e V h)(l:∀k,B.contains k=true->V.contains k=true):
 (∃g,iQ h (enc y)=some (bF f++h,g)/\Wk g (encS I x))/\Gs e f:=by
 unfold pa at b;split at b
 next k=>
  split at b
  next t r q wr i=>
   split at b
   next a d=>
    simp only[av6,awn]at b;obtain⟨rfl,rfl,rfl⟩:=b;obtain⟨rfl,rfl⟩:=dC d;obtain⟨p,m⟩:=j k (l k d5) t r _ wr i;refine⟨⟨.sl false r.w (List.map (bM r) _),?_,Wk.refl _⟩,?_⟩
    .simp only[enc,iQ,m];rfl
    .intro n o c
     simp only[awq,awn]at c;obtain⟨rfl,rfl⟩:=c;exact⟨t,r,_,wr,i,rfl⟩
   .cases b
  .cases b
 .split at b
  next a d=>simp only[av6,awn]at b;obtain⟨rfl,rfl,rfl⟩:=b;exact⟨⟨_,Ia (aeu d),U9 d⟩,λk o c=>by cases c⟩
  .cases b
def ju(e:Nat->At eD):(s:Sc)->Do EV->At (s.dp×Do EV×fv×a_)
 |.pr x y,d=>match ju e x d with
  |some (a,h,os1,l)=>match ju e y h with
   |some (b,i,j,us2)=>some ((a,b),i,j++os1,l++us2)
   |none=>none
  |none=>none
 |.u,d=>some ((),d,[],[])
 |.i k,c::d=>match pa e (.i k) c with
  |some (a,f,g)=>some (a,d,f,g)
  |none=>none
 |.b,c::d=>match pa e .b c with
  |some (a,f,g)=>some (a,d,f,g)
  |none=>none
 |.sl r,c::d=>match pa e (.sl r) c with
  |some (a,f,g)=>some (a,d,f,g)
  |none=>none
 |_,[]=>none
def KV{h f g:Hp}{d ds e ds1:Do AV}(a:jD h d=some (f,e))(b:jD f ds=some (g,ds1)):jD h (d++ds)=some (g,e++ds1):=by
 induction d generalizing h e with
 |nil=>simp only[jD,av6,awn]at a;obtain⟨rfl,rfl⟩:=a;simpa using b
 |cons c d k=>
  simp only[jD]at a;split at a
  next n l i=>
   split at a
   next o m j=>simp only[av6,awn]at a;obtain⟨rfl,rfl⟩:=a;rw[axh,jD,i];simp only[k j,axh]
   .cases a
  .cases a
def zP{h b:Hp}(a:iQ h s=some (b,R)):jD h [s]=some (b,[R]):=by
 simp only[jD,a]
def rj(b:Nat->At eD)(s:Sc):EV->At (s.dp×fv×a_)
 |.ag f=>match s with
  |.pr x y=>match ju b (.pr x y) f with
   |some (a,[],d,e)=>some (a,d,e)
   |_=>none
  |.u=>match ju b .u f with
   |some (a,[],d,e)=>some (a,d,e)
   |_=>none
  |_=>none
 |c=>match s with
  |.pr _ _=>none
  |.u=>none
  |.i k=>pa b (.i k) c
  |.b=>pa b .b c
  |.sl r=>pa b (.sl r) c
variable{S:Int}{t:St}{H:String}{K:jQ}{J:dY}{N:gg}
structure bz where
 ty:Option (Bool×Nat):=none
 el:Option (TypeId×Nat×Nat×bI):=none
 lH:Bool:=false
 bo:Bool:=false
 ar:Option (Nat×TypeId×Nat):=none
 fd:List (Nat×Bool×Nat):=[]
 pl:Option (bI×bu):=none
 ze:Option bI:=none
 mp:Option (TypeDesc×Value):=none
 co:Option Sc:=none
 kv:Option (Sc×Sc):=none
 ik:Option IntKind:=none
 eq:Option Sc:=none
 sg:Bool:=false
 nf:Bool:=false
 zv:Option Value:=none
def aew(P:Fd)(t:EQ)(s:Sc):Prop:=s.key=true/\∀(x y:s.dp) (w:GE),(Op.equal t (.agg (dv s x).toArray) (.agg (dv s y).toArray)).run P w=.ok (jE s x y) w/\
 ∀c a b,(eqGuard c t a b (.agg (dv s x).toArray) (.agg (dv s y).toArray)).run P w=.ok () w
def zvT(P:Fd)(t:EQ):At Id:=(P.info? t).bind λi=>i.zero
structure hS(P:Program)(T:TypeId->bz):Prop where
 ty:∀t x,(T t).ty=some x->UW P t=some x
 el:∀t x,(T t).el=some x->KF P t=some x
 lH:∀t,(T t).lH=true->lH P t=true
 bo:∀t,(T t).bo=true->P.underlying t=some .bool
 ar:∀t x,(T t).ar=some x->arA P t=some x
 fd:∀t f x,(T t).fd[f]? =some x->fdA P t f=some x
 pl:∀t z l,(T t).pl=some (z,l)->∃f,plA P t=some (z,f)/\∀(i:Nat) p,l[i]? =some p->f i=some p
 ze:∀t x,(T t).ze=some x->Fc P t=some x
 mp:∀t x,(T t).mp=some x->mapA P t=some x
 ik:∀t k,(T t).ik=some k->P.underlying t=some (.int k)
 eq:∀t s,(T t).eq=some s->aew P t s
 sg:∀t,(T t).sg=true->P.underlying t=some .string
 nf:∀t,(T t).nf=true->∃ms,P.underlying t=some (.interface ms)
 zv:∀t x,(T t).zv=some x->zvT P t=some x
def aW{α β:Type}(o:At α)(f:α->At β):At β:=match o with
 |some x=>f x
 |none=>none
def bp{α β:Type}{o:At α}{f:α->At β}{y:β}(h:aW o f=some y):∃x,o=some x/\f x=some y:=by
 cases o with
 |none=>cases h
 |some x=>exact⟨x,rfl,h⟩
def bR{x y:At a}{r:a}(h:cond D x y=some r):(D=true/\x=some r)\/(D=false/\y=some r):=by
 cases D with
 |true=>exact .inl ⟨rfl,h⟩
 |false=>exact .inr ⟨rfl,h⟩
def aY{x:At a}{r:a}(h:cond D x none=some r):D=true/\x=some r:=by
 cases D with
 |true=>exact⟨rfl,h⟩
 |false=>cases h
def cvE:Id->EV
 |.int k x=>.sc (.i k) x
 |.bool x=>.sc .b x
 |.slice none 0 0=>.nil
 |x=>.v x
def Xm(v:Id):enc (cvE v)=na v:=by
 unfold cvE;split
 .rfl
 .rfl
 .rfl
 next b c a=>
  unfold na;split
  .exact absurd rfl (a)
  .rfl
def Qg(z:bI):cw (z.map cvE)=z.map na:=by
 rw[ei,axe];exact aw3 λv _=>Xm v
def e7(ev:Nat->EV):If->EV
 |.tmp i=>ev i
 |.const v=>cvE v
 |.global _=>.un
 |.func f=>.v (.func (.func f) #[] #[])
def Sk(ev:Nat->EV)(a:St):Prop:=∀i,ev i=.un\/bO a.t i=enc (ev i)
def Sk.x{ev:Nat->EV}{a:St}(h:Sk ev a)(x:If):e7 ev x=.un\/a.ev x=enc (e7 ev x):=by
 cases x with
 |tmp i=>exact h i
 |const v=>exact .inr (Xm v).symm
 |global g=>exact .inl rfl
 |func f=>exact .inr rfl
def Sk.is{ev:Nat->EV}(h:Sk ev t){x:If}(a:e7 ev x=y)(b:y≠.un):t.ev x=enc y:=by
 rcases h.x x with h|h
 .exact absurd (a.symm.trans h) b
 .rw[h,a]
def Hk(hg:Nat->At eD)(b:a_)(a:St):Prop:=∀k,b.contains k=true->bc a.h k=(hg k).map cA
def Hk.at{hg:Nat->At eD}(h:Hk hg B t)(a:B.contains d=true){o:eD}(b:hg d=some o):bc t.h d=some (cA o):=by rw[h d a,b];rfl
def Hk.hc{hg:Nat->At eD}(h:Hk hg B t):HC hg B t.h:=λk b a r d wr c=>⟨wr,h.at b c⟩
inductive Fr where
 |no
 |one (d:Nat)
 |ca (B:Nat)
def Fr.p:Fr->Nat->In
 |.no=>ffB
 |.one d=>λk=>k==d
 |.ca B=>oY B
structure vx(fr:Fr)(st:St):Prop where
 t:∀x,(bO st.t x).hL fr.p=true
 h:∀k ob,bc st.h k=some ob->ob.hL fr.p=true
 k:∀k,fr.p k=true->bc st.h k=none
def FS(P:Fd)(o:Oper)(n:Nat)(ev:Nat->EV)(hg:Nat->At eD)(c:EV)(b:fv)(d:a_)(a:Fr):Prop:=
 ∀st:St,st.n=n->Sk ev st->Hk hg d st->vx a st->SS P o st λs=>s=⟨st.n,kX o.dst (enc c) st.t,bF b++st.h⟩
def UR(P:Fd)(f:Op)(ev:Nat->EV)(hg:Nat->At eD)(c:EV)(i:a_):Prop:=
 ∀(a:St) (d:jQ) (h:EQ) (g:String) (b:dY) (e:gg),Sk ev a->Hk hg i a->RS P ⟨d,f,h,g,b,e⟩ a (enc c)
def FS.read{P:Fd}{a:Op}{n:Nat}{ev:Nat->EV}{hg:Nat->At eD}{c:EV}{b:a_}{d:Nat}{l:EQ}{j:String}{e:dY}{f:gg}
 (h:UR P a ev hg c b) (m:d<n):FS P ⟨some d,a,l,j,e,f⟩ n ev hg c [] b .no:=by
 intro k p i g o;exact SS.read (h k _ _ _ _ _ i g) bv rfl
def Va(a b:Int):tW:=if b=0 then none else some (a.tmod b)
def Vb(a b:Int):tW:=if b=0 then none else some (a.tdiv b)
def amF:{f:BinOp->IntKind->Int->Int->Int//f=bits}:=Classical.choice ⟨⟨bits,rfl⟩⟩
def Nt(c:BinOp)(k:IntKind)(a b:Int):Int:=amF.1 c k a b
def Nu(c:BinOp)(k:IntKind)(a b:Int):Nt c k a b=bits c k a b:=by rw[Nt,amF.2]
def aZ(b:Do a)(i:Int):At a:=if 0<=i then b[i.toNat]? else none
def e6{b:Do a}{x:a}(h:aZ b A=some x):0<=A/\b[A.toNat]? =some x:=by
 unfold aZ at h;split at h
 .exact⟨by assumption,h⟩
 .cases h
def o3(e:BinOp)(k:IntKind)(c b:Int)(d:EV->At a):At a:=
 match e with
 |.add=>d (.sc (.i k) (k.wrap (c+b)))
 |.sub=>d (.sc (.i k) (k.wrap (c - b)))
 |.mul=>d (.sc (.i k) (k.wrap (c*b)))
 |.rem=>aW (Va c b) λz=>d (.sc (.i k) z)
 |.quo=>aW (Vb c b) λz=>d (.sc (.i k) (k.wrap z))
 |.lss=>d (.sc .b (decide (c<b)))
 |.leq=>d (.sc .b (decide (c<=b)))
 |.gtr=>d (.sc .b (decide (b<c)))
 |.geq=>d (.sc .b (decide (b<=c)))
 |.eql=>d (.sc .b (decide (c=b)))
 |.neq=>d (.sc .b (!decide (c=b)))
 |.and=>d (.sc (.i k) (Nt .and k c b))
 |.or=>d (.sc (.i k) (Nt .or k c b))
 |.xor=>d (.sc (.i k) (Nt .xor k c b))
 |.andNot=>d (.sc (.i k) (Nt .andNot k c b))
 |_=>none
def Vc(k:IntKind)(a b:Int):tW:=if b<0 then none else some (k.wrap (a*2^(min b.toNat k.bits)))
def Qh(k:IntKind)(a b:Int):tW:=if b<0 then none else some (a.fdiv (2^(min b.toNat k.bits)))
def Vd:(s:Sc)->Do EV->At (s.dp×Do EV)
 |.pr x y,c=>match Vd x c with
  |some (a,d)=>match Vd y d with
   |some (b,e)=>some ((a,b),e)
   |none=>none
  |none=>none
 |.u,c=>some ((),c)
 |.i k,.sc s x::c=>match eT s (.i k) x with
  |some a=>some (a,c)
  |none=>none
 |.b,.sc s x::c=>match eT s .b x with
  |some a=>some (a,c)
  |none=>none
 |_,_=>none
def aex(T:EQ->bz)(e:BinOp)(t:EQ)(c b:EV)(k:EV->At a):At a:=
 match c with
 |.sc (.i d) x=>match b with
  |.sc (.i h) y=>match e with
   |.shl=>aW (Vc d x y) λz=>k (.sc (.i d) z)
   |.shr=>aW (Qh d x y) λz=>k (.sc (.i d) z)
   |_=>match eT (.i h) (.i d) y with
    |some z=>o3 e d x z k
    |none=>none
  |_=>none
 |.ag f=>match b with
  |.ag g=>match(T t).eq with
   |some s=>match Vd s f with
    |some (x,[])=>match Vd s g with
     |some (y,[])=>match e with
      |.eql=>k (.sc .b (jE s x y))
      |.neq=>k (.sc .b (!(jE s x y)))
      |_=>none
     |_=>none
    |_=>none
   |none=>none
  |_=>none
 |.sc .b x=>match b with
  |.sc .b y=>match e with
   |.eql=>cond (T t).bo (k (.sc .b (@BEq.beq In _ x y))) none
   |.neq=>cond (T t).bo (k (.sc .b (!(@BEq.beq In _ x y)))) none
   |_=>none
  |_=>none
 |_=>none
def anA(d:UnOp)(b:EV)(k:EV->At a):At a:=
 match d with
 |.not=>match b with
  |.sc .b x=>k (.sc .b (!x))
  |_=>none
 |.neg=>match b with
  |.sc (.i c) x=>k (.sc (.i c) (c.wrap (0 - x)))
  |_=>none
 |_=>none
def aey(hg:Nat->At eD)(b:EV)(k:EV->a_->At a):At a:=
 match b with
 |.sc (.sl r) c=>k (.sc (.i .i64) ((@List.length r.dp c:Nat):Int)) []
 |.ts r c=>k (.sc (.i .i64) ((@List.length r.dp c:Nat):Int)) []
 |.nil=>k (.sc (.i .i64) ((0:Nat):Int)) []
 |.ow j=>match hg j with
  |some (.arr _ r c _)=>k (.sc (.i .i64) ((@List.length r.dp c:Nat):Int)) [j]
  |some (.qr _ _ _ c)=>k (.sc (.i .i64) ((@List.length Int c:Nat):Int)) [j]
  |_=>none
 |_=>none
def Ve(T:EQ->bz)(hg:Nat->At eD)(t:EQ)(b:EV)(k:EV->a_->At a):At a:=
 match b with
 |.mp j=>match hg j with
  |some (.mp d e f c)=>match(T t).mp with
   |some _=>k (.sc (.i .i64) ((@List.length (e.dp×f.dp) c:Nat):Int)) [j]
   |none=>none
  |_=>none
 |_=>none
def oh:Do a->In
 |[]=>true
 |_::_=>false
def D5(h:(!(beq b HN))=true):b≠HN:=λe=>by rw[e,awD]at h;cases h
def GP(hg:Nat->At eD)(p:EV)(m:Nat)(k:Do EV->a_->At a):At a:=
 match p with
 |.fp c=>cond (Nat.ble m c.length) (k (c.take m) []) none
 |.pt j o=>match hg j with
  |some (.box t c)=>cond (!(beq t HN) && Nat.ble (o+m) c.length) (k ((c.drop o).take m) [j]) none
  |_=>none
 |.pe j i d o=>match hg j with
  |some (.arr _ r b _)=>cond (beq d r.w && Nat.ble (o+m) d) (aW (aZ b i) λx=>k (((vw r x).drop o).take m) [j]) none
  |some (.nr _ r b e)=>cond (beq d 1 && beq o 0 && beq m 1) (match e with
   |none=>aW (aZ b i) λx=>cond (oh x) (k [.nil] [j]) (k [.sc (.sl r) x] [j])
   |some (f,p)=>cond (decide (i.toNat=f.toNat)) (match p with
    |some q=>aW (aZ b i) λ_=>k [.ow q] [j]
    |none=>none) (aW (aZ b i) λx=>cond (oh x) (k [.nil] [j]) (k [.sc (.sl r) x] [j]))) none
  |some (.qr _ e s b)=>cond (beq d 1 && beq o 0 && beq m 1) (match e with
   |some q=>aW (aZ b i) λx=>k [.pe q x s 0] [j]
   |none=>none) none
  |_=>none
 |_=>none
def Xn:In->Do EV->At EV
 |true,a=>some (.ag a)
 |false,[c]=>some c
 |false,_=>none
def Vf(T:EQ->bz)(hg:Nat->At eD)(t:EQ)(p:EV)(k:EV->a_->At a):At a:=
 match(T t).ty with
 |some (b,m)=>GP hg p m λd e=>match Xn b d with
  |some c=>k c e
  |none=>none
 |none=>none
def Nv:EV->Nat->At EV
 |.pt k o,f=>some (.pt k (o+f))
 |.pe k i b o,f=>some (.pe k i b (o+f))
 |.fp a,f=>some (.fp (a.drop f))
 |_,_=>none
def Nw(T:EQ->bz)(hg:Nat->At eD)(t:EQ)(c b:EV)(k:EV->a_->At a):At a:=
 match b with
 |.sc (.i _) i=>match c with
  |.sc (.sl r) f=>match(T t).el with
   |some (_,d,_,_)=>cond (beq d r.w && Nat.blt 0 d) (aW (aZ (show Do r.dp from f) i) λx=>k (.fp (vw r x)) []) none
   |none=>none
  |.ts r f=>match(T t).el with
   |some (_,d,_,_)=>cond (beq d r.w && Nat.blt 0 d) (aW (aZ f i) λx=>k (.fp (vw r x)) []) none
   |none=>none
  |.ow j=>match hg j with
   |some (.arr g r f _)=>match(T t).el with
    |some (e,d,_,_)=>cond (beq d r.w && beq e g) (aW (aZ f i) λ_=>k (.pe j i d 0) [j]) none
    |none=>none
   |some (.nr g r f _)=>match(T t).el with
    |some (e,d,_,_)=>cond (beq d 1 && beq e g) (aW (aZ f i) λ_=>k (.pe j i 1 0) [j]) none
    |none=>none
   |some (.qr g _ _ f)=>match(T t).el with
    |some (e,d,_,_)=>cond (beq d 1 && beq e g) (aW (aZ f i) λ_=>k (.pe j i 1 0) [j]) none
    |none=>none
   |_=>none
  |.pt j o=>match(T t).ar with
   |some (n,_,d)=>match hg j with
    |some (.arr _ r f _)=>cond (beq o 0 && beq d r.w) (aW (aZ (List.range n) i) λ_=>aW (aZ f i) λ_=>k (.pe j i d 0) [j]) none
    |_=>aW (aZ (List.range n) i) λm=>k (.pt j (o+m*d)) []
   |none=>none
  |.fp h=>match(T t).ar with
   |some (n,_,d)=>aW (aZ (List.range n) i) λm=>k (.fp (h.drop (m*d))) []
   |none=>none
  |_=>none
 |_=>none
def aez(T:EQ->bz)(t:EQ)(g:Nat)(b:EV)(k:EV->a_->At a):At a:=
 match b with
 |.sc (.i _) i=>match abJ aeh g with
  |some (c,l)=>match(T t).ar with
   |some (n,_,d)=>cond (beq d 1) (aW (aZ (List.range n) i) λ_=>aW (aZ l i) λx=>k (.fp [.sc (.i c) x]) []) none
   |none=>none
  |none=>none
 |_=>none
def Nx(T:EQ->bz)(t:EQ)(f:Nat)(b:EV)(k:EV->At a):At a:=
 match b with
 |.ag e=>match(T t).fd[f]? with
  |some (d,true,m)=>cond (Nat.ble (d+m) e.length) (k (.ag ((e.drop d).take m))) none
  |some (d,false,m)=>cond (Nat.ble (d+m) e.length) (match e[d]? with
   |some c=>k c
   |none=>none) none
  |none=>none
 |_=>none
def qw:EV->At (Do EV)
 |.ag a=>some a
 |c=>cond (AV.one (enc c)) (some [c]) none
def D6{d:Do EV}(h:qw y=some d):cellsOf (enc y)=some (cw d):=by
 have f:∀a:AV,a.one=true->(∀l,a≠.ag l)->cellsOf a=some [a]:=by
  intro a b c;cases a<;>first|(simp[AV.one]at b;done)|(simp only[cellsOf,b,awG])
 cases y with
 |ag l=>simp only[qw,av6]at h;subst h;rfl
 |_=>
  simp only[qw]at h;obtain⟨b,c⟩:=aY h;simp only[av6]at c;subst c;refine f _ b λl e=>?_;rw[e]at b;simp[AV.one]at b
def owE(hg:Nat->At eD):EV->In
 |.ow k=>match hg k with
  |some (.arr ..)=>true
  |some (.nr ..)=>true
  |some (.qr ..)=>true
  |_=>false
 |_=>true
def owU:EV->a_
 |.ow k=>[k]
 |_=>[]
def Ny{hg:Nat->At eD}(h:owE hg y=true)(c:Hk hg B t)(d:∀k,(owU y).contains k=true->B.contains k=true):q8 t.h (enc y)=true:=by
 cases y with
 |ow k=>
  simp only[owE]at h;split at h
  next a r e wr b=>have:=c.at (d k (by simp[owU])) b;simp only[enc,q8,this,cA]
  next a r e f b=>have:=c.at (d k (by simp[owU])) b;simp only[enc,q8,this,cA]
  next a f g e b=>have:=c.at (d k (by simp[owU])) b;simp only[enc,q8,this,cA]
  .cases h
 |sc s x=>cases s<;>rfl
 |_=>rfl
def Ib(ev:Nat->EV)(hg:Nat->At eD):AH->At (Do (Nat×Do EV)×a_)
 |[]=>some ([],[])
 |(i,x)::b=>match qw (e7 ev x)with
  |some a=>cond (owE hg (e7 ev x)) (match Ib ev hg b with
   |some (r,us)=>some ((i,a)::r,owU (e7 ev x)++us)
   |none=>none) none
  |none=>none
def rk(a:Do EV)(o:Nat):Do EV->Do EV
 |[]=>a
 |x::b=>rk (a.set o x) (o+1) b
def rl(a:Do EV)(o:Nat)(x:EV):cw (a.set o x)=(cw a).set o (enc x):=by
 rw[ei,ei,ax3]
def sD:∀(b a:Do EV) (o:Nat),cw (rk a o b)=setCells (cw a) o (cw b)
 |[],a,o=>rfl
 |x::b,a,o=>by rw[rk,sD b,rl];rfl
def Qi(c:bu)(a:Do EV):Do (Nat×Do EV)->At (Do EV)
 |[]=>some a
 |(i,d)::e=>match c[i]? with
  |some (b,size)=>cond (beq d.length size && Nat.ble (b+size) a.length) (Qi c (rk a b d) e) none
  |none=>none
def zT{f g:Nat->PL}(h:∀i p,f i=some p->g i=some p):∀{α:Type} {c:Do (Nat×Do α)} {b r:Do α},hQ f b c=some r->hQ g b c=some r
 |_,[],b,r,a=>a
 |_,(i,l)::c,b,r,a=>by
  simp only[hQ]at a⊢;split at a
  .cases a
  next j k e=>
   rw[h _ _ e];simp only;split at a
   next d=>rw[av3 d];exact zT h a
   .cases a
def akf:Do (Nat×Do EV)->Do (Nat×Do AV)
 |[]=>[]
 |(i,x)::r=>(i,cw x)::akf r
def Qj{e:bu}:∀{f:Do (Nat×Do EV)} {a b:Do EV},Qi e a f=some b->hQ (λi=>e[i]?) (cw a) (akf f)=some (cw b)
 |[],a,b,h=>by simp only[Qi,av6]at h;subst h;rfl
 |(i,p)::n,a,b,h=>by
  simp only[Qi]at h;split at h
  next m o l=>obtain⟨c,k⟩:=aY h;simp only[av4]at c;have g:=awb c.1;have j:=awd c.2;have d:=Qj k;rw[sD]at d;simp only[akf,hQ,l,gh];rw[av3 ⟨g,j⟩];exact d
  .cases h
def Lr{ev:Nat->EV}{hg:Nat->At eD}{b:St}{p:a_}(o:Sk ev b)(m:Hk hg p b):∀{d:AH} {r:Do (Nat×Do EV)} {f:a_},Ib ev hg d=some (r,f)->(∀k,f.contains k=true->p.contains k=true)->
 vo b d=some (akf r)/\xD b d=true
 |[],r,f,h,j=>by simp only[Ib,av6,awn]at h;obtain⟨rfl,rfl⟩:=h;exact⟨rfl,rfl⟩
 |(i,x)::d,r,f,h,j=>by
  simp only[Ib]at h;split at h
  next w g=>
   obtain⟨q,c⟩:=aY h;split at c
   next y z s=>
    simp only[av6,awn]at c;obtain⟨rfl,rfl⟩:=c;obtain⟨u,v⟩:=Lr o m s (λk a=>j k (by simp at a⊢;exact .inr a));have t:b.ev x=enc (e7 ev x):=o.is rfl (λe=>by rw[e]at g;simp[qw,enc,AV.one]at g);have l:=D6 g;have n:=Ny q m (λk a=>j k (by simp at a⊢;exact .inl a));rw[<-t]at l n;refine⟨?_,?_⟩
    .simp only[vo,l,u];rfl
    .simp only[xD,n,v];rfl
   .cases c
  .cases h
def Nz(T:EQ->bz)(ev:Nat->EV)(hg:Nat->At eD)(t:EQ)(c:AH)(k:EV->a_->At a):At a:=
 match(T t).pl with
 |some (z,l)=>match Ib ev hg c with
  |some (d,e)=>match Qi l (z.map cvE) d with
   |some b=>k (.ag b) e
   |none=>none
  |none=>none
 |none=>none
section
variable{P:Fd}{T:EQ->bz}{ev:Nat->EV}{hg:Nat->At eD}
def RS.atT{a d:In}(f:P.underlying k=some .bool)(g:t.ev c=.v (.bool a))(h:t.ev e=.v (.bool d)):
 RS P ⟨K,.binOp .neq k c e G,b,H,J,N⟩ t (.v (.bool (!(a==d)))):=
 RS.bin g h (λw=>by simp[eqGuard]) λw=>run_neq_bool w k a d f
def RS.Xo{a:BinOp}(g:a=.and\/a=.or\/a=.xor\/a=.andNot)(d:t.ev c=.v (.int C A))(f:t.ev e=.v (.int C S)):
 RS P ⟨K,.binOp a k c e G,b,H,J,N⟩ t (.v (.int C (Nt a C A S))):=by
 rw[Nu];rcases g with rfl|rfl|rfl|rfl
 .exact RS.bin d f (λw=>by simp[eqGuard]) λw=>by simp[binOp_and,intBits_and]
 .exact RS.bin d f (λw=>by simp[eqGuard]) λw=>by simp[binOp_or,intBits_or]
 .exact RS.bin d f (λw=>by simp[eqGuard]) λw=>by simp[binOp_xor,intBits_xor]
 .exact RS.bin d f (λw=>by simp[eqGuard]) λw=>by simp[binOp_andNot,intBits_andNot]
def RS.shl{d l:IntKind}{a f z:Int}(g:Vc d a f=some z)(i:t.ev c=.v (.int d a))(j:t.ev e=.v (.int l f)):
 RS P ⟨K,.binOp .shl k c e G,b,H,J,N⟩ t (.v (.int d z)):=by
 unfold Vc at g;split at g
 .cases g
 next h=>cases g;exact RS.bin i j (λw=>by simp[eqGuard]) λw=>by simp[binOp_shl,Op.shift,h]
def RS.shr{d l:IntKind}{a f z:Int}(g:Qh d a f=some z)(i:t.ev c=.v (.int d a))(j:t.ev e=.v (.int l f)):
 RS P ⟨K,.binOp .shr k c e G,b,H,J,N⟩ t (.v (.int d z)):=by
 unfold Qh at g;split at g
 .cases g
 next h=>cases g;exact RS.bin i j (λw=>by simp[eqGuard]) λw=>by simp[binOp_shr,Op.shift,h]
def RS.DX{o:Oper}(h:RS P o t s)(f:Wk s R):RS P o t R:=λg b e a w hg=>by
 obtain⟨v,c,d⟩:=h g b e a w hg;exact⟨v,f _ _ _ c,d⟩
def Wk.un{c:AV}:Wk c .un:=λ_ _ _ _=>.un
def RS.conv{a d n:IntKind}(l:P.underlying k=some (.int n))(g:P.underlying G=some (.int d))(m:t.ev c=.v (.int a A)):
 RS P ⟨K,.convert k G c,b,H,J,N⟩ t (.v (.int d (d.wrap A))):=λr p e q w h=>by
 have f:=h.ev c;rw[m]at f;refine⟨_,.v,λo _=>?_⟩;have j:=f.bS;have i:P.intKind G=d:=by simp[Program.intKind,g]
 have:=run_convert_int o k G a A (by rw[l];rfl) (by rw[i];exact g);rw[i]at this;simp only[execOp,j,awi,this,awk,awm]
def RS.neg(f:t.ev c=.v (.int C A)):
 RS P ⟨K,.unOp .neg k c,b,H,J,N⟩ t (.v (.int C (C.wrap (0 - A)))):=λl g e i w h=>by
 have a:=h.ev c;rw[f]at a;refine⟨_,.v,λj _=>?_⟩;have d:=a.bS;simp only[execOp,d,unary_neg,Op.intArith,awi,awm,awk]
def akg{w:BinOp}{x:EV->At a}{r:a}(h:o3 w C A S x=some r)(y:e7 ev c=.sc (.i C) A)(B:e7 ev e=.sc (.i C) S):
 ∃g,UR P (.binOp w b c e k) ev hg g []/\x g=some r:=by
 have m:∀i,Sk ev i->i.ev c=.v (.int C A):=λi j=>j.is y d9;have n:∀i,Sk ev i->i.ev e=.v (.int C S):=λi j=>j.is B d9;cases w with
 |add=>exact⟨_,λi d q p l o j s=>RS.add (m i j) (n i j),h⟩
 |sub=>exact⟨_,λi d q p l o j s=>RS.sub (m i j) (n i j),h⟩
 |mul=>exact⟨_,λi d q p l o j s=>RS.mul (m i j) (n i j),h⟩
 |lss=>exact⟨_,λi d q p l o j s=>RS.lss (m i j) (n i j),h⟩
 |leq=>exact⟨_,λi d q p l o j s=>RS.leq (m i j) (n i j),h⟩
 |gtr=>exact⟨_,λi d q p l o j s=>RS.gtr (m i j) (n i j),h⟩
 |geq=>exact⟨_,λi d q p l o j s=>RS.geq (m i j) (n i j),h⟩
 |eql=>exact⟨_,λi d q p l o j s=>RS.eql (m i j) (n i j),h⟩
 |and=>exact⟨_,λi d q p l o j s=>RS.Xo (.inl rfl) (m i j) (n i j),h⟩
 |or=>exact⟨_,λi d q p l o j s=>RS.Xo (.inr (.inl rfl)) (m i j) (n i j),h⟩
 |xor=>exact⟨_,λi d q p l o j s=>RS.Xo (.inr (.inr (.inl rfl))) (m i j) (n i j),h⟩
 |andNot=>exact⟨_,λi d q p l o j s=>RS.Xo (.inr (.inr (.inr rfl))) (m i j) (n i j),h⟩
 |neq=>
  refine⟨_,λi d q p l o j s=>?_,h⟩;have:=RS.neq (P:=P) (d:=d) (ty:=q) (pos:=p) (af:=l) (gd:=o) (t:=b) (t2:=k) (m i j) (n i j);rw[decide_not]at this;exact this
 |rem=>
  simp only[o3]at h;obtain⟨z,t,v⟩:=bp h;unfold Va at t;split at t
  .cases t
  next u=>cases t;exact⟨_,λi d q p l o j s=>RS.rem (m i j) (n i j) u,v⟩
 |quo=>
  simp only[o3]at h;obtain⟨z,t,v⟩:=bp h;unfold Vb at t;split at t
  .cases t
  next u=>cases t;exact⟨_,λi d q p l o j s=>RS.quo (m i j) (n i j) u,v⟩
 |_=>cases h
def D7:∀(s:Sc) {b rest:Do EV} {x:s.dp},Vd s b=some (x,rest)->s.key=true->∃f,b=f++rest/\cw f=bM s x
 |.pr a c,b,rest,x,h,d=>by
  simp only[Sc.key,av4]at d;simp only[Vd]at h;split at h
  next o m g=>
   split at h
   next vb n i=>simp only[av6,awn]at h;obtain⟨rfl,rfl⟩:=h;obtain⟨p,rfl,j⟩:=D7 a g d.1;obtain⟨q,rfl,l⟩:=D7 c i d.2;exact⟨p++q,d5,by rw[mn,j,l];rfl⟩
   .cases h
  .cases h
 |.u,b,rest,x,h,d=>by
  simp only[Vd,av6,awn]at h;obtain⟨-,rfl⟩:=h;exact⟨[],rfl,rfl⟩
 |.i k,b,rest,x,h,d=>by
  cases b with
  |nil=>simp[Vd]at h
  |cons c b=>
   cases c with
   |sc s y=>
    simp only[Vd]at h;split at h
    next z e=>simp only[av6,awn]at h;obtain⟨rfl,rfl⟩:=h;obtain⟨rfl,rfl⟩:=dC e;exact⟨[_],rfl,rfl⟩
    .cases h
   |_=>simp[Vd]at h
 |.b,b,rest,x,h,d=>by
  cases b with
  |nil=>simp[Vd]at h
  |cons c b=>
   cases c with
   |sc s y=>
    simp only[Vd]at h;split at h
    next z e=>simp only[av6,awn]at h;obtain⟨rfl,rfl⟩:=h;obtain⟨rfl,rfl⟩:=dC e;exact⟨[_],rfl,rfl⟩
    .cases h
   |_=>simp[Vd]at h
 |.sl r,b,rest,x,h,d=>by simp[Sc.key]at d
def LR.dv{Rd:bL}{E:At Env}:∀(s:Sc) (x:s.dp) {b:bI},s.key=true->LR (VR Rd E) (bM s x) b->b=dv s x
 |.i k,x,b,_,h=>by
  obtain⟨d,e⟩:=h
  match b,d with
  |[u],_=>exact awh (λz=>[z]) (e 0 _ _ rfl rfl).bS
 |.b,x,b,_,h=>by
  obtain⟨d,e⟩:=h
  match b,d with
  |[u],_=>exact awh (λz=>[z]) (e 0 _ _ rfl rfl).bS
 |.u,x,b,_,h=>aw6 h.1
 |.sl r,x,b,f,_=>by simp[Sc.key]at f
 |.pr a c,x,b,f,h=>by
  simp only[Sc.key,av4]at f;have j:b.length=(bM a x.1).length+(bM c x.2).length:=by rw[h.1];simp[bM]
  have d:=h.take (bM a x.1).length;have e:=h.drop (bM a x.1).length;simp only[bM,ayT,List.drop_left]at d e;have g:=LR.dv a x.1 f.1 d;have i:=LR.dv c x.2 f.2 e;rw[<-axw (bM a x.1).length b,g,i];rfl
def RS.amG{x y:I.dp}(d:aew P k I)(o:t.ev c=.ag (bM I x))(p:t.ev e=.ag (bM I y)):
 RS P ⟨K,.binOp .eql k c e G,b,H,J,N⟩ t (.v (.bool (jE I x y)))/\RS P ⟨K,.binOp .neq k c e G,b,H,J,N⟩ t (.v (.bool (!(jE I x y)))):=by
 refine⟨λv m a n w h=>?_,λv m a n w h=>?_⟩
 all_goals
  have i:=h.ev c;have j:=h.ev e;rw[o]at i;rw[p]at j;obtain⟨z,f,q⟩:=VR.fI i;obtain⟨A,g,r⟩:=VR.fI j;rw[LR.dv I x d.1 q]at f;rw[LR.dv I y d.1 r]at g;refine⟨_,.v,λl _=>?_⟩;have s:=(d.2 x y l).1;have u:=(d.2 x y l).2;simp only[execOp,f,g,awi,u,awk,binOp,s,awm]
def aeA(C:hS P T){E:BinOp}{i:EV->At a}{r:a}(h:aex T E b (e7 ev c) (e7 ev e) i=some r):
 ∃g,UR P (.binOp E b c e k) ev hg g []/\i g=some r:=by
 unfold aex at h;split at h
 next Q j n=>
  split at h
  next R l o=>
   split at h
   .obtain⟨z,u,D⟩:=bp h
    exact⟨_,λw d x v p q m t=>RS.shl u (m.is n d9) (m.is o d9),D⟩
   .obtain⟨z,u,D⟩:=bp h
    exact⟨_,λw d x v p q m t=>RS.shr u (m.is n d9) (m.is o d9),D⟩
   .split at h
    next z u=>obtain⟨f,rfl⟩:=dC u;cases f;exact akg h n o
    .cases h
  .cases h
 next N n=>
  split at h
  next O o=>
   split at h
   next s m=>
    split at h
    next S J=>
     split at h
     next U K=>
      have y:=C.eq _ _ m;obtain⟨L,F,H⟩:=D7 s J y.1;obtain⟨M,G,I⟩:=D7 s K y.1;simp only[awN]at F G;subst F G;split at h
      .refine⟨_,λw d x v p q m t=>(RS.amG y ?_ ?_).1,h⟩
       .rw[m.is n d9,enc,H]
       .rw[m.is o d9,enc,I]
      .refine⟨_,λw d x v p q m t=>(RS.amG y ?_ ?_).2,h⟩
       .rw[m.is n d9,enc,H]
       .rw[m.is o d9,enc,I]
      .cases h
     .cases h
    .cases h
   .cases h
  .cases h
 next j n=>
  split at h
  next l o=>
   split at h
   .obtain⟨A,B⟩:=aY h
    exact⟨_,λw d x v p q m t=>RS.atM (C.bo _ A) (m.is n d9) (m.is o d9),B⟩
   .obtain⟨A,B⟩:=aY h
    exact⟨_,λw d x v p q m t=>RS.atT (C.bo _ A) (m.is n d9) (m.is o d9),B⟩
   .cases h
  .cases h
 .cases h
def akh{l:UnOp}{k:EV->At a}{r:a}(h:anA l (e7 ev c) k=some r):∃f,UR P (.unOp l b c) ev hg f []/\k f=some r:=by
 unfold anA at h;split at h
 .split at h
  next g i=>exact⟨_,λq d s p m n j o=>RS.not (j.is i d8),h⟩
  .cases h
 .split at h
  next t g i=>exact⟨_,λq d s p m n j o=>RS.neg (j.is i d8),h⟩
  .cases h
 .cases h
def aeB(m:hS P T){k:EV->a_->At a}{r:a}(o:W[0]? =some b)(n:(T b).lH=true)(h:aey hg (e7 ev c) k=some r):
 ∃f y,UR P (.call ⟨.builtin .len, #[c],W⟩) ev hg f y/\k f y=some r:=by
 unfold aey at h;split at h
 next x w i=>refine⟨_,_,λt d u s p q g l=>RS.len (m.lH _ n) o ?_,h⟩;rw[g.is i d8];simp only[enc,encS,vd,awa]
 next x w i=>refine⟨_,_,λt d u s p q g l=>RS.len (m.lH _ n) o ?_,h⟩;rw[g.is i d8];simp only[enc,encS,vd,awa]
 next i=>refine⟨_,_,λt d u s p q g l=>RS.len (m.lH _ n) o ?_,h⟩;rw[g.is i d8];rfl
 next j i=>
  split at h
  next z x w wr v=>refine⟨_,_,λt d u s p q g l=>RS.len (m.lH _ n) o ?_,h⟩;rw[g.is i d8];simp only[enc,vd,l.at d5 v,cA,awa]
  next z A B w v=>refine⟨_,_,λt d u s p q g l=>RS.len (m.lH _ n) o ?_,h⟩;rw[g.is i d8];simp only[enc,vd,l.at d5 v,cA,awa]
  .cases h
 .cases h
def abU(q:hS P T){k:EV->a_->At a}{r:a}(w:W[0]? =some b)(h:Ve T hg b (e7 ev c) k=some r):
 ∃f l,UR P (.call ⟨.builtin .len, #[c],W⟩) ev hg f l/\k f l=some r:=by
 unfold Ve at h;split at h
 next j x=>
  split at h
  next d i m g t=>
   split at h
   next tz u=>obtain⟨C,z⟩:=tz;refine⟨_,_,λA o B y n p v s=>?_,h⟩;have:=RS.atP (P:=P) (st:=A) (dd:=o) (ty:=B) (pos:=y) (af:=n) (gd:=p) (k:=j) (es:=o0 i m g) w (q.mp _ _ u) (v.is x d8) (s.at d5 t);rw[show(o0 i m g).length=g.length by simp[o0]]at this;exact this
   .cases h
  .cases h
 .cases h
def rm(a:Do EV)(m:Nat):cw (a.take m)=(cw a).take m:=by rw[ei,ei,ays]
def nS(a:Do EV)(m:Nat):cw (a.drop m)=(cw a).drop m:=by rw[ei,ei,ayI]
def Vg{k:Do EV->a_->At a}{r:a}(h:GP hg y m k=some r):
 ∃w v,(∀g l,(∀x,v.contains x=true->l.contains x=true)->Hk hg l g->mR g (enc y) m=some (cw w))/\k w v=some r:=by
 unfold GP at h;split at h
 next w=>obtain⟨d,f⟩:=aY h;refine⟨_,_,λg l u n=>?_,f⟩;simp only[enc,mR,gh];rw[av3 (awd d),rm]
 next j o=>
  split at h
  next t w z=>obtain⟨d,f⟩:=aY h;refine⟨_,_,λg l u n=>?_,f⟩;simp only[enc,mR,n.at (u j d5) z,cA,gh];simp only[av4]at d;rw[av3 ⟨D5 d.1,awd d.2⟩,rm,nS]
  .cases h
 next j i K o=>
  split at h
  next t C A wr z=>obtain⟨d,f⟩:=aY h;obtain⟨x,e,p⟩:=bp f;simp only[av4]at d;have D:=awb d.1;have E:=awd d.2;obtain⟨H,e⟩:=e6 e;refine⟨_,_,λg l u n=>?_,p⟩;simp only[enc,mR,n.at (u j d5) z,cA,awp,e,aw9,fy];rw[av3 ⟨bv,D.symm⟩,rm,nS,hY]
  next t C A I z=>
   obtain⟨d,f⟩:=aY h;simp only[av4]at d;have D:=awb d.1.1;have E:=awb d.1.2;have G:=awb d.2;have look:∀{v:a_} {c:EV},(zO C A I)[i.toNat]? =some (enc c)->v.contains j=true->∀g l,(∀x,v.contains x=true->l.contains x=true)->Hk hg l g->mR g (enc (.pe j i K o)) m=some (cw [c]):=λF N g l u n=>by
    simp only[enc,mR,n.at (u j N) z,cA,F];rw[av3 ⟨D,E,G⟩];rfl
   have plain:∀{k:Do EV->a_->At a},(∀x,A[i.toNat]? =some x->(zO C A I)[i.toNat]? =some (nrA C x))->(aW (aZ A i) λx=>cond (oh x) (k [.nil] [j]) (k [.sc (.sl C) x] [j]))=some r->
    ∃w v,(∀g l,(∀x,v.contains x=true->l.contains x=true)->Hk hg l g->mR g (enc (.pe j i K o)) m=some (cw w))/\k w v=some r:=λ{k} M h=>by
    obtain⟨x,e,p⟩:=bp h;obtain⟨H,e⟩:=e6 e;have F:=M x e;cases x with
    |nil=>exact⟨_,_,look (c:=.nil) F d5,p⟩
    |cons b O=>exact⟨_,_,look (c:=.sc (.sl C) (b::O)) F d5,p⟩
   split at f
   .refine plain (λx e=>?_) f
    simp only[zO,awp,e,aw9]
   next J y=>
    rcases bR f with⟨B,f⟩|⟨B,f⟩
    .cases y with
     |some q=>
      obtain⟨x,e,p⟩:=bp f;obtain⟨H,e⟩:=e6 e;have B:i.toNat=J.toNat:=awX B;refine⟨_,_,look (c:=.ow q) ?_ d5,p⟩;have L:i.toNat<A.length:=(av7.1 e).1;simp only[zO,<-B,enc,nrH];rw[aAU (by simpa using L)]
     |none=>cases f
    .refine plain (λx e=>?_) f
     have B:¬i.toNat=J.toNat:=axT B;simp only[zO];rw[azr bv,awp,e];rfl
  next t I s A z=>
   obtain⟨d,f⟩:=aY h;simp only[av4]at d;have D:=awb d.1.1;have E:=awb d.1.2;have G:=awb d.2;split at f
   next q=>obtain⟨x,e,p⟩:=bp f;obtain⟨H,e⟩:=e6 e;refine⟨_,_,λg l u n=>?_,p⟩;simp only[enc,mR,n.at (u j d5) z,cA,awp,e,aw9];rw[av3 ⟨D,E,G⟩];rfl
   .cases f
  .cases h
 .cases h
def Qk{a:Do EV}(h:Xn D a=some y):aek D (cw a)=some (enc y):=by
 unfold Xn at h;split at h
 .cases h;rfl
 .cases h;rfl
 .cases h
def abV(n:hS P T){k:EV->a_->At a}{r:a}(h:Vf T hg b (e7 ev c) k=some r):∃f g,UR P (.load b c) ev hg f g/\k f g=some r:=by
 unfold Vf at h;split at h
 next v m s=>
  obtain⟨w,g,l,i⟩:=Vg h;split at i
  next f o=>refine⟨f,g,λj d z y u x q p=>RS.AR ?_,i⟩;have t:j.ev c=enc (e7 ev c):=q.is rfl (λe=>by rw[e]at h;simp[GP]at h);simp only[AR,n.ty _ _ s,t,l j g (λ_ h=>h) p];exact Qk o
  .cases i
 .cases h
def abW{p q:EV}(h:Nv p d=some q):hV (enc p) d=some (enc q):=by
 unfold Nv at h;split at h
 .cases h;rfl
 .cases h;rfl
 .cases h;simp only[enc,hV,nS]
 .cases h
def sE(h:aZ (List.range d) A=some m):0<=A/\A<d/\m=A.toNat:=by
 obtain⟨e,a⟩:=e6 h;obtain⟨b,c⟩:=av7.1 a;simp at b c;omega
def Vh(H:hS P T){k:EV->a_->At a}{r:a}(h:Nw T hg b (e7 ev c) (e7 ev e) k=some r):∃l U,UR P (.indexAddr b c e) ev hg l U/\k l U=some r:=by
 unfold Nw at h;split at h
 next Y i I=>
  split at h
  next M G w=>
   split at h
   next f J O z v=>obtain⟨p,D⟩:=aY h;obtain⟨g,q,u⟩:=bp D;obtain⟨t,q⟩:=e6 q;simp only[av4]at p;have y:=awb p.1;have A:0<J:=awd p.2;refine⟨_,_,λK d F E B C s x=>?_,u⟩;have:=RS.W_ (P:=P) (d:=d) (ty:=F) (pos:=E) (af:=B) (gd:=C) (H.el _ _ v) (by rw[y];exact s.is w d9) (s.is I d9) t (by rw[awp,q];rfl) A;rw[enc,hY];exact this
   .cases h
  next M G w=>
   split at h
   next f J O z v=>obtain⟨p,D⟩:=aY h;obtain⟨g,q,u⟩:=bp D;obtain⟨t,q⟩:=e6 q;simp only[av4]at p;have y:=awb p.1;have A:0<J:=awd p.2;refine⟨_,_,λK d F E B C s x=>?_,u⟩;have:=RS.W_ (P:=P) (d:=d) (ty:=F) (pos:=E) (af:=B) (gd:=C) (H.el _ _ v) (by rw[y];exact s.is w d9) (s.is I d9) t (by rw[awp,q];rfl) A;rw[enc,hY];exact this
   .cases h
  next j w=>
   split at h
   next S M G wr N=>
    split at h
    next f J O z v=>obtain⟨p,D⟩:=aY h;obtain⟨g,q,u⟩:=bp D;obtain⟨t,q⟩:=e6 q;simp only[av4]at p;have y:=awb p.1;have A:=awb p.2;have R:=(av7.1 q).1;refine⟨_,_,λK d F E B C s x=>?_,u⟩;refine RS.aj7 (rows:=List.map (bM M) G) (wr:=wr) (H.el _ _ v) (s.is w d9) ?_ (s.is I d9) t (by rw[awa];omega);rw[x.at d5 N,y,A];rfl
    .cases h
   next S M G L N=>
    split at h
    next f J O z v=>
     obtain⟨p,D⟩:=aY h;obtain⟨g,q,u⟩:=bp D;obtain⟨t,q⟩:=e6 q;simp only[av4]at p;have y:=awb p.1;have A:=awb p.2;subst y;subst A;have R:=(av7.1 q).1;refine⟨_,_,λK d F E B C s x=>?_,u⟩;refine RS.Xl (cs:=zO M G L) (H.el _ _ v) (s.is w d9) ?_ (s.is I d9) t ?_
     .rw[x.at d5 N];rfl
     .have:(zO M G L).length=G.length:=by
       unfold zO;split<;>simp
      rw[this];omega
    .cases h
   next S L V G N=>
    split at h
    next f J O z v=>
     obtain⟨p,D⟩:=aY h;obtain⟨g,q,u⟩:=bp D;obtain⟨t,q⟩:=e6 q;simp only[av4]at p;have y:=awb p.1;have A:=awb p.2;subst y;subst A;have R:=(av7.1 q).1;refine⟨_,_,λK d F E B C s x=>?_,u⟩;refine RS.Xl (cs:=G.map (qrA V L)) (H.el _ _ v) (s.is w d9) ?_ (s.is I d9) t ?_
     .rw[x.at d5 N];rfl
     .rw[awa];omega
    .cases h
   .cases h
  next j o w=>
   split at h
   next n f J v=>
    split at h
    .obtain⟨Q,h⟩:=aY h
     obtain⟨g,q,h⟩:=bp h;obtain⟨m,X,u⟩:=bp h;obtain⟨t,p,rfl⟩:=sE q;simp only[av4]at Q;have L:=awb Q.1;subst L;exact⟨_,_,λK d F E B C s x=>RS.U7 (H.ar _ _ v) (s.is I d9) t p (s.is w d9),u⟩
    .obtain⟨g,q,u⟩:=bp h
     obtain⟨t,p,rfl⟩:=sE q;exact⟨_,_,λK d F E B C s x=>RS.AM (H.ar _ _ v) (s.is I d9) t p (by rw[s.is w d9];rfl),u⟩
   .cases h
  next W w=>
   split at h
   next n f J v=>obtain⟨g,q,u⟩:=bp h;obtain⟨t,p,rfl⟩:=sE q;refine⟨_,_,λK d F E B C s x=>RS.AM (H.ar _ _ v) (s.is I d9) t p ?_,u⟩;rw[s.is w d9];simp only[enc,hV,nS]
   .cases h
  .cases h
 .cases h
def VR.anC{Rd:bL}(h:VR Rd X (.fp i) v)(d:i[0]? =some s):VR Rd X (.fp [s]) v:=by
 cases h with
 |fp e k g f=>
  cases e with
  |nil=>
   have:=(av7.1 d).1;simp at k;omega
  |cons a e=>
   refine VR.fp [a] rfl (λj m l b c=>?_) (λj l b=>?_)
   .cases j with
    |zero=>simp at b c;subst b;subst c;exact g 0 _ _ d rfl
    |succ j=>simp at b
   .cases j with
    |zero=>simp at b;subst b;exact f 0 _ rfl
    |succ j=>simp at b
def RS.imp'{P:Fd}{o:Oper}(h:RS P o t s)(c:∀Rd E u,VR Rd E s u->VR Rd E R u):RS P o t R:=λg b e a w hg=>by
 obtain⟨v,f,d⟩:=h g b e a w hg;exact⟨v,c _ _ _ f,d⟩
def aeC(v:hS P T){k:EV->a_->At a}{r:a}(h:aez T b d (e7 ev c) k=some r):∃f s,UR P (.indexAddr b (.global d) c) ev hg f s/\k f s=some r:=by
 unfold aez at h;split at h
 next K i F=>
  split at h
  next G l z=>
   split at h
   next n e N y=>
    obtain⟨m,o⟩:=aY h;have m:=awb m;subst m;obtain⟨g,w,o⟩:=bp o;obtain⟨t,B,rfl⟩:=sE w;obtain⟨x,p,A⟩:=bp o;obtain⟨_,p⟩:=e6 p;refine⟨_,_,λM j O L H I C J=>?_,A⟩;refine RS.imp' (RS.AM (q:=.fp ((l.map λx=>AV.v (.int G x)).drop (i.toNat*1))) (v.ar _ _ y) (C.is F d8) t B ?_) λRd E u D=>?_
    .simp only[St.ev,gA,z,hV]
    .exact D.anC (by rw[axt,axv,axy,awp,p];rfl)
   .cases h
  .cases h
 .cases h
def Vi(o:hS P T){k:EV->At a}{r:a}(h:Nx T b d (e7 ev c) k=some r):∃f,UR P (.field b c d) ev hg f []/\k f=some r:=by
 unfold Nx at h;split at h
 next z p=>
  split at h
  next v m l=>obtain⟨j,i⟩:=aY h;refine⟨_,λx g y w q s n u=>RS.field (o.fd _ _ _ l) (n.is p d8) (by rw[gh];exact awd j) (.inl ⟨rfl,?_⟩),i⟩;simp only[enc,rm,nS]
  next v m l=>
   obtain⟨j,i⟩:=aY h;split at i
   next f t=>refine⟨_,λx g y w q s n u=>RS.field (o.fd _ _ _ l) (n.is p d8) (by rw[gh];exact awd j) (.inr ⟨rfl,?_⟩),i⟩;rw[ei,awp,t];rfl
   .cases i
  .cases h
 .cases h
def Vj(n:hS P T){k:EV->a_->At a}{r:a}{i:HL}(h:Nz T ev hg b i.toList k=some r):∃c e,UR P (.build b i) ev hg c e/\k c e=some r:=by
 unfold Nz at h;split at h
 next z l q=>
  split at h
  next B e u=>
   split at h
   next x o=>refine⟨_,_,λC d D A w y v p=>?_,h⟩;obtain⟨j,m⟩:=Lr v p u λ_ h=>h;have g:=Qj o;rw[Qg]at g;obtain⟨f,s,t⟩:=n.pl _ _ _ q;exact RS.build s j m (zT t g)
   .cases h
  .cases h
 .cases h
def zeroV:(s:Sc)->s.dp
 |.i _=>(0:Int)
 |.b=>false
 |.sl r=>([]:Do r.dp)
 |.pr x y=>(zeroV x,zeroV y)
 |.u=>()
def vf:Sc->bI->At bI
 |.i k,a=>match a with
  |.int l n::r=>if k=l/\n=0 then some r else none
  |_=>none
 |.b,a=>match a with
  |.bool c::r=>cond c none (some r)
  |_=>none
 |.sl _,a=>match a with
  |.slice none 0 0::r=>some r
  |_=>none
 |.pr x y,a=>match vf x a with
  |some b=>vf y b
  |none=>none
 |.u,a=>some a
def pc:∀(s:Sc) {b rest:bI},vf s b=some rest->∃d,b=d++rest/\qv (d.map na) (bM s (zeroV s))/\d.all Value.oneCell'=true/\d.all (λv=>(na v).one)=true
 |.i k,b,rest,h=>by
  simp only[vf]at h;split at h
  .split at h
   next f=>cases h;obtain⟨rfl,rfl⟩:=f;exact⟨[_],rfl,.cons (Wk.refl (.v (.int _ 0))) .nil,rfl,rfl⟩
   .cases h
  .cases h
 |.b,b,rest,h=>by
  simp only[vf]at h;split at h
  next c m=>
   cases c with
   |true=>cases h
   |false=>
    cases h;exact⟨[_],rfl,.cons (Wk.refl (.v (.bool false))) .nil,rfl,rfl⟩
  .cases h
 |.sl r,b,rest,h=>by
  simp only[vf]at h;split at h
  .cases h
   exact⟨[_],rfl,.cons (Wk.empty rfl) .nil,rfl,rfl⟩
  .cases h
 |.pr a c,b,rest,h=>by
  simp only[vf]at h;split at h
  next l e=>obtain⟨p,rfl,p1,p2,p3⟩:=pc a e;obtain⟨q,rfl,g,i,j⟩:=pc c h;refine⟨p++q,d5,?_,by simp only[aAf,p2,i];rfl,by simp only[aAf,p3,j];rfl⟩;rw[awQ];exact p1.append g
  .cases h
 |.u,b,rest,h=>by
  simp only[vf,av6]at h;subst h;exact⟨[],rfl,.nil,rfl,rfl⟩
def anD(s:Sc)(z:Id):In:=match s with
 |.pr x y=>match z with
  |.agg a=>match vf (.pr x y) a.toList with
   |some []=>true
   |_=>false
  |_=>false
 |.u=>match z with
  |.agg a=>match vf .u a.toList with
   |some []=>true
   |_=>false
  |_=>false
 |.i k=>match z with
  |.agg _=>false
  |z=>match vf (.i k) [z]with
   |some []=>true
   |_=>false
 |.b=>match z with
  |.agg _=>false
  |z=>match vf .b [z]with
   |some []=>true
   |_=>false
 |.sl r=>match z with
  |.agg _=>false
  |z=>match vf (.sl r) [z]with
   |some []=>true
   |_=>false
def qv.single(h:qv [s] [R]):Wk s R:=by
 cases h with
 |cons h _=>exact h
def Xp(h:anD I v=true):Wk (PH v) (enc (kg I (zeroV I))):=by
 have one:∀{I:Sc} {v:Id} {c:AV},vf I [v]=some []->bM I (zeroV I)=[c]->Wk (na v) c:=by
  intro I v c h j;obtain⟨g,a,b,_⟩:=pc I h;rw[awN]at a;subst a;rw[j]at b;exact b.single
 have f:∀{v:Id},(∀i,v≠.agg i)->PH v=na v:=by
  intro v d;unfold PH;split
  .exact absurd rfl (d _)
  .rfl
 unfold anD at h;split at h
 .split at h
  .split at h
   next a=>obtain⟨g,b,e,_⟩:=pc _ a;rw[awN]at b;simp only[PH,kg,enc,hY,b];exact Wk.ag e
   .cases h
  .cases h
 .split at h
  .split at h
   next a=>obtain⟨g,b,e,_⟩:=pc _ a;rw[awN]at b;simp only[PH,kg,enc,b];exact Wk.ag e
   .cases h
  .cases h
 .split at h
  .cases h
  next d=>
   split at h
   next a=>rw[f d];exact one a rfl
   .cases h
 .split at h
  .cases h
  next d=>
   split at h
   next a=>rw[f d];exact one a rfl
   .cases h
 .split at h
  .cases h
  next d=>
   split at h
   next a=>rw[f d];exact one a rfl
   .cases h
def mo(d:TypeDesc)(s:Sc):In:=match s with
 |.i k=>match d with
  |.int l=>decide (k=l)
  |_=>false
 |.b=>match d with
  |.bool=>true
  |_=>false
 |.pr (.i .i64) (.i .i64)=>match d with
  |.tuple ⟨[]⟩=>true
  |_=>false
 |_=>false
def vy(h:mo j I=true)(x:I.dp):mg j (sB I x)/\I.key=true:=by
 unfold mo at h;split at h
 .split at h
  .exact⟨by simpa[sB,mg,MapKept.IsKey]using h,rfl⟩
  .cases h
 .split at h
  .exact⟨trivial,rfl⟩
  .cases h
 .split at h
  .exact⟨⟨x.1,x.2,rfl⟩,rfl⟩
  .cases h
 .cases h
def NA:(s:Sc)->EV->At s.dp
 |.pr a b,c=>match c with
  |.ag d=>match Vd (.pr a b) d with
   |some (x,[])=>some x
   |_=>none
  |_=>none
 |.i k,c=>Lp (.i k) c
 |.b,c=>Lp .b c
 |.sl _,_=>none
 |.u,_=>none
def rn(T:EQ->bz)(hg:Nat->At eD)(t:EQ)(c b:EV)(h:In)(k:EV->a_->At a):At a:=
 match c with
 |.mp j=>match hg j with
  |some (.mp d e f g)=>match(T t).mp with
   |some (i,z)=>match NA e b with
    |some x=>cond (mo d e && mo i e && anD f z) (cond h (k (.tu [kg f ((bN e g x).getD (zeroV f)),.sc .b (bN e g x).isSome]) [j]) (k (kg f ((bN e g x).getD (zeroV f))) [j])) none
    |none=>none
   |none=>none
  |_=>none
 |_=>none
def rp{d b:TypeDesc}(h:mo d I=true)(a:mo b I=true):d=b:=by
 unfold mo at h a;split at h
 .split at h
  .simp only at a
   split at a
   .have c:=awX h
    have e:=awX a;rw[<-c,<-e]
   .cases a
  .cases h
 .split at h
  .simp only at a
   split at a
   .rfl
   .cases a
  .cases h
 .split at h
  .simp only at a
   split at a
   .rfl
   .cases a
  .cases h
 .cases h
def Xq{s:Sc}{x:s.dp}(c:(match s with
 |.i _=>true
 |.b=>true
 |_=>false)=true) (b:Lp s y=some x):enc y=.v (sB s x):=by
 have e:encS s x=.v (sB s x):=by cases s<;>simp at c<;>rfl
 rw[<-e];cases y with
 |sc d a=>obtain⟨rfl,rfl⟩:=dC b;rfl
 |nil=>cases s<;>simp[Lp]at b c
 |ts r f=>obtain⟨rfl,rfl⟩:=dC b;simp at c
 |_=>simp[Lp]at b
def AW{x:I.dp}(h:mo j I=true)(d:NA I y=some x):∀(Rd:bL) E u,VR Rd E (enc y) u->u=sB I x:=by
 intro Rd E u e;cases I with
 |i k=>rw[Xq (s:=.i k) rfl d]at e;exact e.bS
 |b=>rw[Xq (s:=.b) rfl d]at e;exact e.bS
 |sl r=>cases d
 |u=>cases d
 |pr a p=>
  have g:=(vy h x).2;simp only[NA]at d;split at d
  next q=>
   split at d
   next c n=>cases d;obtain⟨s,f,l⟩:=D7 _ n g;rw[awN]at f;subst f;simp only[enc,l]at e;obtain⟨t,m,o⟩:=VR.fI e;rw[m,LR.dv _ _ g o];rfl
   .cases d
  .cases d
def Ql(E:hS P T){k:EV->a_->At a}{r:a}(h:rn T hg b (e7 ev c) (e7 ev e) D k=some r):∃i L,UR P (.lookup b c e D) ev hg i L/\k i L=some r:=by
 unfold rn at h;split at h
 next j I=>
  split at h
  next d m B s F=>
   split at h
   next U z H=>
    split at h
    next g o=>
     obtain⟨C,O⟩:=aY h;simp only[av4]at C;obtain⟨⟨n,M⟩,N⟩:=C;have Q:=rp n M;subst Q;obtain⟨J,K⟩:=vy n g;have R:=Xp N;have G:e7 ev e≠.un:=λf=>by rw[f]at o;cases m<;>simp[NA,Lp]at o
     have look:Wk ((fM (o0 m B s) (sB m g)).getD (PH z)) (enc (kg B ((bN m s g).getD (zeroV B)))):=by
      rw[ri K];cases bN m s g with
      |none=>exact R
      |some v=>exact Wk.refl _
     rcases bR O with⟨x,u⟩|⟨x,u⟩
     .refine⟨_,_,λS q A y p t l w=>?_,u⟩
      rw[x];have:=RS.aes (P:=P) (dd:=q) (ty:=A) (pos:=y) (af:=p) (gd:=t) (E.mp _ _ H) (l.is I d9) (w.at d5 F) (by rw[l.is rfl G];exact AW n o) J;refine this.DX (Wk.tu (.cons look (.cons ?_ .nil)));rw[ri K,Option.isSome_map];exact Wk.refl _
     .refine⟨_,_,λS q A y p t l w=>?_,u⟩
      rw[x];exact(RS.lookup (P:=P) (dd:=q) (ty:=A) (pos:=y) (af:=p) (gd:=t) (E.mp _ _ H) (l.is I d9) (w.at d5 F) (by rw[l.is rfl G];exact AW n o) J).DX look
    .cases h
   .cases h
  .cases h
 .cases h
def NB(F:hS P T){k:EV->a_->At a}{r:a}(h:rn T hg b (e7 ev c) (e7 ev e) false k=some r):∃j d i l m f,hg j=some (.mp d i l m)/\i.key=true/\k (kg l ((bN i m f).getD (zeroV l))) [j]=some r/\
 ∀(o:St) (n:Do (i.dp×l.dp)) (q:jQ) (x:EQ) (w:String) (p:dY) (t:gg),Sk ev o->(bN i n f).getD (zeroV l)=(bN i m f).getD (zeroV l)->bc o.h j=some (cA (.mp d i l n))->RS P ⟨q,.lookup b c e false,x,w,p,t⟩ o (enc (kg l ((bN i m f).getD (zeroV l)))):=by
 unfold rn at h;split at h
 next j M=>
  split at h
  next d i l m I=>
   split at h
   next Q z L=>
    split at h
    next f u=>
     obtain⟨y,E⟩:=aY h;simp only[av4]at y;obtain⟨⟨s,C⟩,D⟩:=y;have G:=rp s C;subst G;obtain⟨O,B⟩:=vy s f;have N:=Xp D;have J:e7 ev e≠.un:=λg=>by rw[g]at u;cases i<;>simp[NA,Lp]at u
     refine⟨j,d,i,l,m,f,I,B,E,λo n q x w p t A H K=>?_⟩;have look:Wk ((fM (o0 i l n) (sB i f)).getD (PH z)) (enc (kg l ((bN i m f).getD (zeroV l)))):=by
      rw[ri B,<-H];cases bN i n f with
      |none=>exact N
      |some v=>exact Wk.refl _
     exact(RS.lookup (P:=P) (dd:=q) (ty:=x) (pos:=w) (af:=p) (gd:=t) (F.mp _ _ L) (A.is M (by intro g;cases g)) K (by rw[A.is rfl J];exact AW s u) O).DX look
    .cases h
   .cases h
  .cases h
 .cases h
def ex2(c b:EV)(k:IntKind->Int->Int->At a):At a:=match c with
 |.sc (.i d) x=>match b with
  |.sc (.i e) y=>match eT (.i e) (.i d) y with
   |some z=>k d x z
   |none=>none
  |_=>none
 |_=>none
def aeD{k:IntKind->Int->Int->At a}{r:a}(h:ex2 (e7 ev c) (e7 ev e) k=some r):∃g d b,e7 ev c=.sc (.i g) d/\e7 ev e=.sc (.i g) b/\k g d b=some r:=by
 unfold ex2 at h;split at h
 next m d i=>
  split at h
  next n b j=>
   split at h
   next z l=>obtain⟨f,rfl⟩:=dC l;cases f;exact⟨m,d,b,i,j,h⟩
   .cases h
  .cases h
 .cases h
def NC(T:EQ->bz)(ev:Nat->EV)(hg:Nat->At eD)(b:Builtin)(d:gV)(f:jP)(k:EV->a_->At a):At a:=
 match b with
 |.len=>match d with
  |⟨[x]⟩=>match f[0]? with
   |some t=>cond (T t).lH (aey hg (e7 ev x) k) (Ve T hg t (e7 ev x) k)
   |none=>none
  |_=>none
 |.min=>match d with
  |⟨[x,y]⟩=>ex2 (e7 ev x) (e7 ev y) λe c b=>k (.sc (.i e) (if b<c then b else c)) []
  |_=>none
 |.max=>match d with
  |⟨[x,y]⟩=>ex2 (e7 ev x) (e7 ev y) λe c b=>k (.sc (.i e) (if b>c then b else c)) []
  |_=>none
 |_=>none
def aki(s:ByteArray)(i:Int):tW:=aZ (s.data.toList.map λb:UInt8=>(b.toNat:Int)) i
def exR(T:EQ->bz)(ev:Nat->EV)(hg:Nat->At eD)(u:Op)(k:EV->a_->At a):At a:=
 match u with
 |.move x=>k (e7 ev x) []
 |.assign x=>k (e7 ev x) []
 |.pick c x y=>match e7 ev c with
  |.sc .b b=>cond b (k (e7 ev x) []) (k (e7 ev y) [])
  |_=>none
 |.load t x=>Vf T hg t (e7 ev x) k
 |.binOp o t x y _=>aex T o t (e7 ev x) (e7 ev y) λc=>k c []
 |.unOp o _ x=>anA o (e7 ev x) λc=>k c []
 |.convert s t x=>match e7 ev x with
  |.sc (.i _) n=>match(T s).ik with
   |some _=>match(T t).ik with
    |some d=>k (.sc (.i d) (d.wrap n)) []
    |none=>none
   |none=>none
  |_=>none
 |.fieldAddr t x f=>match(T t).fd[f]? with
  |some (p,_,m)=>cond (Nat.blt 0 m) (match Nv (e7 ev x) p with
   |some q=>k q []
   |none=>none) none
  |none=>none
 |.field t x f=>Nx T t f (e7 ev x) λc=>k c []
 |.indexAddr t (.global g) y=>aez T t g (e7 ev y) k
 |.indexAddr t x y=>Nw T hg t (e7 ev x) (e7 ev y) k
 |.extract x i=>match e7 ev x with
  |.tu z=>match z[i]? with
   |some c=>k c []
   |none=>none
  |_=>none
 |.build t v=>Nz T ev hg t v.toList k
 |.lookup t x y r=>rn T hg t (e7 ev x) (e7 ev y) r k
 |.nilCheck x=>cond (nnA (enc (e7 ev x))) (k (e7 ev x) []) none
 |.makeFunc j l h=>k (.cl j (l.toList.map (e7 ev)) (h.toList.map (e7 ev))) []
 |.call ⟨.builtin b,e,w⟩=>NC T ev hg b e w k
 |.index t (.const (.string s)) y=>match e7 ev y with
  |.sc (.i _) i=>cond (T t).sg (aW (aki s i) λb=>k (.sc (.i .u8) b) []) none
  |_=>none
 |_=>none
def RS.Ic{P:Fd}{s:ByteArray}(r:P.underlying k=some .string)(u:t.ev c=.v (.int C A))(i:aZ (s.data.toList.map λS:UInt8=>(S.toNat:Int)) A=some S):
 RS P ⟨K,.index k (.const (.string s)) c,b,H,J,N⟩ t (.v (.int .u8 S)):=λy v e a w h=>by
 have d:=h.ev c;rw[u]at d;have d:=d.bS;obtain⟨g,f⟩:=e6 i;rw[awp]at f;obtain⟨q,n,rfl⟩:=awC.1 f;have o:s[A.toNat]? =some q:=by
  obtain⟨m,l⟩:=av7.1 n;have p:A.toNat<s.size:=by simpa using m
  rw[getElem?_pos s A.toNat p];exact awh some l
 refine⟨_,.v,λx _=>?_⟩;have j:a.eval (.const (.string s))=.string s:=rfl;simp[execOp,Instr.index,d,j,asIntOf,aww r,g,o]
def Vk(p:hS P T){k:EV->a_->At a}{r:a}{b:Builtin}{n:gV}(h:NC T ev hg b n W k=some r):∃c s,UR P (.call ⟨.builtin b,n,W⟩) ev hg c s/\k c s=some r:=by
 unfold NC at h;split at h
 .split at h
  next x=>
   split at h
   next t q=>
    rcases bR h with⟨o,i⟩|⟨o,i⟩
    .exact aeB p q o i
    .exact abU p q i
   .cases h
  .cases h
 .split at h
  next x y=>obtain⟨z,f,b,j,l,m⟩:=aeD h;exact⟨_,_,λB d C A u v g w=>RS.min2 (g.is j d8) (g.is l d8),m⟩
  .cases h
 .split at h
  next x y=>obtain⟨z,f,b,j,l,m⟩:=aeD h;exact⟨_,_,λB d C A u v g w=>RS.max2 (g.is j d8) (g.is l d8),m⟩
  .cases h
 .cases h
def Sk.wk(a:Sk ev t)(x:If):Wk (t.ev x) (enc (e7 ev x)):=by
 rcases a.x x with h|h
 .rw[h];exact Wk.un
 .rw[h];exact Wk.refl _
def Sk.wks{c:St}(b:Sk ev c):∀a:o_,qv (a.map c.ev) (a.map (enc∘e7 ev))
 |[]=>.nil
 |x::a=>.cons (b.wk x) (b.wks a)
def anE(l:hS P T){k:EV->a_->At a}{r:a}{D:Op}(h:exR T ev hg D k=some r):∃c E,UR P D ev hg c E/\k c E=some r:=by
 unfold exR at h;split at h
 .exact⟨_,_,λu d v t o p f s=>(RS.move _).DX (f.wk _),h⟩
 .exact⟨_,_,λu d v t o p f s=>(RS.assign _).DX (f.wk _),h⟩
 .split at h
  next c x y _ b B=>
   rcases bR h with⟨z,A⟩|⟨z,A⟩
   .subst z
    exact⟨_,_,λu d v t o p f s=>(RS.aqa (f.is B d8) rfl).DX (f.wk _),A⟩
   .subst z
    exact⟨_,_,λu d v t o p f s=>(RS.aqb (f.is B d8) rfl).DX (f.wk _),A⟩
  .cases h
 .exact abV l h
 .obtain⟨c,g,j⟩:=aeA l h
  exact⟨c,_,g,j⟩
 .obtain⟨c,g,j⟩:=akh h
  exact⟨c,_,g,j⟩
 .split at h
  next n w=>
   split at h
   next N F=>
    split at h
    next K G=>exact⟨_,_,λu d v t o p f s=>RS.conv (l.ik _ _ F) (l.ik _ _ G) (f.is w d8),h⟩
    .cases h
   .cases h
  .cases h
 .split at h
  next O L m H=>
   obtain⟨g,j⟩:=aY h;split at j
   next q C=>have M:0<m:=awd g;refine⟨_,_,λu d v t o p f s=>RS.fieldAddr (l.fd _ _ _ H) bv ?_,j⟩;rw[f.is rfl (λe=>by rw[e]at C;simp[Nv]at C)];exact abW C
   .cases j
  .cases h
 .obtain⟨c,g,j⟩:=Vi l h
  exact⟨c,_,g,j⟩
 .exact aeC l h
 .exact Vh l h
 .split at h
  next Q w=>
   split at h
   next c B=>refine⟨_,_,λu d v t o p f s=>RS.extract (f.is w d8) ?_,h⟩;rw[ei,awp,B];rfl
   .cases h
  .cases h
 .exact Vj l h
 .exact Ql l h
 next x=>
  obtain⟨g,j⟩:=aY h;refine⟨_,_,λu d v t o p f s=>?_,j⟩;have I:e7 ev x≠.un:=λe=>by rw[e]at g;simp[enc,nnA]at g
  have w:=f.is (x:=x) rfl I;rw[<-w];exact RS.nilCheck (by rw[w];exact g)
 .exact⟨_,_,λu d v t o p f s=>RS.makeFunc.DX (by
   rw[enc,ei,ei,axe,axe];exact Wk.clM (f.wks _) (f.wks _)),h⟩
 .exact Vk l h
 .split at h
  next K i J=>obtain⟨g,j⟩:=aY h;obtain⟨b,z,A⟩:=bp j;exact⟨_,_,λu d v t o p f s=>RS.Ic (l.sg _ g) (f.is J d8) z,A⟩
  .cases h
 .cases h
end
def Ff{e:Nat}:∀(a:Do (Do AV)) (i o:Nat) (r:Do AV) (c:AV),(∀r∈a,r.length=e)->a[i]? =some r->o<e->(a.set i (r.set o c)).flatten=a.flatten.set (i*e+o) c
 |[],i,o,r,c,_,h,_=>by simp at h
 |q::a,0,o,r,c,b,h,f=>by
  simp at h;subst h;have:=b q d5;simp only[ay9,awI,ayz,awB];rw[aAV _ _ bv]
 |q::a,i+1,o,r,c,b,h,f=>by
  have g:=b q d5;have k:=Ff a i o r c (λx j=>b x (by simp[j])) (by simpa using h) f;simp only[azs,awI];rw[k,azt _ _ (by rw[g,awK];omega),g];congr 2;rw[awK];omega
def Vl{a o:Nat}(e:∀i∈h,i.length=m)(b:h[a]? =some i)(f:o<m):a*m+o<h.flatten.length:=by
 rw[eM e];have c:=(av7.1 b).1;have:(a+1)*m<=h.length*m:=ax_ _ c;rw[awK]at this;omega
section
variable{P:Fd}
def Ga.vm{B:Bs}{p:bL}{k b:Nat}{t:EQ}{f:Nat}{i:Nat}:∀(xs:Do AV) (A:bI) (o:Nat) {st:St} {e:Env} {a:Act} {w:GE} {g:Do (Do AV)} {r:Do AV} (h:Ga B p e st a w) (G:bc st.h k=some (.arr t f g true)) (F:e.ca k=some b)
 (n:g[i]? =some r) (l:LR (VR (bT B p e st.h w) none) xs A) (E:∀c∈xs,c.one=true) (N:o+xs.length<=f) (m:Nat) (z:Nat) (O:z+m=i*f+o),
 ∃H J D,(storeCells ⟨b,z,none⟩ A m).run P w=.ok () J/\Ga B p H ⟨st.n,st.t,D⟩ a J/\bc D k=some (.arr t f (g.set i (setCells r o xs)) true)/\(∀j,j≠k->bc D j=bc st.h j)/\∀j,H.ca j=e.ca j
 |[],[],o,st,e,a,w,g,r,h,G,F,n,l,E,N,m,z,O=>by
  refine⟨e,w,st.h,rfl,h,?_,λ_ _=>rfl,λ_=>rfl⟩;rw[G,setCells];have:g.set i r=g:=by
   obtain⟨M,rfl⟩:=av7.1 n;exact ax4 M
  rw[this]
 |x::xs,u::A,o,st,e,a,w,g,r,h,G,F,n,l,E,N,m,z,O=>by
  have W:VR (bT B p e st.h w) none x u:=l.2 0 x u rfl rfl;have a4:LR (VR (bT B p e st.h w) none) xs A:=⟨by simpa using l.1,λj c v L R=>l.2 (j+1) c v (by simpa using L) (by simpa using R)⟩;obtain⟨I,ah,am,aa⟩:=h.sr.ob _ _ G;simp only[aws]at N;have a9:=I r (awg n);have a0:=Ff g i o r x I n bv;have a6:=Vl I n (o:=o) bv;obtain⟨M,ap⟩:=av7.1 n;have ae:∀q∈g.set i (r.set o x),q.length=f:=λq Q=>by
   rcases ayj Q with Q|rfl
   .exact I q Q
   .simpa using a9
  obtain⟨hs,S⟩:=h.sr.vm (rows':=g.set i (r.set o x)) G F (i*f+o) W (E x d5) d5 ae a0 a6;have U:∀j,(e.cR k (some b) (e.sv k) 0).ca j=e.ca j:=λj=>by by_cases y:j=k<;>simp[Env.cR,y,F]
  have ac:∀j,(e.cR k (some b) (e.sv k) 0).sv j=e.sv j:=λj=>by by_cases y:j=k<;>simp[Env.cR,y]
  have hg:Ga B p (e.cR k (some b) (e.sv k) 0) ⟨st.n,st.t,(k,some (.arr t f (g.set i (r.set o x)) true))::st.h⟩ a (w.setCell ⟨b,i*f+o,none⟩ u):=⟨h.n,h.d,hs,(h.tr.mono S).jt U ac⟩;obtain⟨H,J,D,ab,a1,a3,a2,Z⟩:=Ga.vm (i:=i) xs A (o+1) hg bf Env.cc (r:=r.set o x) (by rw[aw0];simp[M]) (a4.imp λ_ _ R=>R.mono S) (λc L=>E c (by simp[L])) bv (m+1) z bv;refine⟨H,J,D,?_,a1,?_,λj y=>by rw[a2 j y,bd y],λj=>by rw[Z j,U j]⟩
  .have X:(⟨b,z,none⟩:Addr).add m=⟨b,i*f+o,none⟩:=by rw[awT,O]
   rcases aa with⟨a8,_⟩|⟨C,ag,s,Y,aq,ai,hm,V,ak,a5,an⟩
   .rw[a8]at n;simp at n
   obtain rfl:=av_ (Y.symm.trans F);have a7:i*f+o<s.size:=by
    have:=a5.1;rw[awM]at this;have h2:s.toList.length=s.size:=d5
    omega
   have aj:w.cell? ⟨C,i*f+o,none⟩=some s[i*f+o]:=by
    rw[aw8 w C _ s t (0,0) V];simp[a7]
   have al:=ayA w C (i*f+o) s t V;have ao:u.oneCell'=true:=W.kT (E x d5) (λe k he=>by cases he);have ad:(store ⟨C,i*f+o,none⟩ u).run P w=.ok () (w.setCell ⟨C,i*f+o,none⟩ u):=by
    cases u<;>simp_all[store,Sem.run,Value.oneCell']
   simp only[storeCells,awi,X,ad,awk];exact ab
  .rw[a3,aAg];rfl
 |[],u::A,_,_,_,_,_,_,_,_,_,_,_,l,_,_,_,_,_=>by have:=l.1;simp at this
 |x::xs,[],_,_,_,_,_,_,_,_,_,_,_,l,_,_,_,_,_=>by have:=l.1;simp at this
variable{st:St}{d:Nat}{ty:EQ}{pos:String}{af:dY}{gd:gg}{K:St->Prop}
def SS.aeE{t v:EQ}{x y:If}{k c l o:Nat}{m:Hp}{n:Nat}(R:st.ev x=.pe k c l o)(M:kV st.h (st.ev y)=some (m,s))(J:bc m k=some (.arr v l h true))(U:h[c]? =some i)
 (X:UW P t=some (D,n)) (p:cellsOf s=some u) (N:u.length=n) (a0:u.all AV.one=true) (a3:o+n<=l) (E:K ⟨st.n,st.t,(k,some (.arr v l (h.set c (setCells i o u)) true))::m⟩):
 SS P ⟨none,.store t x y,ty,pos,af,gd⟩ st K:=by
 intro w0 a2 e a w next Q f O
 obtain⟨e1,a1,Z⟩:=vp f.sr (f.ev y) M;have z:=f.cX a1;obtain⟨B,Y,A⟩:=AP p Z;have r:=z.ev x;have S:(St.mk st.n st.t m).ev x=.pe k c l o:=by
  cases x<;>exact R
 rw[S]at r;generalize F:a.eval x=g at r;cases r with
 | @pe _ _ _ _ _ b G=>
  obtain⟨td,j,g2,C,_,rfl⟩:=jg X;obtain⟨e',w',h',V,H,L,I,_⟩:=Ga.vm (P:=P) u B o z J G U A (λs p=>awt.1 a0 s p) bv 0 (c*l+o) rfl;refine xC (w':=w') ?_ (O _ E _ _ _ (H.mh (λj=>by
   by_cases q:j=k
   .subst q;rw[bf];exact L.symm
   .rw[bd q];exact(I j q).symm)))
  have W:B.length=j.size:=by rw[A.1];exact N
  simp[execOp,Instr.storeAt,Instr.sureAddr,F,storeVar,Y,cT w C,W,V]
def OR.AX{Rd:bL}{k:Nat}{j rows':Do (Do AV)}{wr:In}(e:sA j rows')(y:∀c∈rows'.flatten,c.one=true)(h:OR Rd L o m (.arr b k j wr)):OR Rd L o m (.arr b k rows' wr):=by
 obtain⟨l,z,n,p⟩:=h;refine⟨e.wid l,y,n,?_⟩;rcases p with⟨rfl,f,g⟩|⟨a,w,x,q,f,g,r,s,t,u,v⟩
 .cases e
  exact .inl ⟨rfl,f,g⟩
 .have i:=e.flat.len
  exact .inr ⟨a,w,x,q,by rw[e.len];exact f,by rw[e.len];exact g,r,s,t,by rw[i];exact e.flat.lr u,by rw[i];exact v⟩
def cG.akj{A:Do (Nat×AV)}{k:Nat}{o p:Ob}{h:Hp}(H:∀Rd e w,OR Rd e w k o->OR Rd e w k p):cG P ⟨m,A,(k,some o)::h⟩ ⟨m,A,(k,some p)::h⟩:=by
 intro B x e a w c;have i:∀j,(∃ob,bc ((k,some o)::h) j=some ob)↔∃ob,bc ((k,some p)::h) j=some ob:=λj=>by
  by_cases g:j=k
  .subst g;simp[bc]
  .simp[bc,g]
 have y:∀b t u,bT B x e ((k,some o)::h) w b t u↔bT B x e ((k,some p)::h) w b t u:=λb t u=>by
  unfold bT;refine and_congr axU (and_congr axU ⟨λs j ob f l=>?_,λs j ob f l=>?_⟩)
  .obtain⟨n,r⟩:=(i j).2 ⟨ob,f⟩
   exact s j n r l
  .obtain⟨n,r⟩:=(i j).1 ⟨ob,f⟩
   exact s j n r l
 refine⟨e,c.n,c.d,⟨c.sr.ext,c.sr.lA,λj ob f=>?_,λj ob b f l=>?_,λj z ob n b F G C D=>?_,c.sr.yz⟩,c.tr.mono λb o u=>(y b o u).1⟩
 .refine OR.mono (λb o u=>(y b o u).1) ?_
  by_cases g:j=k
  .subst g
   rw[bf]at f;cases f;exact H _ _ _ (c.sr.ob j o bf)
  .rw[bd g]at f
   exact c.sr.ob j ob (by rw[bd g];exact f)
 .obtain⟨v,q⟩:=(i j).2 ⟨ob,f⟩
  exact c.sr.base j v b q l
 .obtain⟨v,q⟩:=(i j).2 ⟨ob,F⟩
  obtain⟨I,E⟩:=(i z).2 ⟨n,G⟩;exact c.sr.inj j z v I b q E C D
def cG.AX{n:Nat}{e:Do (Nat×AV)}{k:Nat}{t:EQ}{b:Nat}{a rows':Do (Do AV)}{wr:In}{h:Hp}(g:sA a rows')(f:∀c∈rows'.flatten,c.one=true):
 cG P ⟨n,e,(k,some (.arr t b a wr))::h⟩ ⟨n,e,(k,some (.arr t b rows' wr))::h⟩:=cG.akj λ_ _ _ h=>h.AX g f
def cG.wkT{f:Do (Nat×AV)}{i:Nat}(g:Wk s R):cG P ⟨m,(i,s)::f,n⟩ ⟨m,(i,R)::f,n⟩:=by
 intro k h e a w b;refine⟨e,b.n,b.d,b.sr,λj=>?_⟩;have:=b.tr j;by_cases c:j=i
 .subst c
  simp only[bO,awG]at this⊢;exact g _ _ _ this
 .simp only[bO,c,aw1]at this⊢
  exact this
end
variable{Q:jO}
def ky{hg:Nat->At eD}{h:Hp}{x:I.dp}{m:fv}(c:pa hg I y=some (x,m,B))(i:HC hg V h)(l:∀k,B.contains k=true->V.contains k=true)(j:I.w=1/\∀b:I.dp,bM I b=[encS I b]):
 (∃f,iQ h (enc y)=some (bF m++h,f)/\f.one=true/\qv [f] (bM I x))/\Gs hg m:=by
 obtain⟨⟨f,e,o⟩,p⟩:=aev c i l;refine⟨⟨f,e,?_,by rw[j.2];exact .cons o .nil⟩,p⟩;unfold pa at c;split at c
 next k=>
  split at c
  next t r A wr v=>
   split at c
   next b g=>simp only[av6,awn]at c;obtain⟨rfl,rfl,rfl⟩:=c;obtain⟨C,w⟩:=i k (l k d5) t r _ wr v;simp only[enc,iQ,w,av6,awn]at e;rw[<-e.2];rfl
   .cases c
  .cases c
 .split at c
  next b g=>
   rw[Ia (aeu g)]at e;simp only[av6,awn]at e;rw[<-e.2];clear e o p c i l;cases y with
   |sc z D=>
    obtain⟨rfl,rfl⟩:=dC g;have:=j.1;cases z with
    |pr a q=>
     have s:=rh (.pr a q) (zeroV (.pr a q)) .un (by rw[j.2];simp[encS]);cases s
    |u=>simp[Sc.w]at this
    |_=>rfl
   |nil=>rfl
   |ts r A=>rfl
   |_=>simp[Lp]at g
  .cases c
def xI{hg:Nat->At eD}:∀(s:Sc) {h:Hp} {l rest:Do EV} {x:s.dp} {g:fv} {i j:a_} (b:ju hg s l=some (x,rest,g,i)) (e:HC hg j h) (f:∀k,i.contains k=true->j.contains k=true),
 (∃C z,l=C++rest/\jD h (cw C)=some (bF g++h,z)/\qv z (bM s x)/\z.all AV.one=true)/\Gs hg g
 |.pr a c,h,l,rest,x,g,i,j,b,e,f=>by
  simp only[ju]at b;split at b
  next R z A B m=>
   split at b
   next vb N O Q E=>
    simp only[av6,awn]at b;obtain⟨rfl,rfl,rfl,rfl⟩:=b;obtain⟨⟨K,p1,rfl,F,L,H⟩,D⟩:=xI a m e (λk u=>f k (by simp at u⊢;exact .inl u));obtain⟨⟨q0,q1,rfl,G,M,I⟩,J⟩:=xI c E (e.put D λk h=>h) (λk u=>f k (by simp at u⊢;exact .inr u));refine⟨⟨K++q0,p1++q1,d5,?_,L.append M,by rw[aAf,H,I];rfl⟩,λk o p=>?_⟩
    .rw[mn,gi,awx]
     exact KV F G
    .rcases awc.1 p with p|p
     .exact J k o p
     .exact D k o p
   .cases b
  .cases b
 |.u,h,l,rest,x,g,i,j,b,e,f=>by
  simp only[ju,av6,awn]at b;obtain⟨-,rfl,rfl,rfl⟩:=b;exact⟨⟨[],[],rfl,rfl,.nil,rfl⟩,λk o p=>by cases p⟩
 |.i k,h,[],rest,x,g,i,j,b,e,f=>by simp[ju]at b
 |.b,h,[],rest,x,g,i,j,b,e,f=>by simp[ju]at b
 |.sl r,h,[],rest,x,g,i,j,b,e,f=>by simp[ju]at b
 |.i k,h,c::l,rest,x,g,i,j,b,e,f=>by
  simp only[ju]at b;split at b
  next a A B m=>simp only[av6,awn]at b;obtain⟨rfl,rfl,rfl,rfl⟩:=b;obtain⟨⟨q,t,v,y⟩,w⟩:=ky m e f ⟨rfl,λ_=>rfl⟩;exact⟨⟨[c],[q],rfl,zP t,y,by simp[v]⟩,w⟩
  .cases b
 |.b,h,c::l,rest,x,g,i,j,b,e,f=>by
  simp only[ju]at b;split at b
  next a A B m=>simp only[av6,awn]at b;obtain⟨rfl,rfl,rfl,rfl⟩:=b;obtain⟨⟨q,t,v,y⟩,w⟩:=ky m e f ⟨rfl,λ_=>rfl⟩;exact⟨⟨[c],[q],rfl,zP t,y,by simp[v]⟩,w⟩
  .cases b
 |.sl r,h,c::l,rest,x,g,i,j,b,e,f=>by
  simp only[ju]at b;split at b
  next a A B m=>simp only[av6,awn]at b;obtain⟨rfl,rfl,rfl,rfl⟩:=b;obtain⟨⟨q,t,v,y⟩,w⟩:=ky m e f ⟨rfl,λ_=>rfl⟩;exact⟨⟨[c],[q],rfl,zP t,y,by simp[v]⟩,w⟩
  .cases b
def vz(h:s.one=true):cellsOf s=some [s]:=by
 cases s<;>first|(simp[AV.one]at h;done)|simp only[cellsOf,h,awG]
def Fg{hg:Nat->At eD}{h:Hp}{x:I.dp}{r:fv}(b:rj hg I y=some (x,r,B))(m:HC hg V h)(o:∀k,B.contains k=true->V.contains k=true):
 (∃c s,kV h (enc y)=some (bF r++h,c)/\cellsOf c=some s/\qv s (bM I x)/\s.all AV.one=true)/\Gs hg r:=by
 unfold rj at b;split at b
 next w=>
  split at b
  .split at b
   next a u v q=>simp only[av6,awn]at b;obtain⟨rfl,rfl,rfl⟩:=b;obtain⟨⟨t,j,l,e,f,p⟩,g⟩:=xI _ q m o;simp only[awN]at l;subst l;exact⟨⟨.ag j,j,by simp only[enc,kV,e],rfl,f,p⟩,g⟩
   .cases b
  .split at b
   next a u v q=>simp only[av6,awn]at b;obtain⟨-,rfl,rfl⟩:=b;obtain⟨⟨t,j,l,e,f,p⟩,g⟩:=xI _ q m o;simp only[awN]at l;subst l;exact⟨⟨.ag j,j,by simp only[enc,kV,e],rfl,f,p⟩,g⟩
   .cases b
  .cases b
 .split at b
  .cases b
  .cases b
  .obtain⟨⟨c,e,i,f⟩,g⟩:=ky b m o ⟨rfl,λ_=>rfl⟩
   exact⟨⟨c,[c],Ns e,vz i,f,by simp[i]⟩,g⟩
  .obtain⟨⟨c,e,i,f⟩,g⟩:=ky b m o ⟨rfl,λ_=>rfl⟩
   exact⟨⟨c,[c],Ns e,vz i,f,by simp[i]⟩,g⟩
  .obtain⟨⟨c,e,i,f⟩,g⟩:=ky b m o ⟨rfl,λ_=>rfl⟩
   exact⟨⟨c,[c],Ns e,vz i,f,by simp[i]⟩,g⟩
structure Src where
 r:Sc
 xs:List r.dp
 tt:Bool
 os:fv
 us:a_
def Ls(hg:Nat->At eD):EV->At Src
 |.sc (.sl r) a=>some ⟨r,a,false,[],[]⟩
 |.ts r a=>some ⟨r,a,true,[],[]⟩
 |.ow j=>match hg j with
  |some (.arr t r a _)=>some ⟨r,a,false,[(j,some (.arr t r a false))],[j]⟩
  |_=>none
 |_=>none
def AY{hg:Nat->At eD}{h:Hp}{s:Src}(a:Ls hg y=some s)(g:HC hg B h)(i:∀k,s.us.contains k=true->B.contains k=true):
 iQ h (enc y)=some (bF s.os++h,.sl s.tt s.r.w (List.map (bM s.r) s.xs))/\Gs hg s.os/\y≠.un:=by
 unfold Ls at a;split at a
 .simp only[av6]at a;subst a
  exact⟨rfl,λk o b=>(by cases b),by intro e;cases e⟩
 .simp only[av6]at a;subst a
  exact⟨rfl,λk o b=>(by cases b),by intro e;cases e⟩
 next j=>
  split at a
  next t r f wr c=>
   simp only[av6]at a;subst a;obtain⟨m,l⟩:=g j (i j d5) t r f wr c;refine⟨?_,?_,by intro e;cases e⟩
   .simp only[enc,iQ,l];rfl
   .intro k o b
    simp only[awq,awn]at b;obtain⟨rfl,rfl⟩:=b;exact⟨t,r,f,wr,c,rfl⟩
  .cases a
 .cases a
def kj(b:Do a)(l h:Int):At (Do a):=if 0<=l/\l<=h/\h<=b.length then some ((b.take h.toNat).drop l.toNat)else none
def Qm(b:Do a)(l h m:Int):At (Do a):=if 0<=l/\l<=h/\h<=m/\m<=b.length then some ((b.take h.toNat).drop l.toNat)else none
def vg(ev:Nat->EV)(x:If):tW:=match e7 ev x with
 |.sc (.i _) i=>some i
 |_=>none
def kY{ev:Nat->EV}{x:If}(h:vg ev x=some A)(a:Sk ev t):∃k,t.ev x=.v (.int k A):=by
 unfold vg at h;split at h
 next k c b=>cases h;exact⟨k,a.is b d8⟩
 .cases h
def Ie:If->If->In
 |.tmp i,.tmp j=>beq i j
 |.const (.int _ a),.const (.int _ b)=>decide (a=b)
 |_,_=>false
def anF:jO->If->In
 |some x,y=>Ie x y
 |none,_=>false
def D8{ev:Nat->EV}(h:Ie c e=true)(b:vg ev c=some A)(a:vg ev e=some S):A=S:=by
 unfold Ie at h;split at h
 .have:=awb h
  subst this;rw[b]at a;exact av_ a
 .simp[vg,e7,cvE]at b a h
  rw[<-b,<-a,h]
 .cases h
def loE(ev:Nat->EV):jO->tW
 |none=>some 0
 |some x=>vg ev x
def hiE(ev:Nat->EV)(n:Nat):jO->tW
 |none=>some (n:Int)
 |some x=>vg ev x
def aeF{ev:Nat->EV}(h:loE ev Q=some A)(c:Sk ev t)(a:0<=A):ve t 0 Q=some A.toNat:=by
 cases Q with
 |none=>simp only[loE,av6]at h;subst h;rfl
 |some x=>
  obtain⟨k,b⟩:=kY (x:=x) h c;simp only[ve,b,a,awG]
def aeG{ev:Nat->EV}{n:Nat}(h:hiE ev n Q=some A)(c:Sk ev t)(a:0<=A):ve t n Q=some A.toNat:=by
 cases Q with
 |none=>simp only[hiE,av6]at h;subst h;simp[ve]
 |some x=>
  obtain⟨k,b⟩:=kY (x:=x) h c;simp only[ve,b,a,awG]
def ND(T:EQ->bz)(ev:Nat->EV)(hg:Nat->At eD)(t:EQ)(x:If)(f c g:jO)(k:EV->fv->a_->At a):At a:=
 match Ls hg (e7 ev x)with
 |some s=>match(T t).el with
  |some (_,i,_,_)=>cond (beq i s.r.w) (match loE ev f with
   |some l=>match hiE ev s.xs.length c with
    |some h=>match g with
     |none=>aW (kj s.xs l h) λb=>k (cond (s.tt && c.isNone) (.ts s.r b) (.sc (.sl s.r) b)) s.os s.us
     |some m=>cond (anF c m) (match vg ev m with
      |some _=>aW (kj s.xs l h) λb=>k (.ts s.r b) s.os s.us
      |none=>none) (match c with
      |none=>none
      |some _=>match vg ev m with
       |some e=>aW (Qm s.xs l h e) λb=>cond (decide (h=e)) (k (.ts s.r b) s.os s.us) none
       |none=>none)
    |none=>none
   |none=>none) none
  |none=>none
 |none=>none
section
variable{P:Fd}{T:EQ->bz}{ev:Nat->EV}{hg:Nat->At eD}{n d:Nat}{ty:EQ}{pos:String}{af:dY}{gd:gg}
def SS.nF{o:Oper}{c a b:St}(h:SS P o c λs=>s=a)(e:cG P a b):SS P o c λs=>s=b:=h.mono λs f=>by subst f;exact⟨_,e,rfl⟩
def Vm(R:hS P T){k:EV->fv->a_->At a}{r:a}{G u A:jO}(x:d<n)(h:ND T ev hg b c G u A k=some r):
 ∃f L M,FS P ⟨some d,.slice b c G u A,ty,pos,af,gd⟩ n ev hg f L M .no/\k f L M=some r:=by
 unfold ND at h;split at h
 next s Z=>
  split at h
  next e sz a0 z S=>
   obtain⟨J,v⟩:=aY h;clear h;have hw:=awb J;clear J;subst hw;have h:=v;clear v;split at h
   next l U=>
    split at h
    next o C=>
     have H:∀(m:tW) (B:Do s.r.dp) (f:EV),(0<=l/\l<=o/\o<=s.xs.length)->B=(s.xs.take o.toNat).drop l.toNat->(∀j,m=some j->o<=j/\j<=s.xs.length)->(∀st,Sk ev st->mxA st A=some (m.map Int.toNat))->(A.isSome=true->u.isSome=true)->
      Wk (zJ s.tt (List.map (bM s.r) s.xs) s.r.w l.toNat o.toNat (m.map Int.toNat)) (enc f)->FS P ⟨some d,.slice b c G u A,ty,pos,af,gd⟩ n ev hg f s.os s.us .no:=by
      intro m B f t i V Y X F st hn q Q hf;obtain⟨N,h2,O⟩:=AY Z Q.hc λ_ h=>h;have hx:=q.is rfl O;have:=SS.slice (P:=P) (ty:=ty) (pos:=pos) (af:=af) (gd:=gd) (d:=d) (h':=bF s.os++st.h) (tt:=s.tt) (rows:=List.map (bM s.r) s.xs) (l:=l.toNat) (h:=o.toNat) (m:=m.map Int.toNat) (K:=λs'=>s'=⟨st.n,(d,zJ s.tt (List.map (bM s.r) s.xs) s.r.w l.toNat o.toNat (m.map Int.toNat))::st.t,bF s.os++st.h⟩)
       (R.el _ _ S) (by rw[hx];exact N) (aeF U q t.1) (by rw[awa];exact aeG C q bv) (Y st q) X bv (by rw[awa];omega) (by
        intro y hy;obtain⟨j,w,rfl⟩:=awC.1 hy;have:=V j w;rw[awa];omega) bv rfl
      exact this.nF (cG.wkT F)
     have I:∀g:In,AV.sl g s.r.w (((List.map (bM s.r) s.xs).take o.toNat).drop l.toNat)=.sl g s.r.w (List.map (bM s.r) ((s.xs.take o.toNat).drop l.toNat)):=λg=>by
      rw[<-ays,<-ayI]
     split at h
     .obtain⟨B,i,p⟩:=bp h
      unfold kj at i;split at i
      next t=>
       cases i;refine⟨_,_,_,H none _ _ t rfl d5 (λst q=>rfl) d5 ?_,p⟩;unfold zJ;rw[I];simp only[ax2,zI,awa];cases a2:s.tt with
       |false=>
        simp only[Bool.false_and];exact Wk.refl _
       |true=>
        cases u with
        |none=>
         simp only[hiE,av6]at C;subst C;simp only[av9,aAh,Bool.true_and,Option.isNone_none];exact Wk.refl _
        |some y=>
         simp only[Bool.true_and,Option.isNone_some];cases a1:o.toNat==s.xs.length with
         |true=>exact Wk.tight
         |false=>exact Wk.refl _
      .cases i
     next m=>
      rcases bR h with⟨D,h⟩|⟨D,h⟩
      .split at h
       next j w=>
        obtain⟨B,i,p⟩:=bp h;unfold kj at i;split at i
        next t=>
         cases i;have W:j=o:=by
          cases u with
          |none=>cases D
          |some y=>exact(D8 D C w).symm
         subst W;refine⟨_,_,_,H (some j) _ _ t rfl (by rintro y ⟨⟩;omega) (λst q=>?_) (λ_=>by cases u with|none=>cases D|some y=>rfl) ?_,p⟩
         .obtain⟨kk,E⟩:=kY w q
          have v:0<=j:=bv
          simp[mxA,ve,E,v]
         .unfold zJ
          rw[I];simp only[aw9,zI,aAh];exact Wk.refl _
        .cases i
       .cases h
      .split at h
       .cases h
       next y=>
        split at h
        next j w=>
         obtain⟨B,i,p⟩:=bp h;unfold Qm at i;split at i
         next t=>
          cases i;have mk:=λf F=>H (some j) _ f ⟨t.1,t.2.1,bv⟩ rfl (by rintro y ⟨⟩;omega) (λst q=>by
           obtain⟨kk,E⟩:=kY w q;have v:0<=j:=bv
           simp[mxA,ve,E,v]) (λ_=>rfl) F
          rcases bR p with⟨x,p⟩|⟨x,p⟩
          .refine⟨_,_,_,mk (.ts s.r _) ?_,p⟩
           have x:o=j:=by simpa using x
           subst x;unfold zJ;rw[I];simp only[aw9,zI,aAh];exact Wk.refl _
          .cases p
         .cases i
        .cases h
    .cases h
   .cases h
  .cases h
 .cases h
end
def vx.x{d:Nat}{a:St}(b:vx (.one d) a)(x:If):(a.ev x).hL (λk=>k==d)=true:=by
 cases x with
 |tmp i=>exact b.t i
 |const v=>show(na v).hL _=true;unfold na;split<;>rfl
 |global g=>show(gA g).hL _=true;unfold gA;split<;>rfl
 |func f=>rfl
def Qn(h:cellsOf s=some i)(a:s.hL U=true):AV.oa U i=true:=by
 cases s with
 |ag l=>simp only[cellsOf,av6]at h;subst h;simpa[AV.hL]using a
 |_=>
  simp only[cellsOf]at h;split at h
  .simp only[av6]at h;subst h;simp[AV.oa,a]
  .cases h
def sF{d:Nat}:∀{a:Do AV},AV.oa (λk=>k==d) a=true->a.map (AV.kill d)=a
 |[],_=>rfl
 |c::a,h=>by
  simp only[AV.oa,av4]at h;rw[awo,re h.1,sF h.2]
def vA{hg:Nat->At eD}(d:Nat):∀{os:fv} {h:Hp},Gs hg os->bx d (bF os++h)=bF os++bx d h
 |[],h,_=>rfl
 |(k,o)::os,h,a=>by
  obtain⟨t,r,f,wr,e,rfl⟩:=a k o d5;have c:=vA d (os:=os) (h:=h) λk o b=>a k o (by simp[b]);simp only[bF,axh,bx,c];rfl
def akk(p:Nat->In)(v:Id):(na v).hL p=true:=by unfold na;split<;>rfl
def Qo(p:Nat->In):∀z:bI,AV.oa p (z.map na)=true
 |[]=>rfl
 |v::z=>by simp only[awo,AV.oa,akk,Qo p z];rfl
def vh(a:Int)(b:Nat):cn:=if 0<=a/\b*a.toNat<=140737488355328/\a.toNat<=maxLen then some a.toNat else none
def eG(b:Nat)(c ys:Do a):At (Do a):=if(c.length+ys.length)*b<=140737488355328/\c.length+ys.length<=maxLen then some (c++ys)else none
def sG:Do a->In
 |[]=>true
 |_::_=>false
def D9(ev:Nat->EV)(hg:Nat->At eD)(r:Sc):Nat->AH->At (Do r.dp×fv×a_)
 |_,[]=>some ([],[],[])
 |j,(i,x)::b=>cond (beq i j) (match rj hg r (e7 ev x)with
  |some (v,os,c)=>match D9 ev hg r (j+1) b with
   |some (e,a,us2)=>some (v::e,a++os,c++us2)
   |none=>none
  |none=>none) none
def aeH(T:EQ->bz)(ev:Nat->EV)(hg:Nat->At eD)(d:Nat)(t:EQ)(g:Nat)(c:AH)(k:EV->fv->a_->Fr->At a):At a:=
 match g with
 |0=>match c with
  |[]=>match(T t).el with
   |some (_,b,_,_)=>cond (Nat.blt 0 b) (k .nil [] [] .no) none
   |none=>none
  |_=>none
 |m+1=>match(T t).el with
  |some (e,b,_,_)=>match(T t).co with
   |some r=>match D9 ev hg r 0 c with
    |some (f,h,i)=>cond (beq b r.w && beq f.length (m+1) && Nat.ble ((m+1)*b) 16777216 && Nat.blt 0 b) (k (.ow d) ((d,some (.arr e r f true))::h) i (.one d)) none
    |none=>none
   |none=>none
  |none=>none
def Vn(T:EQ->bz)(ev:Nat->EV)(hg:Nat->At eD)(d:Nat)(t:EQ)(f:Nat)(h:AH)(k:EV->fv->a_->Fr->At a):At a:=
 match f with
 |0=>none
 |m+1=>match(T t).el with
  |some (e,b,_,_)=>match(T t).co with
   |some r=>match D9 ev hg r 0 h with
    |some (c,g,i)=>cond (beq b r.w && beq c.length (m+1) && Nat.ble ((m+1)*b) 16777216 && Nat.blt 0 b) (k (.ts r c) g i .no) none
    |none=>none
   |none=>none
  |none=>none
def Ig(T:EQ->bz)(ev:Nat->EV)(hg:Nat->At eD)(d:Nat)(t:EQ)(x y:If)(k:EV->fv->a_->Fr->At a):At a:=
 match(T t).el with
 |some (e,h,b,_)=>match Ls hg (e7 ev y)with
  |some s=>cond (beq h s.r.w && Nat.blt 0 h) (match e7 ev x with
   |.nil=>aW (eG b [] s.xs) λc=>k (.ow d) ((d,some (.arr e s.r c true))::s.os) s.us (.one d)
   |.ts r f=>match eT (.sl r) (.sl s.r) f with
    |some g=>cond (sG s.xs) none (aW (eG b (show Do s.r.dp from g) s.xs) λc=>k (.ow d) ((d,some (.arr e s.r c true))::s.os) s.us (.one d))
    |none=>none
   |.ow j=>match hg j with
    |some (.arr i r f wr)=>match eT (.sl r) (.sl s.r) f with
     |some g=>cond (beq e i && !(s.us.contains j) && !(beq d j)) (aW (eG b (show Do s.r.dp from g) s.xs) λc=>k (.ow d) ((d,some (.arr e s.r c wr))::(j,none)::s.os) (j::s.us) (.one d)) none
     |none=>none
    |_=>none
   |_=>none) none
  |none=>none
 |none=>none
def abX(s:Sc)(c:EV):At s.dp:=match s with
 |.i k=>match c with
  |.sc b x=>eT b (.i k) x
  |_=>none
 |.b=>match c with
  |.sc b x=>eT b .b x
  |_=>none
 |.pr a e=>match c with
  |.ag f=>cond (Sc.key (.pr a e)) (match Vd (.pr a e) f with
   |some (x,[])=>some x
   |_=>none) none
  |_=>none
 |_=>none
def Xr{x:I.dp}(h:abX I y=some x):enc y=enc (kg I x)/\(enc y).fz=false\/enc y=enc (kg I x)/\(enc y).fz=true:=by
 have:enc y=enc (kg I x):=by
  unfold abX at h;split at h
  .split at h
   .obtain⟨rfl,rfl⟩:=dC h;rfl
   .cases h
  .split at h
   .obtain⟨rfl,rfl⟩:=dC h;rfl
   .cases h
  .split at h
   .obtain⟨e,a⟩:=aY h
    split at a
    next j f=>cases a;obtain⟨g,b,c⟩:=D7 _ f e;rw[awN]at b;subst b;simp only[enc,kg,c,hY]
    .cases a
   .cases h
  .cases h
 cases i:(enc y).fz with
 |true=>exact .inr ⟨this,rfl⟩
 |false=>exact .inl ⟨this,rfl⟩
def Lt{h:Hp}:∀{cs:Do AV},(∀c∈cs,c.fz=true)->jD h cs=some (h,cs)
 |[],_=>rfl
 |c::cs,a=>by
  have e:=Lt (h:=h) (cs:=cs) λc b=>a c (by simp[b]);simp only[jD,Ia (a c d5),e]
def Ih{h:Hp}(s:Sc)(x:s.dp):kV h (enc (kg s x))=some (h,enc (kg s x)):=by
 cases s with
 |pr a b=>
  simp only[kg,enc,hY,kV,Lt (Nr (.pr a b) x)]
 |_=>rfl
def vC(hg:Nat->At eD)(c:EV):(r:Sc)->r.dp->Nat->Nat->At (r.dp×fv×a_)
 |.pr a b2,x,o,m=>cond (beq o 0 && beq m (a.w+b2.w)) (rj hg (.pr a b2) c) (cond (Nat.blt o a.w) (match vC hg c a x.1 o m with
  |some (y,b,e)=>some ((y,x.2),b,e)
  |none=>none) (match vC hg c b2 x.2 (o - a.w) m with
  |some (y,b,e)=>some ((x.1,y),b,e)
  |none=>none))
 |.i k,_,o,m=>cond (beq o 0 && beq m 1) (rj hg (.i k) c) none
 |.b,_,o,m=>cond (beq o 0 && beq m 1) (rj hg .b c) none
 |.sl r,_,o,m=>cond (beq o 0 && beq m 1) (rj hg (.sl r) c) none
 |.u,_,_,_=>none
def iT:∀(xs a b:Do AV) (o:Nat),o+xs.length<=a.length->setCells (a++b) o xs=setCells a o xs++b
 |[],a,b,o,h=>rfl
 |x::xs,a,b,o,h=>by
  simp only[aws]at h;simp only[setCells];rw[aAV _ _ bv];exact iT xs _ b (o+1) d7
def fU:∀(c a b:Do AV) (o:Nat),a.length<=o->setCells (a++b) o c=a++setCells b (o - a.length) c
 |[],a,b,o,h=>rfl
 |x::c,a,b,o,h=>by
  simp only[setCells];rw[azt _ _ h,fU c a _ (o+1) bv];congr 2;omega
def sH:∀(b a:Do AV),b.length=a.length->setCells a 0 b=b
 |[],[],_=>rfl
 |x::b,y::a,h=>by
  simp only[setCells,ay9];have:=fU b [x] a 1 d5;simp only[axn,aye,azu,awB]at this⊢;rw[this,sH b a (by simpa using h)]
def akl{hg:Nat->At eD}{h:Hp}(K:HC hg B h):∀(r:Sc) (x:r.dp) (o m:Nat) {c:r.dp} {l:fv} {s:a_},vC hg y r x o m=some (c,l,s)->(∀k,s.contains k=true->B.contains k=true)->
 (∃q f,kV h (enc y)=some (bF l++h,q)/\cellsOf q=some f/\f.all AV.one=true/\f.length=m/\o+m<=r.w/\qv (setCells (bM r x) o f) (bM r c))/\Gs hg l:=by
 have C:∀(r:Sc) (x:r.dp) (o m:Nat) {c:r.dp} {l:fv} {s:a_},beq o 0=true->beq m r.w=true->rj hg r y=some (c,l,s)->(∀k,s.contains k=true->B.contains k=true)->
  (∃q f,kV h (enc y)=some (bF l++h,q)/\cellsOf q=some f/\f.all AV.one=true/\f.length=m/\o+m<=r.w/\qv (setCells (bM r x) o f) (bM r c))/\Gs hg l:=by
  intro r x o m c l s e g L p;have e:=awb e;have g:=awb g;subst e g;obtain⟨⟨q,f,w,z,v,A⟩,E⟩:=Fg L K p;have J:f.length=r.w:=by rw[<-v.len,fy]
  refine⟨⟨q,f,w,z,A,J,bv,?_⟩,E⟩;rw[sH f _ (by rw[fy];exact J)];exact v
 intro r
 induction r with
 |pr a U N O=>
  intro x o m c l s j p;simp only[vC]at j;rcases bR j with⟨e,g⟩|⟨e,g⟩
  .simp only[av4]at e
   exact C _ x o m e.1 e.2 g p
  .rcases bR g with⟨H,t⟩|⟨H,t⟩
   .split at t
    next S Q R I=>simp only[av6,awn]at t;obtain⟨rfl,rfl,rfl⟩:=t;obtain⟨⟨q,f,w,z,v,A,E,F⟩,G⟩:=N x.1 o m I p;refine⟨⟨q,f,w,z,v,A,by simp only[Sc.w];omega,?_⟩,G⟩;simp only[bM];rw[iT _ _ _ _ (by rw[fy];omega)];exact F.append (qv.refl _)
    .cases t
   .split at t
    next S Q R I=>
     simp only[av6,awn]at t;obtain⟨rfl,rfl,rfl⟩:=t;have V:a.w<=o:=by
      cases D:Nat.blt o a.w with
      |true=>rw[D]at H;cases H
      |false=>
       have:¬o<a.w:=λM=>by
        have:=aAi M;rw[show Nat.blt o a.w=Nat.ble (o+1) a.w from rfl]at D;rw[this]at D;cases D
       omega
     obtain⟨⟨q,f,w,z,v,A,E,F⟩,G⟩:=O x.2 (o - a.w) m I p;refine⟨⟨q,f,w,z,v,A,by simp only[Sc.w];omega,?_⟩,G⟩;simp only[bM];rw[fU _ _ _ _ (by rw[fy];omega),fy];exact(qv.refl _).append F
    .cases t
 |i k=>
  intro x o m c l s j p;simp only[vC]at j;obtain⟨e,g⟩:=aY j;simp only[av4]at e;exact C _ x o m e.1 e.2 g p
 |b=>
  intro x o m c l s j p;simp only[vC]at j;obtain⟨e,g⟩:=aY j;simp only[av4]at e;exact C _ x o m e.1 e.2 g p
 |sl r W=>
  intro x o m c l s j p;simp only[vC]at j;obtain⟨e,g⟩:=aY j;simp only[av4]at e;exact C _ x o m e.1 e.2 g p
 |u=>
  intro x o m c l s j p;simp[vC]at j
def aeI:Ni->Int->In
 |none,_=>true
 |some (a,_),i=>decide (i.toNat=a.toNat)
def NF(T:EQ->bz)(ev:Nat->EV)(hg:Nat->At eD)(t:EQ)(x y:If)(k:fv->a_->At a):At a:=
 match(T t).ty with
 |some (_,m)=>match e7 ev x with
  |.pt j o=>match hg j with
   |some (.box c e)=>match qw (e7 ev y)with
    |some xs=>cond (!(beq c HN) && beq xs.length m && Nat.ble (o+m) e.length && (cw xs).all AV.one && owE hg (e7 ev y) && xs.all (owE hg)) (k [(j,some (.box c (rk e o xs)))] (j::owU (e7 ev y)++xs.flatMap owU)) none
    |none=>none
   |_=>none
  |.pe j i f o=>match hg j with
   |some (.arr c r xs true)=>cond (beq f r.w) (aW (aZ xs i) λb=>match vC hg (e7 ev y) r b o m with
    |some (h,q,g)=>cond (g.contains j) none (k ((j,some (.arr c r (xs.set i.toNat h) true))::q) (j::g))
    |none=>none) none
   |some (.nr c r xs l)=>cond (beq f 1 && beq o 0 && beq m 1) (match e7 ev y with
    |.ow p=>match hg p with
     |some (.arr _ _ _ _)=>cond (aeI l i) (aW (aZ xs i) λ_=>k [(j,some (.nr c r xs (some (i,some p))))] [j,p]) none
     |_=>none
    |_=>none) none
   |_=>none
  |_=>none
 |none=>none
def AZ(T:EQ->bz)(ev:Nat->EV)(hg:Nat->At eD)(t:EQ)(x y v:If)(k:fv->a_->At a):At a:=
 match e7 ev x with
 |.mp j=>match hg j with
  |some (.mp d e f g)=>match(T t).mp with
   |some (h,_)=>match NA e (e7 ev y)with
    |some c=>match abX f (e7 ev v)with
     |some b=>cond (mo d e && mo h e) (k [(j,some (.mp d e f (d_ e g c b)))] [j]) none
     |none=>none
    |none=>none
   |none=>none
  |_=>none
 |_=>none
def anG:bI->In
 |[.slice none 0 0]=>true
 |_=>false
def Ii(T:EQ->bz)(ev:Nat->EV)(d:Nat)(t:EQ)(x y:If)(k:EV->fv->a_->Fr->At a):At a:=
 match(T t).el with
 |some (e,f,b,z)=>match(T t).co with
  |some (.sl r)=>cond (beq f 1 && Ie x y && anG z) (match vg ev x with
   |some c=>match vg ev y with
    |some _=>aW (vh c b) λm=>k (.ow d) [(d,some (.nr e r (replicate m ([]:Do r.dp)) none))] [] (.one d)
    |none=>none
   |none=>none) none
  |_=>none
 |none=>none
def aeJ(T:EQ->bz)(ev:Nat->EV)(hg:Nat->At eD)(t:EQ)(j o:Nat)(e c f:jO)(k:EV->a_->At a):At a:=
 match(T t).ar with
 |some (n,_,b)=>match hg j with
  |some (.arr _ r g _)=>cond (beq o 0 && beq b r.w && f.isNone && Nat.ble n 1000000) (match loE ev e with
   |some l=>match hiE ev n c with
    |some h=>aW (kj (replicate n ()) l h) λ_=>k (.sw j l (h - l) b) [j]
    |none=>none
   |none=>none) none
  |_=>none
 |none=>none
def abY(r:Sc):Nat->bI->In
 |0,z=>z.isEmpty
 |n+1,z=>match vf r z with
  |some a=>abY r n a
  |none=>false
def exM(T:EQ->bz)(ev:Nat->EV)(hg:Nat->At eD)(d:Nat)(w:Op)(k:EV->fv->a_->Fr->At a):At a:=
 match w with
 |.box t x=>match qw (e7 ev x)with
  |some u=>cond (!(beq t HN) && owE hg (e7 ev x)) (k (.pt d 0) [(d,some (.box t u))] (owU (e7 ev x)) (.one d)) none
  |none=>none
 |.alloc t=>cond (!(beq t HN)) (match(T t).ze with
  |some z=>match(T t).ar with
   |some (n,_,g)=>cond (Nat.ble n 3) (k (.pt d 0) [(d,some (.box t (z.map cvE)))] [] (.one d)) (match(T t).co with
    |some r=>cond (beq g r.w && abY r n z && Nat.ble n 1000000) (k (.pt d 0) [(d,some (.arr t r (replicate n (zeroV r)) true))] [] (.one d)) none
    |none=>none)
   |none=>k (.pt d 0) [(d,some (.box t (z.map cvE)))] [] (.one d)
  |none=>none) none
 |.makeSlice t x y=>match(T t).el with
  |some (e,g,b,z)=>match(T t).co with
   |some r=>cond (beq g r.w && Nat.blt 0 g && Ie x y) (match vf r z with
    |some []=>match vg ev x with
     |some f=>match vg ev y with
      |some _=>aW (vh f b) λm=>k (.ow d) [(d,some (.arr e r (replicate m (zeroV r)) true))] [] (.one d)
      |none=>none
     |none=>none
    |_=>none) none
   |none=>none
  |none=>none
 |.makeMap t none=>match(T t).mp with
  |some (s,_)=>match(T t).kv with
   |some (l,D)=>cond (mo s l) (k (.mp d) [(d,some (.mp s l D []))] [] (.one d)) none
   |none=>none
  |none=>none
 |.slice t x p i q=>match e7 ev x with
  |.pt j o=>aeJ T ev hg t j o p i q λc h=>k c [] h .no
  |_=>ND T ev hg t x p i q λc A h=>k c A h .no
 |.buildSlice t v B=>aeH T ev hg d t v B.toList k
 |.call ⟨.builtin .append,⟨[x,y]⟩,⟨[t,C]⟩⟩=>cond (beq t C) (Ig T ev hg d t x y k) none
 |_=>none
section
variable{P:Fd}{T:EQ->bz}{ev:Nat->EV}{hg:Nat->At eD}{n d:Nat}{ty:EQ}{pos:String}{af:dY}{gd:gg}
def FS.box{t:EQ}{x:If}{b:Do EV}(o:t≠HN)(p:d<n)(c:qw (e7 ev x)=some b)(l:owE hg (e7 ev x)=true):
 FS P ⟨some d,.box t x,ty,pos,af,gd⟩ n ev hg (.pt d 0) [(d,some (.box t b))] (owU (e7 ev x)) (.one d):=by
 intro a q m j g;have i:a.ev x=enc (e7 ev x):=m.is rfl (λe=>by rw[e]at c;simp[qw,enc,AV.one]at c);have f:=D6 c;rw[<-i]at f;have k:=sF (Qn f (g.x x));have:=SS.box (P:=P) (t:=t) (ty:=ty) (pos:=pos) (af:=af) (gd:=gd) (d:=d) (K:=λs=>s=⟨a.n,kX (some d) (.pt d 0) (dm d a.t),bF [(d,some (.box t b))]++bx d a.h⟩) o f (by rw[i];exact Ny l j λ_ h=>h) bv (by rw[k];rfl);exact SS.fresh g.t g.h this
def FS.alloc(c:hS P T){t:EQ}{z:bI}(f:t≠HN)(i:d<n)(g:(T t).ze=some z):
 FS P ⟨some d,.alloc t,ty,pos,af,gd⟩ n ev hg (.pt d 0) [(d,some (.box t (z.map cvE)))] [] (.one d):=by
 intro a j l h b;have e:=sF (Qo (λk=>k==d) z);have:=SS.alloc (P:=P) (st:=a) (t:=t) (ty:=ty) (pos:=pos) (af:=af) (gd:=gd) (d:=d) (K:=λs=>s=⟨a.n,kX (some d) (.pt d 0) (dm d a.t),bF [(d,some (.box t (z.map cvE)))]++bx d a.h⟩) f (c.ze _ _ g) bv (by rw[e];simp only[bF,Option.map,cA,Qg];rfl);exact SS.fresh b.t b.h this
def sA.rep{a c:Do AV}(h:qv a c):∀m,sA (replicate m a) (replicate m c)
 |0=>.nil
 |m+1=>.cons h (sA.rep h m)
def fm(r:Sc)(e:Do r.dp):∀c∈(List.map (bM r) e).flatten,c.one=true:=by
 intro c a;obtain⟨l,b,a⟩:=ax5.1 a;obtain⟨x,_,rfl⟩:=awe.1 b;exact rh r x c a
def FS.make(w:hS P T){t e:EQ}{x y:If}{g b:Nat}{z:bI}{r:Sc}{a:Int}{m:Nat}(J:d<n)(A:(T t).el=some (e,g,b,z))(B:g=r.w)(v:0<g)(F:vf r z=some [])(D:vg ev x=some a)(E:vg ev y=some a)(c:vh a b=some m):
 FS P ⟨some d,.makeSlice t x y,ty,pos,af,gd⟩ n ev hg (.ow d) [(d,some (.arr e r (replicate m (zeroV r)) true))] [] (.one d):=by
 intro f L o I l;unfold vh at c;split at c
 next k=>
  cases c;obtain⟨O,i,p,q,u⟩:=pc r F;rw[awN]at i;subst i;obtain⟨M,G⟩:=kY D o;obtain⟨N,H⟩:=kY E o;have j:((a.toNat:Nat):Int)=a:=bv
  have:=SS.make (P:=P) (t:=t) (ty:=ty) (pos:=pos) (af:=af) (gd:=gd) (d:=d) (n:=a.toNat) (K:=λs=>s=⟨f.n,kX (some d) (.ow d) (dm d f.t),[(d,some (.arr e g (replicate a.toNat (z.map na)) true))]++bx d f.h⟩) (w.el _ _ A) (by rw[j];exact G) (by rw[j];exact H) k.2.1 k.2.2 q u v bv rfl;refine(SS.fresh l.t l.h this).nF ?_;subst B;have C:=sA.rep p a.toNat;refine cG.AX (h:=f.h) (rows':=List.map (bM r) (replicate a.toNat (zeroV r))) ?_ (fm r _);rw[aAj];exact C
 .cases c
def A0(c:AV):∀m:Nat,(replicate m [c]).flatten=replicate m c
 |0=>rfl
 |m+1=>by rw[axG,awI,A0 c m];rfl
def akn(h:anG F=true):F=[.slice none 0 0]:=by
 unfold anG at h;split at h
 .rfl
 .cases h
def Qp(G:hS P T){k:EV->fv->a_->Fr->At a}{r:a}(S:d<n)(h:Ii T ev d b c e k=some r):
 ∃g C D t,FS P ⟨some d,.makeSlice b c e,ty,pos,af,gd⟩ n ev hg g C D t/\k g C D t=some r:=by
 unfold Ii at h;split at h
 next g X i z H=>
  split at h
  next N R=>
   obtain⟨u,j⟩:=aY h;simp only[av4]at u;obtain⟨⟨p,E⟩,q⟩:=u;have p:=awb p;have q:=akn q;subst p;subst q;split at j
   next f v=>
    split at j
    next O w=>
     obtain⟨m,l,I⟩:=bp j;obtain rfl:=D8 E v w;refine⟨_,_,_,_,λo U B Q A=>?_,I⟩;unfold vh at l;split at l
     next y=>
      cases l;obtain⟨V,L⟩:=kY v B;obtain⟨W,M⟩:=kY w B;have x:((f.toNat:Nat):Int)=f:=bv
      have:=SS.make (P:=P) (t:=b) (ty:=ty) (pos:=pos) (af:=af) (gd:=gd) (d:=d) (n:=f.toNat) (K:=λs=>s=⟨o.n,kX (some d) (.ow d) (dm d o.t),[(d,some (.arr g 1 (replicate f.toNat ([Value.slice none 0 0].map na)) true))]++bx d o.h⟩) (G.el _ _ H) (by rw[x];exact L) (by rw[x];exact M) y.2.1 y.2.2 rfl rfl bv bv rfl;refine(SS.fresh A.t A.h this).nF ?_;refine cG.akj (h:=o.h) λRd e0 Y J=>?_;have:=J.anx;have F:(replicate f.toNat ([Value.slice none 0 0].map na)).flatten=zO N (replicate f.toNat []) none:=by
       show(replicate f.toNat [AV.sl true 0 []]).flatten=_;rw[A0,zO,aAj];rfl
      rw[F]at this;exact this
     .cases l
    .cases j
   .cases j
  .cases h
 .cases h
def Xs{r:Sc}:∀{n:Nat} {z:bI},abY r n z=true->∃a:Do bI,a.length=n/\a.flatten=z/\sA (a.map (List.map na)) (replicate n (bM r (zeroV r)))/\∀y∈a,y.all (λv=>(na v).one)=true
 |0,z,h=>by
  have:z=[]:=by simpa[abY]using h
  subst this;exact⟨[],rfl,rfl,.nil,λy b=>(by cases b)⟩
 |n+1,z,h=>by
  simp only[abY]at h;split at h
  next o k=>
   obtain⟨l,rfl,c,m,e⟩:=pc r k;obtain⟨a,f,g,i,j⟩:=Xs h;refine⟨l::a,by simp[f],by simp[g],?_,λy b=>?_⟩
   .rw[awo,axG]
    exact .cons c i
   .rcases awr.1 b with rfl|b
    .exact e
    .exact j y b
  .cases h
def FS.H8(A:hS P T){t:EQ}{z:bI}{m e:Nat}{r:Sc}(Q:d<n)(L:(T t).ze=some z)(o:e=r.w)(B:abY r m z=true)(R:m<=1000000):
 FS P ⟨some d,.alloc t,ty,pos,af,gd⟩ n ev hg (.pt d 0) [(d,some (.arr t r (replicate m (zeroV r)) true))] [] (.one d):=by
 intro g S I O l;obtain⟨i,p,u,k,w⟩:=Xs B;have E:(i.map (List.map na)).flatten=z.map na:=by rw[<-u,List.map_flatten]
 have F:∀q∈i.map (List.map na),q.length=e:=by
  have N:∀{a c:Do (Do AV)},sA a c->(∀x∈c,x.length=e)->∀x∈a,x.length=e:=by
   intro a c C
   induction C with
   |nil=>intro _ x b;cases b
   |cons h I M=>
    intro f x b;rcases awr.1 b with rfl|b
    .rw[<-h.len];exact f _ d5
    .exact M (λy j=>f y (by simp[j])) x b
  refine N k λx b=>?_;rw[aAM b,fy,o]
 have G:∀c∈(i.map (List.map na)).flatten,c.one=true:=by
  intro c f;obtain⟨q,H,D⟩:=ax5.1 f;obtain⟨y,j,rfl⟩:=awe.1 H;obtain⟨v,J,rfl⟩:=awe.1 D;exact awt.1 (w y j) v J
 have:=SS.H8 (P:=P) (t:=t) (ty:=ty) (pos:=pos) (af:=af) (gd:=gd) (d:=d) (K:=λs=>s=⟨g.n,kX (some d) (.pt d 0) (dm d g.t),[(d,some (.arr t e (i.map (List.map na)) true))]++bx d g.h⟩) (A.ze _ _ L) F (by rw[awa,p]) E G (by unfold maxLen;omega) bv rfl;refine(SS.fresh l.t l.h this).nF ?_;subst o;refine cG.AX (h:=g.h) (rows':=List.map (bM r) (replicate m (zeroV r))) ?_ (fm r _);rw[aAj];exact k
def aeK(C:hS P T){k:EV->a_->At a}{r:a}{j o:Nat}{z y u:jO}(H:e7 ev c=.pt j o)(h:aeJ T ev hg b j o z y u k=some r):
 ∃f A,UR P (.slice b c z y u) ev hg f A/\k f A=some r:=by
 unfold aeJ at h;split at h
 next n e O G=>
  split at h
  next J N Q wr M=>
   obtain⟨x,g⟩:=aY h;clear h;simp only[av4]at x;obtain⟨⟨⟨i,K⟩,m⟩,v⟩:=x;have i:=awb i;subst i;have m:u=none:=by simpa using m
   subst m;have v:=awd v;split at g
   next l F=>
    split at g
    next p D=>
     obtain⟨q,s,E⟩:=bp g;refine⟨_,_,λI d ty pos af gd t L=>?_,E⟩;unfold kj at s;split at s
     next w=>
      rw[ay_]at w;have:=RS.anw (P:=P) (st:=I) (dd:=d) (ty:=ty) (pos:=pos) (af:=af) (gd:=gd) (C.ar _ _ G) (t.is H d8) (aeF F t w.1) (aeG D t bv) (l:=l.toNat) (h:=p.toNat) bv bv (by unfold maxLen;omega);have B:(p - l).toNat=p.toNat - l.toNat:=bv
      simp only[enc,B];exact this
     .cases s
    .cases g
   .cases g
  .cases h
 .cases h
def FS.makeMap(e:hS P T){t:EQ}{b:TypeDesc}{z:Id}{g h:Sc}(j:d<n)(f:(T t).mp=some (b,z)):
 FS P ⟨some d,.makeMap t none,ty,pos,af,gd⟩ n ev hg (.mp d) [(d,some (.mp b g h []))] [] (.one d):=by
 intro a k l i c;have:=SS.makeMap (P:=P) (t:=t) (ty:=ty) (pos:=pos) (af:=af) (gd:=gd) (d:=d) (K:=λs=>s=⟨a.n,kX (some d) (.mp d) (dm d a.t),[(d,some (.mp b []))]++bx d a.h⟩) (e.mp _ _ f) bv rfl;exact SS.fresh c.t c.h this
def D_{b ys e:Do a}(h:eG m b ys=some e):(b.length+ys.length)*m<=140737488355328/\b.length+ys.length<=maxLen/\e=b++ys:=by
 unfold eG at h;split at h
 next c=>cases h;exact⟨c.1,c.2,rfl⟩
 .cases h
def Qq(S:hS P T){k:EV->fv->a_->Fr->At a}{r:a}(hd:d<n)(h:Ig T ev hg d b c e k=some r):
 ∃g Z us W,FS P ⟨some d,.call ⟨.builtin .append, #[c,e], #[b,b]⟩,ty,pos,af,gd⟩ n ev hg g Z us W/\k g Z us W=some r:=by
 unfold Ig at h;split at h
 next f N l z U=>
  split at h
  next s L=>
   obtain⟨R,t⟩:=aY h;clear h;simp only[av4]at R;have y:=awb R.1;have Q:0<N:=awd R.2;split at t
   next H=>
    obtain⟨zs,I,w⟩:=bp t;obtain⟨C,D,rfl⟩:=D_ I;refine⟨_,_,_,_,?_,w⟩;intro st X x A v;obtain⟨E,F,G⟩:=AY L A.hc λ_ h=>h;have:=SS.Ll (P:=P) (t:=b) (x:=c) (y:=e) (ty:=ty) (pos:=pos) (af:=af) (gd:=gd) (d:=d) (K:=λJ=>J=⟨st.n,kX (some d) (.ow d) (dm d st.t),((d,some (.arr f N (List.map (bM s.r) s.xs) true))::bF s.os)++bx d st.h⟩)
     (S.el _ _ U) (x.is H d9) (by rw[x.is rfl G,y];exact E) Q (by rw[awa];simpa using D) (by rw[awa];simpa using C) bv (by rw[vA d F];rfl)
    have o:=SS.fresh v.t v.h this;rw[y]at o;exact o
   next r' B H=>
    split at t
    next a7 m=>
     obtain⟨O,rfl⟩:=dC m;cases O;rcases bR t with⟨_,o⟩|⟨Y,o⟩
     .cases o
     obtain⟨zs,I,w⟩:=bp o;obtain⟨C,D,rfl⟩:=D_ I;refine⟨_,_,_,_,?_,w⟩;intro st X x A v;obtain⟨E,F,G⟩:=AY L A.hc λ_ h=>h;have a1:0<s.xs.length:=by
      cases a5:s.xs with
      |nil=>rw[a5]at Y;cases Y
      |cons i aS=>simp
     have:=SS.Qb (P:=P) (t:=b) (x:=c) (y:=e) (ty:=ty) (pos:=pos) (af:=af) (gd:=gd) (d:=d) (rows:=List.map (bM s.r) B) (K:=λJ=>J=⟨st.n,kX (some d) (.ow d) (dm d st.t),((d,some (.arr f N (List.map (bM s.r) B++List.map (bM s.r) s.xs) true))::bF s.os)++bx d st.h⟩)
      (S.el _ _ U) (by rw[x.is H d9,y];rfl) (by rw[x.is rfl G,y];exact E) (by rw[awa];exact a1) Q (by simp only[awa];exact D) (by simp only[awa];exact C) bv (by rw[vA d F];rfl)
     have o:=SS.fresh v.t v.h this;rw[y,<-awQ]at o;exact o
    .cases t
   next j H=>
    split at t
    next e' r' B wr hj=>
     split at t
     next a7 m=>
      obtain⟨O,rfl⟩:=dC m;cases O;obtain⟨q,o⟩:=aY t;simp only[av4,axi]at q;obtain⟨⟨V,q2⟩,M⟩:=q;have V:=awb V;subst V;have M:d≠j:=λf=>by rw[f,awD]at M;cases M
      obtain⟨zs,I,w⟩:=bp o;obtain⟨C,D,rfl⟩:=D_ I;refine⟨_,_,_,_,?_,w⟩;intro st X x A v;have a4:∀k,s.us.contains k=true->(j::s.us).contains k=true:=λk w=>by simp at w⊢;exact .inr w
      obtain⟨E,F,G⟩:=AY L A.hc a4;have a0:bc (bF s.os++st.h) j=some (.arr f s.r.w (List.map (bM s.r) B) wr):=by
       rw[eP,GO];have a2:s.os.any (λp=>p.1==j)=false:=by
        have a6:∀g,Ls hg g=some s->∀p∈s.os,s.us.contains p.1=true:=by
         intro g m p u;unfold Ls at m;split at m
         .simp only[av6]at m;rw[<-m]at u;cases u
         .simp only[av6]at m;rw[<-m]at u;cases u
         .split at m
          .simp only[av6]at m
           rw[<-m]at u⊢;simp at u;simp[u]
          .cases m
         .cases m
        cases ha:s.os.any (λp=>p.1==j)with
        |false=>rfl
        |true=>
         obtain⟨p,u,a3⟩:=axR.1 ha;have:=a6 _ L p u;rw[show p.1=j by simpa using a3]at this;rw[this]at q2;cases q2
       rw[a2];exact A.at d5 hj
      have:=SS.Qa (P:=P) (t:=b) (x:=c) (y:=e) (ty:=ty) (pos:=pos) (af:=af) (gd:=gd) (d:=d) (k:=j) (rows:=List.map (bM s.r) B) (wr:=wr) (K:=λJ=>J=⟨st.n,kX (some d) (.ow d) (dm d st.t),((d,some (.arr f N (List.map (bM s.r) B++List.map (bM s.r) s.xs) wr))::(j,none)::bF s.os)++bx d st.h⟩)
       (S.el _ _ U) (x.is H d9) (by rw[x.is rfl G,y];exact E) (by rw[y];exact a0) M Q (by simp only[awa];exact D) (by simp only[awa];exact C) bv (by rw[vA d F];rfl)
      have o:=SS.fresh v.t v.h this;rw[y,<-awQ]at o;exact o
     .cases t
    .cases t
   .cases t
  .cases h
 .cases h
def Qr{h c e:Hp}(a:kV h s=some (c,R))(b:qm c i=some (e,u)):qm h (s::i)=some (e,R::u):=by
 simp only[qm,a,b]
def Ea{r:Sc}:∀{t:AH} {j:Nat} {m:Do r.dp} {l:fv} {u w:a_} {st:St} {h:Hp},D9 ev hg r j t=some (m,l,u)->Sk ev st->HC hg w h->(∀k,u.contains k=true->w.contains k=true)->
 ∃s f,qm h (t.map λp=>st.ev p.2)=some (bF l++h,s)/\mN (t.map (·.1)) s=some f/\Gs hg l/\f.length=m.length/\sA (f.map (·.2)) (List.map (bM r) m)/\(∀q∈f,q.2.all AV.one=true)/\∀i q,f[i]? =some q->q.1=j+i
 |[],j,m,l,u,w,st,h,a,A,y,B=>by
  simp only[D9,av6,awn]at a;obtain⟨rfl,rfl,rfl⟩:=a;exact⟨[],[],rfl,rfl,λk o c=>(by cases c),rfl,.nil,λq b=>(by cases b),λi q b=>(by simp at b)⟩
 |(i,x)::t,j,m,l,u,w,st,h,a,A,y,B=>by
  simp only[D9]at a;obtain⟨z,a⟩:=aY a;have z:=awb z;split at a
  next v W Y C=>
   split at a
   next a0 X Z K=>
    simp only[av6,awn]at a;obtain⟨rfl,rfl,rfl⟩:=a;obtain⟨⟨F,V,G,H,I,J⟩,E⟩:=Fg C y (λk g=>B k (by simp at g⊢;exact .inl g));obtain⟨s,f,M,N,O,Q,R,S,U⟩:=Ea (st:=st) K A (y.put E λk h=>h) (λk g=>B k (by simp at g⊢;exact .inr g));have L:st.ev x=enc (e7 ev x):=A.is rfl (λe=>by
     rw[e]at C;cases r<;>simp[rj,pa,Lp]at C)
    refine⟨F::s,(i,V)::f,?_,?_,λk o c=>?_,by simp[Q],.cons I R,?_,?_⟩
    .rw[awo,gi,awx]
     exact Qr (by rw[L];exact G) M
    .simp only[awo,mN,H,N]
    .rcases awc.1 c with c|c
     .exact O k o c
     .exact E k o c
    .intro q b
     rcases awr.1 b with rfl|b
     .exact J
     .exact S q b
    .intro D q b
     cases D with
     |zero=>simp at b;subst b;simpa using z
     |succ D=>
      have:=U D q (by simpa using b);omega
   .cases a
  .cases a
def Eb{sz:Nat}:∀(a:Do (Nat×Do AV)) (b:Do AV) (j:Nat),b.length=j*sz->(∀i q,a[i]? =some q->q.1=j+i/\q.2.length=sz)->
 hQ (λi=>some (i*sz,sz)) (b++replicate (a.length*sz) .un) a=some (b++(a.map (·.2)).flatten)
 |[],b,j,e,f=>by simp[hQ]
 |(i,xs)::a,b,j,e,f=>by
  obtain⟨g,c⟩:=f 0 (i,xs) rfl;simp only[axv]at g;subst g;have k:replicate ((a.length+1)*sz) AV.un=replicate sz .un++replicate (a.length*sz) .un:=by
   rw[List.replicate_append_replicate];congr 1;rw[awK];omega
  have l:setCells (b++replicate ((a.length+1)*sz) AV.un) (i*sz) xs=(b++xs)++replicate (a.length*sz) .un:=by
   rw[k,fU _ _ _ _ bv,e,azu,iT _ _ _ _ (by simp only[ay_];simp only at c;omega),sH _ _ (by simp only[ay_];simp only at c;omega),awx]
  simp only[aws,hQ];rw[av3 ⟨c,by simp only[awl,ay_,e,awK];omega⟩,l];have:=Eb (sz:=sz) a (b++xs) (i+1) (by simp only at c;simp only[awl,e,c,awK];omega) (λm q h=>by
   have:=f (m+1) q (by simpa using h);exact⟨bv,this.2⟩)
  rw[this];simp
def zU{sz:Nat}:∀(a:Do (Do AV)),(∀r∈a,r.length=sz)->chunk sz a.length a.flatten=a
 |[],_=>rfl
 |r::a,h=>by
  have b:=h r d5;simp only[aws,chunk,awI];rw[ayU b,List.drop_left' b,zU a λx c=>h x (by simp[c])]
def aeL(Q:hS P T){B:HL}{k:EV->fv->a_->Fr->At a}{r:a}(hd:d<n)(h:aeH T ev hg d b m B.toList k=some r):
 ∃c u M N,FS P ⟨some d,.buildSlice b m B,ty,pos,af,gd⟩ n ev hg c u M N/\k c u M N=some r:=by
 unfold aeH at h;split at h
 .split at h
  next S=>
   split at h
   next e p j z G=>obtain⟨w,F⟩:=aY h;refine⟨_,_,_,_,λst hn I O A=>?_,F⟩;have Y:0<p:=awd w;have:=SS.buildSlice (P:=P) (t:=b) (len:=0) (parts:=B) (ty:=ty) (pos:=pos) (af:=af) (gd:=gd) (d:=d) (h':=st.h) (aS:=[]) (qs:=[]) (cs:=[]) (K:=λL=>L=⟨st.n,(d,.sl true p [])::st.t,st.h⟩) (Q.el _ _ G) (by rw[S];rfl) (by rw[S];rfl) (by simp[hQ]) rfl d5 Y bv rfl;exact this.nF (cG.wkT Wk.U8)
   .cases h
  .cases h
 next g=>
  split at h
  next e p j z G=>
   split at h
   next W a5=>
    split at h
    next vs u M hv=>
     obtain⟨w,F⟩:=aY h;simp only[av4]at w;obtain⟨⟨⟨v,C⟩,D⟩,E⟩:=w;have v:=awb v;have C:=awb C;have D:=awd D;have E:0<p:=awd E;refine⟨_,_,_,_,λst hn I O A=>?_,F⟩;obtain⟨X,s,q1,q2,q3,q4,J,q6,q7⟩:=Ea (st:=st) hv I O.hc λ_ h=>h;have V:∀q∈s,q.2.length=p:=λq t=>by
      obtain⟨i,hi,rfl⟩:=awV t;have A:=J.flat;have:∀(f c:Do (Do AV)),sA f c->(∀x∈c,x.length=p)->∀x∈f,x.length=p:=by
       intro f c Z
       induction Z with
       |nil=>simp
       |cons h I ih=>
        intro R x o;rcases awr.1 o with rfl|o
        .rw[<-h.len];exact R _ d5
        .exact ih (λy hy=>R y (by simp[hy])) x o
      exact this _ _ J (λx o=>by obtain⟨y,_,rfl⟩:=awe.1 o;rw[fy,v]) _ (awe.2 ⟨_,ayx hi,rfl⟩)
     have H:=Eb (sz:=p) s [] 0 d5 (λi q t=>⟨q7 i q t,V q (awg t)⟩);simp only[awL]at H;have U:s.length=g+1:=by rw[q4,C]
     rw[U]at H;have a0:chunk p (g+1) (s.map (·.2)).flatten=s.map (·.2):=by
      have:=zU (sz:=p) (s.map (·.2)) (λx o=>by obtain⟨q,t,rfl⟩:=awe.1 o;exact V q t);rw[awa,U]at this;exact this
     have:=SS.AU (P:=P) (t:=b) (len:=g+1) (parts:=B) (ty:=ty) (pos:=pos) (af:=af) (gd:=gd) (d:=d) (h':=bF u++st.h) (aS:=X) (qs:=s) (cs:=(s.map (·.2)).flatten) (K:=λL=>L=⟨st.n,kX (some d) (.ow d) (dm d st.t),((d,some (.arr e p (s.map (·.2)) true))::bF u)++bx d st.h⟩) (Q.el _ _ G) q1 q2 H (by
      rw[awt];intro x o;obtain⟨l,hl,o⟩:=ax5.1 o;obtain⟨q,t,rfl⟩:=awe.1 hl;exact awt.1 (q6 q t) x o) D E bv (by rw[a0,vA d q3];rfl)
     refine(SS.fresh A.t A.h this).nF ?_;subst v;exact cG.AX (h:=bF u++st.h) (rows':=List.map (bM W) vs) J (fm W _)
    .cases h
   .cases h
  .cases h
def abZ(R:hS P T){D:HL}{k:EV->fv->a_->Fr->At a}{r:a}(hd:d<n)(h:Vn T ev hg d b m D.toList k=some r):
 ∃c u F G,FS P ⟨some d,.buildSlice b m D,ty,pos,af,gd⟩ n ev hg c u F G/\k c u F G=some r:=by
 unfold Vn at h;split at h
 .cases h
 next g=>
  split at h
  next e t j z V=>
   split at h
   next rc a0=>
    split at h
    next vs u F Z=>
     obtain⟨H,O⟩:=aY h;simp only[av4]at H;obtain⟨⟨⟨v,w⟩,A⟩,B⟩:=H;have v:=awb v;have w:=awb w;have A:=awd A;have B:0<t:=awd B;refine⟨_,_,_,_,λst hn L Q W=>?_,O⟩;obtain⟨N,p,q1,q2,q3,q4,E,q6,q7⟩:=Ea (st:=st) Z L Q.hc λ_ h=>h;have M:∀q∈p,q.2.length=t:=λq s=>by
      obtain⟨i,X,rfl⟩:=awV s;have W:=E.flat;have:∀(f c:Do (Do AV)),sA f c->(∀x∈c,x.length=t)->∀x∈f,x.length=t:=by
       intro f c S
       induction S with
       |nil=>simp
       |cons h L ih=>
        intro I x o;rcases awr.1 o with rfl|o
        .rw[<-h.len];exact I _ d5
        .exact ih (λy hy=>I y (by simp[hy])) x o
      exact this _ _ E (λx o=>by obtain⟨y,_,rfl⟩:=awe.1 o;rw[fy,v]) _ (awe.2 ⟨_,ayx X,rfl⟩)
     have C:=Eb (sz:=t) p [] 0 d5 (λi q s=>⟨q7 i q s,M q (awg s)⟩);simp only[awL]at C;have J:p.length=g+1:=by rw[q4,w]
     rw[J]at C;have U:chunk t (g+1) (p.map (·.2)).flatten=p.map (·.2):=by
      have:=zU (sz:=t) (p.map (·.2)) (λx o=>by obtain⟨q,s,rfl⟩:=awe.1 o;exact M q s);rw[awa,J]at this;exact this
     have:=SS.buildSlice (P:=P) (t:=b) (len:=g+1) (parts:=D) (ty:=ty) (pos:=pos) (af:=af) (gd:=gd) (d:=d) (h':=bF u++st.h) (aS:=N) (qs:=p) (cs:=(p.map (·.2)).flatten) (K:=λs'=>s'=⟨st.n,(d,.sl true t (p.map (·.2)))::st.t,bF u++st.h⟩) (R.el _ _ V) q1 q2 C (by
      rw[awt];intro x o;obtain⟨l,Y,o⟩:=ax5.1 o;obtain⟨q,s,rfl⟩:=awe.1 Y;exact awt.1 (q6 q s) x o) A B bv (by rw[U])
     refine this.nF (cG.wkT ?_);rw[v];exact Wk.rows E (fm rc vs)
    .cases h
   .cases h
  .cases h
def zV(p:hS P T){A:Op}{k:EV->fv->a_->Fr->At a}{r:a}(l:d<n)(h:exM T ev hg d A k=some r):
 ∃c s q w,FS P ⟨some d,A,ty,pos,af,gd⟩ n ev hg c s q w/\k c s q w=some r:=by
 unfold exM at h;split at h
 .split at h
  next J t=>obtain⟨i,g⟩:=aY h;simp only[av4]at i;exact⟨_,_,_,_,FS.box (D5 i.1) l t i.2,g⟩
  .cases h
 .obtain⟨v,h⟩:=aY h
  have v:=D5 v;split at h
  next z u=>
   split at h
   next m e I K=>
    rcases bR h with⟨_,h⟩|⟨_,h⟩
    .exact⟨_,_,_,_,FS.alloc p v l u,h⟩
    .split at h
     next H M=>obtain⟨i,g⟩:=aY h;simp only[av4]at i;exact⟨_,_,_,_,FS.H8 p l u (awb i.1.1) i.1.2 (awd i.2),g⟩
     .cases h
   .exact⟨_,_,_,_,FS.alloc p v l u,h⟩
  .cases h
 .split at h
  next e I b z E=>
   split at h
   next H t=>
    obtain⟨i,g⟩:=aY h;clear h;simp only[av4]at i;obtain⟨⟨B,C⟩,D⟩:=i;split at g
    next u=>
     split at g
     next f y=>
      split at g
      next c t=>obtain⟨m,x,F⟩:=bp g;have:=D8 D y t;subst this;exact⟨_,_,_,_,FS.make p l E (awb B) (awd C) u y t x,F⟩
      .cases g
     .cases g
    .cases g
   .cases h
  .cases h
 .split at h
  next O z x=>
   split at h
   next N Q L=>obtain⟨i,g⟩:=aY h;exact⟨_,_,_,_,FS.makeMap p l x,g⟩
   .cases h
  .cases h
 .split at h
  next j o G=>obtain⟨c,q,i,g⟩:=aeK p G h;exact⟨c,_,q,_,FS.read i l,g⟩
  .obtain⟨c,s,q,i,g⟩:=Vm p l h
   exact⟨c,s,q,_,i,g⟩
 .obtain⟨c,s,q,w,i,g⟩:=aeL p l h
  exact⟨c,s,q,_,i,g⟩
 .obtain⟨i,g⟩:=aY h
  have:=awb i;subst this;exact Qq p l g
 .cases h
def sA.set(a:Nat)(b:qv i u):sA (h.set a i) (h.set a u):=by
 induction h generalizing a with
 |nil=>exact .nil
 |cons r h c=>
  cases a with
  |zero=>exact .cons b (sA.refl h)
  |succ a=>exact .cons (qv.refl r) (c a)
def rq{hg:Nat->At eD}{x:I.dp}{b:fv}(h:pa hg I y=some (x,b,B)):∀p∈b,B.contains p.1=true:=by
 unfold pa at h;split at h
 .split at h
  .split at h
   .simp only[av6,awn]at h
    obtain⟨_,rfl,rfl⟩:=h;intro p a;simp at a;simp[a]
   .cases h
  .cases h
 .split at h
  .simp only[av6,awn]at h
   obtain⟨_,rfl,rfl⟩:=h;intro p a;cases a
  .cases h
def A_{hg:Nat->At eD}:∀(s:Sc) {j f:Do EV} {x:s.dp} {b:fv} {e:a_},ju hg s j=some (x,f,b,e)->∀p∈b,e.contains p.1=true
 |.pr a c,j,f,x,b,e,h=>by
  simp only[ju]at h;split at h
  next g=>
   split at h
   next l=>
    simp only[av6,awn]at h;obtain⟨_,_,rfl,rfl⟩:=h;intro p i;simp only[azv,awc,awJ];rcases awc.1 i with i|i
    .have:=A_ c l p i;simp at this;exact .inr this
    .have:=A_ a g p i;simp at this;exact .inl this
   .cases h
  .cases h
 |.u,j,f,x,b,e,h=>by
  simp only[ju,av6,awn]at h;obtain⟨_,_,rfl,rfl⟩:=h;intro p i;cases i
 |.i k,[],f,x,b,e,h=>by simp[ju]at h
 |.b,[],f,x,b,e,h=>by simp[ju]at h
 |.sl r,[],f,x,b,e,h=>by simp[ju]at h
 |.i k,c::j,f,x,b,e,h=>by
  simp only[ju]at h;split at h
  next g=>simp only[av6,awn]at h;obtain⟨_,_,rfl,rfl⟩:=h;exact rq g
  .cases h
 |.b,c::j,f,x,b,e,h=>by
  simp only[ju]at h;split at h
  next g=>simp only[av6,awn]at h;obtain⟨_,_,rfl,rfl⟩:=h;exact rq g
  .cases h
 |.sl r,c::j,f,x,b,e,h=>by
  simp only[ju]at h;split at h
  next g=>simp only[av6,awn]at h;obtain⟨_,_,rfl,rfl⟩:=h;exact rq g
  .cases h
def Qs{hg:Nat->At eD}{x:I.dp}{b:fv}(h:rj hg I y=some (x,b,B)):∀p∈b,B.contains p.1=true:=by
 unfold rj at h;split at h
 .split at h
  .split at h
   next a=>simp only[av6,awn]at h;obtain⟨_,rfl,rfl⟩:=h;exact A_ _ a
   .cases h
  .split at h
   next a=>simp only[av6,awn]at h;obtain⟨_,rfl,rfl⟩:=h;exact A_ _ a
   .cases h
  .cases h
 .split at h
  .cases h
  .cases h
  .exact rq h
  .exact rq h
  .exact rq h
def ako{hg:Nat->At eD}:∀(r:Sc) (x:r.dp) (o m:Nat) (b:r.dp) (c:fv) (e:a_),vC hg y r x o m=some (b,c,e)->∀p∈c,e.contains p.1=true:=by
 intro r
 induction r with
 |pr a j g i=>
  intro x o m b c e h;simp only[vC]at h;rcases bR h with⟨_,h⟩|⟨_,h⟩
  .exact Qs h
  .rcases bR h with⟨_,h⟩|⟨_,h⟩
   .split at h
    next f=>simp only[av6,awn]at h;obtain⟨_,rfl,rfl⟩:=h;exact g _ _ _ _ _ _ f
    .cases h
   .split at h
    next f=>simp only[av6,awn]at h;obtain⟨_,rfl,rfl⟩:=h;exact i _ _ _ _ _ _ f
    .cases h
 |u=>intro x o m b c e h;simp[vC]at h
 |_=>
  intro x o m b c e h;simp only[vC]at h;obtain⟨_,h⟩:=aY h;exact Qs h
def Vo(L:hS P T){k:fv->a_->At a}{r:a}(h:NF T ev hg b c e k=some r):
 ∃v A,FS P ⟨none,.store b c e,ty,pos,af,gd⟩ n ev hg .un v A .no/\k v A=some r:=by
 unfold NF at h;split at h
 next ag m N=>
  split at h
  next j o H=>
   split at h
   next G R C=>
    split at h
    next w O=>
     obtain⟨x,y⟩:=aY h;simp only[av4]at x;obtain⟨⟨⟨⟨⟨a0,F⟩,I⟩,J⟩,a4⟩,a5⟩:=x;refine⟨_,_,λst Z z u X=>?_,y⟩;have E:st.ev e=enc (e7 ev e):=z.is rfl (λf=>by rw[f]at O;simp[qw,enc,AV.one]at O);have U:=D6 O;rw[<-E]at U;refine SS.qZ (D5 a0) (z.is H d9) (u.at d5 C) (L.ty _ _ N) U (by rw[gh];exact awb F) J (by rw[E];exact Ny a4 u (λk s=>by simp at s⊢;exact .inr (.inl s))) ?_ (by rw[gh];exact awd I) ?_
     .rw[awt]
      intro l V;rw[ei]at V;obtain⟨Q,W,rfl⟩:=awe.1 V;refine Ny (awt.1 a5 Q W) u λk s=>?_;simp only[azv,awr,awc,axo,awJ]at s⊢;exact .inr ⟨Q,W,s⟩
     .simp only[bF,Option.map,cA,sD];rfl
    .cases h
   .cases h
  next j i sz o H=>
   split at h
   next G t w C=>
    obtain⟨x,y⟩:=aY h;have F:=awb x;obtain⟨g,B,s⟩:=bp y;obtain⟨i0,B⟩:=e6 B;split at s
    next a' v A D=>
     rcases bR s with⟨_,s⟩|⟨a6,s⟩
     .cases s
     refine⟨_,_,λst Z z u X=>?_,s⟩;have aj:∀k,A.contains k=true->(j::A).contains k=true:=λk s=>by simp at s⊢;exact .inr s
     obtain⟨⟨c1,R,S,g2,g3,g4,g5,g6⟩,g7⟩:=akl u.hc t g o m D aj;have E:st.ev e=enc (e7 ev e):=z.is rfl (λf=>by
      rw[f]at S;have ad:∀(r:Sc) (c:r.dp) (o m:Nat),vC hg .un r c o m=none:=by
       intro r
       induction r with
       |pr g b2 ak al=>
        intro c o m;simp only[vC,ak,al,rj,Bool.cond_self]
       |_=>intro c o m;simp[vC,rj,pa,Lp]
      rw[f,ad]at D;cases D)
     have aa:bc (bF v++st.h) j=some (.arr G t.w (List.map (bM t) w) true):=by
      have hb:=(u.hc.put g7 λk h=>h) j d5 _ _ _ _ C;rw[eP,GO];cases a9:v.any (λp=>p.1==j)with
      |false=>exact u.at d5 C
      |true=>
       exfalso;obtain⟨p,ae,ah⟩:=axR.1 a9;have am:∀(r:Sc) (c:r.dp) (o m:Nat) (y':r.dp) (v:fv) (A:a_),vC hg (e7 ev e) r c o m=some (y',v,A)->∀p∈v,A.contains p.1=true:=ako;have:=am _ _ _ _ _ _ _ D p ae;rw[show p.1=j by simpa using ah]at this;rw[this]at a6;cases a6
     have ai:(List.map (bM t) w)[i.toNat]? =some (bM t g):=by rw[awp,B];rfl
     subst F;have:=SS.aeE (P:=P) (t:=b) (x:=c) (y:=e) (ty:=ty) (pos:=pos) (af:=af) (gd:=gd) (K:=λs'=>s'=⟨st.n,st.t,(j,some (.arr G t.w ((List.map (bM t) w).set i.toNat (setCells (bM t g) o R)) true))::(bF v++st.h)⟩)
      (z.is H d9) (by rw[E];exact S) aa ai (L.ty _ _ N) g2 g4 g3 g5 rfl
     refine this.nF ?_;refine cG.AX (h:=bF v++st.h) ?_ (fm t _);rw[ax3];exact sA.set _ g6
    .cases s
   next G t w M C=>
    obtain⟨x,y⟩:=aY h;simp only[av4]at x;have F:=awb x.1.1;have I:=awb x.1.2;have J:=awb x.2;subst F;subst I;subst J;split at y
    next p E=>
     split at y
     next t2 r2 ys wr2 D=>
      obtain⟨Y,h3⟩:=aY y;obtain⟨g,B,s⟩:=bp h3;obtain⟨i0,B⟩:=e6 B;refine⟨_,_,λst Z z u X=>?_,s⟩;have a7:bc st.h p=some (cA (.arr t2 r2 ys wr2)):=u.at d5 D;have ac:i.toNat<w.length:=(av7.1 B).1;have a8:st.ev e=.ow p:=z.is E d9;have ab:(zO t w M).length=w.length:=by
       unfold zO;split<;>simp
      refine SS.Nq (z.is H d9) (u.at d5 C) (L.ty _ _ N) (by rw[a8];rfl) rfl (by rw[a8];simp only[q8,a7,cA]) (by simp only[q8,a7,cA]) (by rw[ab];exact ac) ?_;have:(zO t w M).set i.toNat (.ow p)=zO t w (some (i,some p)):=by
       unfold aeI at Y;cases M with
       |none=>rfl
       |some q=>
        obtain⟨i1,q⟩:=q;have:i.toNat=i1.toNat:=awX Y;simp only[zO,<-this,aAg,nrH]
      simp only[bF,Option.map,cA,this];rfl
     .cases y
    .cases y
   .cases h
  .cases h
 .cases h
def Fh(B:hS P T){x y v:If}{k:fv->a_->At a}{r:a}(h:AZ T ev hg b x y v k=some r):
 ∃s t,FS P ⟨none,.mapUpdate b x y v,ty,pos,af,gd⟩ n ev hg .un s t .no/\k s t=some r:=by
 unfold AZ at h;split at h
 next j G=>
  split at h
  next L K l M D=>
   split at h
   next Q z E=>
    split at h
    next g m=>
     split at h
     next f o=>
      obtain⟨i,w⟩:=aY h;simp only[av4]at i;have C:=rp i.1 i.2;subst C;obtain⟨I,J⟩:=vy i.1 g;refine⟨_,_,λq O p A N=>?_,w⟩;have u:enc (e7 ev v)=enc (kg l f):=by rcases Xr o with h|h<;>exact h.1
      have F:q.ev v=enc (e7 ev v):=p.is rfl (λe=>by rw[e]at o;cases l<;>simp[abX]at o);have H:q.ev y=enc (e7 ev y):=p.is rfl (λe=>by rw[e]at m;cases K<;>simp[NA,Lp]at m);refine SS.mapUpdate (B.mp _ _ E) (p.is G d8) (h1:=q.h) (c:=enc (kg l f)) (by rw[F,u];exact Ih l f) (A.at d5 D) (by rw[H];exact AW i.1 m) I ?_;simp only[bF,Option.map,cA];rw[H_ J];rfl
     .cases h
    .cases h
   .cases h
  .cases h
 .cases h
end
section
open Go Go.RowKit MapKept
section
def Qt(rows:Do a)(l m:Nat)(z:a):Do a:=rows.take l++(replicate m z++rows.drop (l+m))
def Qu(b:Do a)(l:Nat)(z:a):Qt b l 0 z=b:=by simp[Qt]
def aeM{b:Do a}{l m:Nat}{z:a}(h:l<b.length):Qt (b.set l z) (l+1) m z=Qt b l (m+1) z:=by
 unfold Qt;have c:(b.set l z).take (l+1)=b.take l++[z]:=by
  rw[List.take_succ_eq_append_getElem (by simpa using h)];rw[azh,List.getElem_set_self,List.set_eq_of_length_le (by rw[awM];exact Nat.min_le_left _ _)]
 have e:(b.set l z).drop (l+1+m)=b.drop (l+(m+1)):=by
  rw[List.drop_set_of_lt bv,show l+1+m=l+(m+1) by omega]
 rw[c,e,axG];simp
def Fi{α:Type}:∀(xs A B:Do α),xs.length=B.length->setCells (A++B) A.length xs=A++xs
 |[],A,B,h=>by
  have:B=[]:=aw6 h.symm;subst this;rfl
 |x::xs,A,[],h=>by simp at h
 |x::xs,A,y::B,h=>by
  have e:(A++y::B).set A.length x=(A++[x])++B:=by rw[azt _ _ (av5 _)];simp
  rw[setCells,e,show A.length+1=(A++[x]).length by simp,Fi xs (A++[x]) B (by simpa using h)];simp
def Qv{b B:Do a}(h:b.length=B.length):setCells B 0 b=b:=Fi b [] B h
section
variable{P:Fd}
def lI{a:Addr}{b:GE}:∀{us vs:bI} {i:Nat} {w:GE},(storeCells a us i).run P w=.ok () b->(storeCells a (us++vs) i).run P w=(storeCells a vs (i+us.length)).run P b
 |[],vs,i,w,h=>by
  have:w=b:=by simpa[storeCells]using h
  subst this;rfl
 |u::us,vs,i,w,h=>by
  simp only[storeCells,axh,awi]at h⊢;cases c:(store (a.add i) u).run P w with
  |ok x e=>
   rw[c]at h;simp only[awk]at h⊢;rw[lI h,aws,show i+1+us.length=i+(us.length+1) by omega]
  |_=>rw[c]at h;cases h
def Ga.clear{x:Bs}{s:bL}{k b:Nat}{t:EQ}{r:Nat}{zs:bI}(D:zs.all (λv=>(na v).one)=true)(p:zs.length=r):∀(m l:Nat) {st:St} {e:Env} {a:Act} {w:GE} {f:Do (Do AV)} (h:Ga x s e st a w) (n:bc st.h k=some (.arr t r f true)) (o:e.ca k=some b)
 (z:l+m<=f.length) (q g:Nat) (B:g+q=l*r),
 ∃H F u,(storeCells ⟨b,g,none⟩ (replicate m zs).flatten q).run P w=.ok () F/\Ga x s H ⟨st.n,st.t,u⟩ a F/\bc u k=some (.arr t r (Qt f l m (zs.map na)) true)/\∀j,j≠k->bc u j=bc st.h j
 |0,l,st,e,a,w,f,h,n,o,z,q,g,B=>⟨e,w,st.h,rfl,h,by rw[Qu];exact n,λ_ _=>rfl⟩
 |m+1,l,st,e,a,w,f,h,n,o,z,q,g,B=>by
  have A:l<f.length:=bv
  have C:f[l]? =some f[l]:=awf A;have R:=(h.sr.ob _ _ n).1 _ (awg C);have O:LR (VR (bT x s e st.h w) none) (zs.map na) zs:=AN zs;obtain⟨Z,w1,h1,W,J,E,U,G⟩:=Ga.vm (P:=P) (i:=l) (zs.map na) zs 0 h n o C O (λc N=>by
   obtain⟨v,Q,rfl⟩:=awe.1 N;exact awt.1 D v Q) (by simp[p]) q g bv
  rw[Qv (by simp[p,R])]at E;obtain⟨I,Y,M,X,L,S,V⟩:=Ga.clear D p m (l+1) J E (by rw[G];exact o) d7 (q+zs.length) g (by rw[p,awK,aya];omega);refine⟨I,Y,M,?_,L,?_,λj y=>by rw[V j y,U j y]⟩
  .rw[axG,awI,lI W];exact X
  .rw[S,aeM A]
variable{st:St}{d:Nat}{ty:EQ}{pos:String}{af:dY}{gd:gg}{K:St->Prop}
def Qw{α:Type}(z:Do α):∀(m j:Nat),0<z.length->j<m*z.length->(replicate m z).flatten[j]? =z[j % z.length]?
 |0,j,b,a=>by simp at a
 |m+1,j,b,a=>by
  rw[axG,awI];by_cases h:j<z.length
  .rw[awY h,ayq h]
  .rw[axl bv,Qw z m (j - z.length) b (by rw[awK,aya]at a;omega),<-az7 bv]
def SS.clear{t E s:EQ}{x:If}{k l m g G:Nat}{z:bI}{r:Do (Do AV)}(Y:KF P t=some (E,g,G,z))(Z:st.ev x=.sw k l m g)(B:bc st.h k=some (.arr s g r true))(S:l+m<=r.length)(W:0<g)
 (a0:z.all (λv=>(na v).one)=true) (p:K ⟨st.n,st.t,(k,some (.arr s g (Qt r l m (z.map na)) true))::st.h⟩):
 SS P ⟨none,.call ⟨.builtin .clear, #[x], #[t]⟩,ty,pos,af,gd⟩ st K:=by
 intro w0 a1 e a w next Q h C
 obtain⟨i,c,p2,p3,p4,F,rfl,_,rfl⟩:=c_ Y;have y:(#[x]:gV).map a.eval= #[a.eval x]:=by simp only[ayr,awo,axd]
 have q:=h.ev x;rw[Z]at q;generalize A:a.eval x=u at q;cases q with
 | @sw _ _ _ _ _ b o a2 I V h1 h2=>
  cases m with
  |zero=>
   rw[Qu]at p;refine eO (v:=undef) (w':=w) ?_ (C _ p _ _ _ (h.mh λj=>?_))
   .simp[execOp,resolve,y,A,invoke,builtin,Builtin.clear_,aww p2,undef]
   .by_cases f:j=k
    .subst f;rw[bf];exact B.symm
    .rw[bd f]
  |succ m=>
   obtain⟨e',w',h',D,M,R,N⟩:=Ga.clear (P:=P) a0 (by simpa using F) (m+1) l h B I S 0 o (by rw[V bv];rfl);have L:(Builtin.zeroCells c.cells (m+1)).toList=(replicate (m+1) c.cells.toList).flatten:=by
    have n:0<c.cells.size:=by rw[F];exact W
    refine axA λj=>?_;have X:(Builtin.zeroCells c.cells (m+1)).toList.length=(m+1)*c.cells.size:=by simp[axN]
    have J:((replicate (m+1) c.cells.toList).flatten).length=(m+1)*c.cells.size:=d5
    by_cases f:j<(m+1)*c.cells.size
    .rw[Qw c.cells.toList (m+1) j (by simpa using n) (by simpa using f)]
     have a3:j % c.cells.toList.length<c.cells.size:=by simpa using ayE j n
     have O:j<(m+1)*c.cells.size:=f;rw[axq,axq];have H:j % c.cells.toList.length=j % c.cells.size:=d5
     rw[H];have U:j % c.cells.size<c.cells.size:=ayE j n;simp[Builtin.zeroCells,O,U]
    .rw[awO (by rw[X];omega),awO (by rw[J];omega)]
   rw[<-L]at D;refine eO (v:=undef) (w':=w') ?_ (C _ p _ _ _ (M.mh λj=>?_))
   .simp[execOp,resolve,y,A,invoke,builtin,Builtin.clear_,aww p2,undef,zeroValue,typeInfo,p3,p4,D]
   .by_cases f:j=k
    .subst f;rw[bf];exact R.symm
    .rw[bd f,N j f]
open Classical in
def KW{α:Type}:Do (Id×α)->Id->Nat
 |[],_=>0
 |(k,_)::es,x=>if k=x then 0 else KW es x+1
def Lu{α:Type}:∀{a:Do (Id×α)} {x:Id},fM a x=none->KW a x=a.length
 |[],_,_=>rfl
 |(k,c)::a,x,h=>by
  rw[fM]at h;by_cases b:k=x
  .rw[av3 b]at h;cases h
  .rw[av2 b]at h
   rw[KW,av2 b,Lu h];rfl
def Xt{α:Type}:∀{a:Do (Id×α)} {x:Id} {j:Nat} {c:α},a[j]? =some (x,c)->(∀(i:Nat) p,i<j->a[i]? =some p->p.1≠x)->KW a x=j
 |[],_,_,_,h,_=>by simp at h
 |(k,e)::a,x,j,c,h,b=>by
  cases j with
  |zero=>simp at h;rw[KW,av3 h.1]
  |succ j=>
   rw[KW,av2 (b 0 (k,e) bv rfl),Xt (j:=j) (c:=c) (by simpa using h) λi p g f=>b (i+1) p bv (by simpa using f)]
def SS.mapEntry{t:EQ}{x y:If}{k:Nat}{I:TypeDesc}{z f:Id}{r:Do (Id×AV)}(ht:mapA P t=some (I,z))(hx:st.ev x=.mp k)
 (S:bc st.h k=some (.mp I r)) (hy:∀(Rd:bL) E u,VR Rd E (st.ev y) u->u=f) (B:mg I f) (hd:d<st.n)
 (hK:K ⟨st.n,(d,.tu [(fM r f).getD (PH z),.v (.int .i64 (KW r f:Nat))])::st.t,(k,some (.mp I (qu r f ((fM r f).getD (PH z)))))::st.h⟩):SS P ⟨some d,.mapEntry t x y,ty,pos,af,gd⟩ st K:=by
 intro N O e a w next Q A hn
 obtain⟨kt,et,i,p1,p2,p3,p4⟩:=iS ht;obtain⟨b,g,D,a6,L,ah,s,C⟩:=A.Lo hx S;have ar:=hy _ _ _ (A.ev y);have X:=A.sr.base _ _ _ S L;obtain⟨c,v,j,n,o,hc,a9,H,ao,ak⟩:∃c v j n o,(fM r f).getD (PH z)=c/\VR (bT N O e st.h w) none c v/\KW r f=j/\
  (Instr.mapEntry t (.map (some b)) f).run P w=.ok (.tuple #[v,.int .i64 (j:Nat)]) {w with heap:=w.heap.setIfInBounds b (.map n o)}/\MR (bT N O e st.h w) I (qu r f c) n o:=by
  rcases C.find (P:=P) B p2 with⟨J,F,G,f4⟩|⟨j,m,c,J,F,G,f4,f5,f6,f7⟩
  .obtain⟨n,o,M,Y⟩:=KE.put (P:=P) C (λ_ _ h=>h) B p1 p2 (Np z) s
   have a0:(Instr.mapUpdate t (.map (some b)) f z).run P w=.ok () {w with heap:=w.heap.setIfInBounds b (.map (g.push {key:=f,val:=z,born:=D}) (D+1))}:=by
    simp[Instr.mapUpdate,aww p1,aw_ s,p2.Qc _ _ _ B,J,axI _ s,Result.andThen]
   rw[a0]at M;have hw:({w with heap:=w.heap.setIfInBounds b (.map (g.push {key:=f,val:=z,born:=D}) (D+1))}:GE)={w with heap:=w.heap.setIfInBounds b (.map n o)}:=by
    injection M
   refine⟨_,z,r.length,n,o,rfl,by rw[G];exact Np z,Lu G,?_,by rw[G];exact Y⟩;rw[<-hw];have a8:D=r.length:=by rw[C.clk,C.len]
   simp[Instr.mapEntry,aww p1,aw_ s,p2.Qc _ _ _ B,J,axI _ s,zeroValue,typeInfo,p3,p4,goInt,a8]
  .obtain⟨n,o,M,Y⟩:=KE.put (P:=P) (R':=VR (bT N O e st.h w) none) C (λ_ _ h=>h) B p1 p2 f5 s
   have av:∀R,g[j]? =some R->({R with key:=f,val:=m.val}:MapEntry)=R:=λR a3=>by rw[F]at a3;cases a3;cases m;subst G;rfl
   have aj:g.modify j (λe=>{e with key:=f})=g.modify j (λe=>{e with key:=f,val:=m.val}):=by
    apply Array.ext_getElem?;intro q;rw[axS,axS];by_cases Z:j=q
    .subst Z;rw[av3 rfl,av3 rfl,F];cases m;rfl
    .rw[av2 Z,av2 Z]
   have a0:(Instr.mapUpdate t (.map (some b)) f m.val).run P w=.ok () {w with heap:=w.heap.setIfInBounds b (.map (g.modify j λe=>{e with key:=f,val:=m.val}) D)}:=by
    simp[Instr.mapUpdate,aww p1,aw_ s,p2.Qc _ _ _ B,J,F,G,p2.stay _ _ B,axI _ s,Result.andThen]
   rw[a0]at M;have hw:({w with heap:=w.heap.setIfInBounds b (.map (g.modify j λe=>{e with key:=f,val:=m.val}) D)}:GE)={w with heap:=w.heap.setIfInBounds b (.map n o)}:=by
    injection M
   have ab:∀(i:Nat) p,i<j->r[i]? =some p->p.1≠f:=λi p ad hp an=>by
    have ag:∃U,g[i]? =some U/\U.key=p.1:=by
     have hi:i<g.size:=by rw[C.len];exact(av7.1 hp).1
     exact⟨g[i],awU hi,(C.key i p _ hp (awU hi)).1⟩
    obtain⟨U,a4,ai⟩:=ag;have ac:i<g.toList.length:=by have:=(awS.1 a4).1;simpa using this
    have ae:j<g.toList.length:=by have:=(awS.1 F).1;simpa using this
    have a5:=ay6.1 ((aAc g D).1 C.lG).2.2 i j ac ae ad;have e1:g.toList[i]=U:=by
     have:=(awS.1 a4).2;simpa using this
    have e2:g.toList[j]=m:=by
     have:=(awS.1 F).2;simpa using this
    rw[e1,e2]at a5;exact a5 (by rw[ai,an,G])
   refine⟨c,m.val,j,n,o,by rw[f4];rfl,f5,Xt f6 ab,?_,Y⟩;rw[<-hw,<-aj];have a7:m.born=j:=C.UP j m F;simp[Instr.mapEntry,aww p1,aw_ s,p2.Qc _ _ _ B,J,F,G,p2.stay _ _ B,axI _ s,goInt,a7]
 have a1:=ay8 (o':=.map n o) s;have aa:Bx N {w with heap:=w.heap.setIfInBounds b (.map n o)}:=
  A.sr.ext.step rfl rfl rfl d5 λj H _=>a1.2 j λe=>H (by rw[e];exact X.1)
 obtain⟨ap,a2⟩:=A.sr.yk (w':={w with heap:=w.heap.setIfInBounds b (.map n o)}) k (some b) (e.sv k) 0 (some (.mp I (qu r f c))) aa (.inr ⟨L.symm,rfl⟩) d5
  (λV W al=>a1.2 V λhh=>al _ S (by rw[L];exact awh some hh.symm))
  (λV W _=>by obtain rfl:=av_ W;exact⟨X.1,by simpa using X.2,.inl ⟨_,S,L⟩⟩)
  (λV o' u' ob ho W aw au=>by have:e.cX k=0:=ah;omega)
  (λRd hR _ ax am=>by
   obtain rfl:=av_ am;exact⟨Env.cq,b,n,o,Env.cc,a1.1,MR.mono hR ak⟩)
 rw[hc,H]at hK;have aq:=(A.tr.mono a2).jt (e':=e.cR k (some b) (e.sv k) 0) (λj=>by by_cases H:j=k<;>simp[Env.cR,H,L]) (λj=>by by_cases H:j=k<;>simp[Env.cR,H]);have l:=LR.cons ((a9.mono a2).c9 (E:=some (e.cR k (some b) (e.sv k) 0))) (LR.cons (VR.v (Rd:=bT N O (e.cR k (some b) (e.sv k) 0) ((k,some (.mp I (qu r f c)))::st.h) {w with heap:=w.heap.setIfInBounds b (.map n o)}) (x:=.int .i64 (j:Nat))) LR.nil);refine eO (v:=.tuple #[v,.int .i64 (j:Nat)]) (w':={w with heap:=w.heap.setIfInBounds b (.map n o)}) ?_ (hn _ hK _ _ _ ⟨by simpa[Act.put]using A.n,A.d,ap,TR.put aq (by rw[A.n.1];exact hd) (.tu _ l.1 l.2)⟩);simp[execOp,a6,ar,ao]
def SS.entryStore{t:EQ}{x y v:If}{k i:Nat}{s:TypeDesc}{z kv:Id}{n:Do (Id×AV)}{ki:IntKind}{h1:Hp}{c c0:AV}(ht:mapA P t=some (s,z))(hx:st.ev x=.mp k)(hy:st.ev y=.v (.int ki (i:Nat)))(hl:kV st.h (st.ev v)=some (h1,c))
 (B:bc h1 k=some (.mp s n)) (J:n[i]? =some (kv,c0)) (U:K ⟨st.n,st.t,(k,some (.mp s (n.set i (kv,c))))::h1⟩):SS P ⟨none,.entryStore t x y v,ty,pos,af,gd⟩ st K:=by
 intro R S e a w next Q u hn
 obtain⟨F,a6,hv⟩:=vp u.sr (u.ev v) hl;have l:=u.cX a6;have o:(⟨st.n,st.t,h1⟩:St).ev x=.mp k:=by rw[<-hx];cases x<;>rfl
 obtain⟨b,h,m,X,p,a0,I,g⟩:=l.Lo o B;have C:=u.ev y;rw[hy]at C;have C:=C.bS;have H:=l.sr.base _ _ _ B p;have A:i<h.size:=by rw[g.len];exact(av7.1 J).1
 have Z:h.findIdx? (λe=>(e.born:Int)==(i:Int))=some i:=by
  rw[aAW];refine⟨A,?_,λq O=>?_⟩
  .rw[g.UP i _ (awU A)];simp
  .rw[g.UP q _ (awU bv)];simp;omega
 have a2:MR (bT R S F h1 w) s (n.set i (kv,c)) (h.modify i λe=>{e with val:=a.eval v}) m:=by
  refine⟨by simp[g.len],λq x' D o f=>?_,λD f=>?_,aAd g.lG _ _ (λ_ _=>rfl) (λ_ _ _=>rfl),λq D f=>?_,by rw[g.clk];simp⟩
  .rw[axS]at f
   by_cases L:i=q
   .subst L
    rw[av3 rfl,awU A]at f;have N:i<n.length:=(av7.1 J).1;simp[N]at o f;subst o f;exact⟨(g.key i _ _ J (awU A)).1,hv⟩
   .rw[av2 L]at f
    rw[azr L]at o;exact g.key q x' D o f
  .obtain⟨q,O,rfl⟩:=awV f
   have a8:q<h.size:=by simpa using O
   have:=g.isk h[q] d5;rw[ay7,azq];split
   .exact this
   .exact this
  .rw[axS]at f
   split at f
   .obtain⟨m0,a1,rfl⟩:=awC.1 f
    exact g.UP q m0 a1
   .exact g.UP q D f
 have M:=ay8 (o':=.map (h.modify i λe=>{e with val:=a.eval v}) m) I;have Y:Bx R {w with heap:=w.heap.setIfInBounds b (.map (h.modify i λe=>{e with val:=a.eval v}) m)}:=
  l.sr.ext.step rfl rfl rfl d5 λj r _=>M.2 j λe=>r (by rw[e];exact H.1)
 obtain⟨a5,W⟩:=l.sr.yk (w':={w with heap:=w.heap.setIfInBounds b (.map (h.modify i λe=>{e with val:=a.eval v}) m)}) k (some b) (F.sv k) 0 (some (.mp s (n.set i (kv,c)))) Y (.inr ⟨p.symm,rfl⟩) d5
  (λE G a3=>M.2 E λhh=>a3 _ B (by rw[p];exact awh some hh.symm))
  (λE G _=>by obtain rfl:=av_ G;exact⟨H.1,by simpa using H.2,.inl ⟨_,B,p⟩⟩)
  (λE o' u' ob ho G N a7=>by have:F.cX k=0:=a0;omega)
  (λRd V _ a9 a4=>by
   obtain rfl:=av_ a4;exact⟨Env.cq,b,_,m,Env.cc,M.1,MR.mono V a2⟩)
 refine xC (w':={w with heap:=w.heap.setIfInBounds b (.map (h.modify i λe=>{e with val:=a.eval v}) m)}) ?_ (hn _ U _ _ _ ⟨l.n,l.d,a5,(l.tr.mono W).jt (λj=>by by_cases r:j=k<;>simp[Env.cR,r,p]) (λj=>by by_cases r:j=k<;>simp[Env.cR,r])⟩);simp[execOp,Instr.entryStore,X,C,aw_ I,asInt,asIntOf,Z,axI _ I]
