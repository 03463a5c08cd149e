/- part 2 -/
import Derived.Test.YtmdbmigbihboaaaGreatDoorZWholeNothing1
set_option linter.all false
noncomputable section
open Go Go.RowKit
set_option maxRecDepth 100000
namespace Go.Proofs.YtmdbmigbihboaaaGreatDoor
def ffB:Nat->Bool:=λ_=>false
mutual
def u4:∀c:AV,c.fX ffB=true
 |.un=>rfl
 |.v _=>rfl
 |.sl _ _ _=>rfl
 |.fp _=>rfl
 |.ow _=>rfl
 |.pt _ _=>rfl
 |.pe _ _ _ _=>rfl
 |.sw _ _ _ _=>rfl
 |.mp _=>rfl
 |.ag a=>by rw[AV.fX];exact sQ a
 |.tu a=>by rw[AV.fX];exact sQ a
 |.cl _ b a=>by rw[AV.fX,sQ b,sQ a];rfl
def sQ:∀a:List AV,AV.lT ffB a=true
 |[]=>rfl
 |c::a=>by rw[AV.lT,u4 c,sQ a];rfl
end
def aeZ(t:List (Nat×AV)):Bo ffB t=true:=by simp[Bo,u4]
def Ob.u4(o:Ob):o.fX ffB=true:=by cases o<;>simp[Ob.fX,sQ]
def RH(h:Hp):qA ffB h=true:=by
 simp only[qA,aqD,aqe];intro q _;refine⟨rfl,?_⟩;split
 ·exact Ob.u4 _
 ·rfl
structure PD(P:Program)(l:List Oper)(mw:St)(pl:List En):Prop where
 len:pl.length<=l.length
 step:∀(j:Nat) o u,l[j]? =some o->pl[j]? =some u->o.dst=u.d/\DS P l mw (pl.take j) o u
 fit:∀(i j:Nat) v u,i<j->pl[i]? =some v->pl[j]? =some u->RG l i j v u/\aeX l i j v u
 WB:∀(j:Nat) u,pl[j]? =some u->Bo u.fr mw.t=true/\qA u.fr mw.h=true
def Kw:Nat->List Oper->Bool
 |_,[]=>true
 |j,o::l=>o.after.all (λe=> !Region.binds .any e||Nat.blt e.on j) && Kw (j+1) l
def y_:∀{a:Nat} {l:List Oper},Kw a l=true->∀(j:Nat) o,l[j]? =some o->∀e∈o.after,Region.binds .any e=true->e.on<a+j
 |a,[],_,j,o,h=>by simp at h
 |a,x::l,b,j,o,h=>by
  simp only[Kw,aqe]at b;cases j with
  |zero=>
   simp at h;subst h;intro e d c;have:=(Array.all_eq_true'.1 b.1) e d;simpa[c]using this
  |succ j=>
   intro e d c;have:=y_ b.2 j o (by simpa using h) e d c;omega
variable{y:AV}{N:Env}{u:Hp}{s:List Value}{Y:Nat->Bool}{c:Nat->Nat->Value->Prop}{R:Oper}{b g:Operand}{Z:Option Nat}{a:TypeId}{E:Value}{v:World}
mutual
def Kx(d:Nat):∀c:AV,c.fX (λk=>k==d)= !c.fQ d
 |.un=>rfl
 |.v _=>rfl
 |.sl _ _ _=>rfl
 |.fp _=>rfl
 |.ow _=>rfl
 |.pt _ _=>rfl
 |.pe _ _ _ _=>rfl
 |.sw _ _ _ _=>rfl
 |.mp _=>rfl
 |.ag a=>by rw[AV.fX,AV.fQ];exact nP d a
 |.tu a=>by rw[AV.fX,AV.fQ];exact nP d a
 |.cl _ b a=>by rw[AV.fX,AV.fQ,nP d b,nP d a,Bool.not_or]
def nP(d:Nat):∀a:List AV,AV.lT (λk=>k==d) a= !AV.lR d a
 |[]=>rfl
 |c::a=>by rw[AV.lT,AV.lR,Kx d c,nP d a,Bool.not_or]
end
def nQ{d:Nat}(h:y.fX (λk=>k==d)=true):y.kill d=y:=by
 rw[Kx]at h;unfold AV.kill;rw[aqc];cases a:y.fQ d
 ·simp
 ·rw[a]at h;cases h
def Ob.nQ{d:Nat}{o:Ob}(h:o.fX (λk=>k==d)=true):o.kill d=o:=by
 cases o with
 |box t e=>
  simp only[Ob.kill];congr 1;rw[aq6 (g:=id),ar6];intro c a;obtain⟨i,b,rfl⟩:=aqY a;exact Go.Proofs.YtmdbmigbihboaaaGreatDoor.nQ (eT h i _ (aqm b))
 |arr=>rfl
 |mp=>rfl
 |nr t e=>
  simp only[Ob.kill];congr 1;rw[aq6 (g:=id),ar6];intro c a;obtain⟨i,b,rfl⟩:=aqY a;exact Go.Proofs.YtmdbmigbihboaaaGreatDoor.nQ (eT h i _ (aqm b))
def Ob.nN{o:Ob}(h:o.fX Y=true):o.jH Y=o:=by
 cases o with
 |box t e=>
  simp only[Ob.jH];congr 1;rw[aq6 (g:=id),ar6];intro c a;obtain⟨i,b,rfl⟩:=aqY a;exact kA (eT h i _ (aqm b))
 |arr=>rfl
 |mp=>rfl
 |nr t e=>
  simp only[Ob.jH];congr 1;rw[aq6 (g:=id),ar6];intro c a;obtain⟨i,b,rfl⟩:=aqY a;exact kA (eT h i _ (aqm b))
section
variable{P:Program}{st:St}{d:Nat}{ty:TypeId}{pos:String}{af:Array Edge}{gd:Option (Nat×Bool)}{K:St->Prop}
def SS.mono{K c:St->Prop}(h:SS P R st K)(p:∀s,K s->∃b,bX P s b/\c b):SS P R st c:=λj f e a w next Q o r=>
 h j f e a w next Q o λv u k g i m=>by
  obtain⟨b,q,t⟩:=p v u;obtain⟨l,n⟩:=q j f k g i m;exact r b t l g i n
def SS.fresh(e:∀x,(bz st.t x).fX (λk=>k==d)=true)(a:∀k ob,aY st.h k=some ob->ob.fX (λk=>k==d)=true)
 (h:SS P R st λs=>s=⟨st.n,jq Z y (cP d st.t),u++bh d st.h⟩):SS P R st λs=>s=⟨st.n,jq Z y st.t,u++st.h⟩:=by
 refine h.mono λs c=>?_;subst c;refine⟨_,bX.same (λx=>?_) (λk=>?_),rfl⟩
 ·rw[iQ,iQ,sJ,nQ (e x)]
 ·rw[dZ,dZ,da]
  split
  ·rfl
  ·cases b:aY st.h k with
   |none=>rfl
   |some ob=>rw[art,Ob.nQ (a k ob b)]
def SS.Y_(g:∀x,(bz st.t x).fX Y=true)(a:∀k ob,aY st.h k=some ob->ob.fX Y=true)(c:∀k,Y k=true->aY st.h k=none)
 (h:SS P R st λs=>s=⟨st.n,jq Z y (qb Y st.t),u++gW Y st.h⟩):SS P R st λs=>s=⟨st.n,jq Z y st.t,u++st.h⟩:=by
 refine h.mono λs f=>?_;subst f;refine⟨_,bX.same (λx=>?_) (λk=>?_),rfl⟩
 ·rw[iQ,iQ,lL,kA (g x)]
 ·rw[dZ,dZ,sN]
  split
  ·rfl
  ·split
   ·rename_i e;exact c k e
   ·cases b:aY st.h k with
    |none=>rfl
    |some ob=>rw[art,Ob.nN (a k ob b)]
def SR.H5{E:Bs}(p:SR E c N u v){k d:Nat}{ob:Ob}(C:aY u k=some ob)(ab:d≠k)(Y:nJ d u=true)(jI:d<4294967296):
 SR E c (N.cz d (N.bJ k) (N.sv k) (N.cA k)) ((d,some ob)::(k,none)::u) v/\∀b o a,bF E c N u v b o a->bF E c (N.cz d (N.bJ k) (N.sv k) (N.cA k)) ((d,some ob)::(k,none)::u) v b o a:=by
 have D:∀j h,aY ((d,some ob)::(k,none)::u) j=some h->(j=d/\h=ob)\/(j≠d/\j≠k/\aY u j=some h):=λj h f=>by
  by_cases m:j=d
  ·subst m;rw[bc]at f;exact .inl ⟨rfl,(aql f).symm⟩
  ·rw[a_ m]at f
   by_cases r:j=k
   ·subst r;rw[bc]at f;cases f
   ·rw[a_ r]at f;exact .inr ⟨m,r,f⟩
 have Q:∀b o a,bF E c N u v b o a->bF E c (N.cz d (N.bJ k) (N.sv k) (N.cA k)) ((d,some ob)::(k,none)::u) v b o a:=λb o a ⟨z,A,n⟩=>⟨z,A,λj h f g=>by
  rcases D j h f with⟨rfl,rfl⟩|⟨m,r,q⟩
  ·rw[Env.bL]at g;rw[Env.bN];exact n k _ C g
  ·rw[Env.br m]at g;rw[Env.jS m];exact n j _ q g⟩
 refine⟨⟨p.ext,p.jG,λj h f=>?_,λj h b f g=>?_,λj Z aa a0 b f q g B=>?_,λj f=>by rw[Env.br (by omega),Env.cW (by omega)];exact p.tV j f⟩,Q⟩
 ·rcases D j h f with⟨rfl,rfl⟩|⟨m,r,q⟩
  ·have H:=(p.ob k _ C).mono Q
   have X:h.fQ j=false:=vN Y k _ C;cases h with
   |box t cs=>
    obtain⟨y,b,us,z,A,n⟩:=H;exact⟨by rw[Env.bN];exact y,b,us,by rw[Env.bL];exact z,A,n.1,λi e a F U=>(n.2 i e a F U).env rfl j (eO (by simpa[Ob.fQ]using X) i e F) (λ_ l=>Env.br l) (λ_ l=>Env.cW l)⟩
   |arr t sz ac wr=>
    obtain⟨y,z,A,n⟩:=H;refine⟨y,z,λhw=>by rw[Env.bN];exact A hw,?_⟩;rcases n with⟨s,w,x⟩|⟨b,M,O,s,w,x,I,J,L,G,a8⟩
    ·exact .inl ⟨s,by rw[Env.bL];exact w,by rw[Env.dz];exact x⟩
    ·exact .inr ⟨b,M,O,by rw[Env.bL];exact s,by rw[Env.dz];exact w,x,I,J,L,G,by rw[Env.bN];exact a8⟩
   |mp d es=>
    obtain⟨y,b,arr,a9,z,A,n⟩:=H;exact⟨by rw[Env.bN];exact y,b,arr,a9,by rw[Env.bL];exact z,A,n⟩
   |nr t cs=>
    obtain⟨y,n⟩:=H;refine⟨by rw[Env.bN];exact y,?_⟩;rcases n with⟨s,w,x⟩|⟨b,M,O,s,w,x,I,J,L,G⟩
    ·exact .inl ⟨s,by rw[Env.bL];exact w,by rw[Env.dz];exact x⟩
    ·exact .inr ⟨b,M,O,by rw[Env.bL];exact s,by rw[Env.dz];exact w,x,I,J,L,⟨G.1,λi e a F U=>(G.2 i e a F U).env rfl j (eO (by simpa[Ob.fQ]using X) i e F) (λ_ l=>Env.br l) (λ_ l=>Env.cW l)⟩⟩
  ·exact((p.ob j h q).mono Q).env (k:=d) m (.inl (vN Y j h q)) (λ_ l=>Env.br l) (λ_ l=>Env.cW l) (λ_ l=>Env.jS l) (λb _ _=>rfl)
 ·rcases D j h f with⟨rfl,rfl⟩|⟨m,r,q⟩
  ·rw[Env.bL]at g;exact p.base k _ b C g
  ·rw[Env.br m]at g;exact p.base j _ b q g
 ·rcases D j aa f with⟨rfl,rfl⟩|⟨m,r,V⟩
  ·rcases D Z a0 q with⟨rfl,rfl⟩|⟨S,W,R⟩
   ·rfl
   ·rw[Env.bL]at g
    rw[Env.br S]at B;exact absurd (p.inj _ _ _ _ _ R C B g) W
  ·rcases D Z a0 q with⟨rfl,rfl⟩|⟨S,W,R⟩
   ·rw[Env.bL]at B
    rw[Env.br m]at g;exact absurd (p.inj _ _ _ _ _ V C g B) r
   ·rw[Env.br m]at g
    rw[Env.br S]at B;exact p.inj _ _ _ _ _ V R g B
def WC{d:Nat}(a:nJ d u=true)(k:Nat):nJ d ((k,none)::u)=true:=by simpa[nJ]using a
def nR(k:Nat)(c:AV):(c.kill k).kill k=c.kill k:=by
 have:=jT k c;generalize c.kill k=x at this;unfold AV.kill;rw[aqc (by rw[this];simp)]
def Ob.nR(k:Nat)(o:Ob):(o.kill k).kill k=o.kill k:=by
 cases o with
 |box t a=>
  simp only[Ob.kill,aru];congr 1;exact aq6 λc _=>by simp[Go.Proofs.YtmdbmigbihboaaaGreatDoor.nR]
 |arr=>rfl
 |mp=>rfl
 |nr t a=>
  simp only[Ob.kill,aru];congr 1;exact aq6 λc _=>by simp[Go.Proofs.YtmdbmigbihboaaaGreatDoor.nR]
def oR{c:Act}{w e:World}(h:(Builtin.append_ #[a,a] ty #[c.eval b,c.eval g]).run P w=.ok E e):
 (execOp c.eval ⟨Z,.call ⟨.builtin .append, #[b,g], #[a,a]⟩,ty,pos,af,gd⟩).run P w=.ok (.value E) e:=by
 have f:(#[b,g]:Array Operand).map c.eval= #[c.eval b,c.eval g]:=by simp only[asC,aqz,aro]
 simp only[execOp,resolve,f,aqs,aqu,aqt,invoke,builtin];simp only[atg,h,aqt]
def SS.Ky{t E:TypeId}{x y:Operand}{k h z:Nat}{h1:Hp}{tt wr:Bool}{rows ys:List (List AV)}(ht:Ft P t=some (E,h,z,s))(hx:st.ev x=.ow k)(S:gV st.h (st.ev y)=some (h1,.sl tt h ys))
 (O:aY h1 k=some (.arr E h rows wr)) (L:d≠k) (W:0<h) (U:rows.length+ys.length<=maxLen) (I:(rows.length+ys.length)*z<=140737488355328) (J:d<st.n)
 (G:K ⟨st.n,(d,.ow d)::cP d st.t,(d,some (.arr E h (rows++ys) wr))::(k,none)::bh d h1⟩):SS P ⟨some d,.call ⟨.builtin .append, #[x,y], #[t,t]⟩,ty,pos,af,gd⟩ st K:=by
 intro v o e a w next Q c V
 obtain⟨i,zv,p2,p3,p4,p5,rfl,rfl,_⟩:=cK ht;obtain⟨b,a3,hv⟩:=nM c.sr (c.ev y) S;have p:=c.cA a3;have q:=p.ev x;have a2:a.eval x=b.sv k:=by
  have:(⟨st.n,st.t,h1⟩:St).ev x=.ow k:=by rw[<-hx];cases x<;>rfl
  rw[this]at q;generalize a.eval x=u at q;cases q with
  |ow=>rfl
 obtain⟨X,A⟩:=p.sr.kill d;have R:aY (bh d h1) k=some (.arr E i.size rows wr):=by rw[da,O];rfl
 obtain⟨Y,B⟩:=X.H5 R L (dQ d h1) (by have:=c.n.2;omega);have a0:=((hv.mono A).mono B).cJ (E:=some (b.cz d (b.bJ k) (b.sv k) (b.cA k)));obtain⟨g,r,n,l,D,Z,H⟩:=Y.append (by have:=c.n.2;omega) bc t ty i zv p2 p3 p4 rfl p5 W a0 U I;rw[Env.dz]at D;have N:∀j,aY ((d,some (.arr E i.size (rows++ys) wr))::(k,none)::bh d h1) j=aY ((d,some (.arr E i.size (rows++ys) wr))::bh d ((d,some (.arr E i.size rows wr))::(k,none)::bh d h1)) j:=λj=>by
  by_cases m:j=d
  ·subst m;rw[bc,bc]
  ·rw[a_ m,a_ m,da,a_ m]
   by_cases C:j=k
   ·subst C;rw[bc];rfl
   ·rw[a_ C,da]
    cases aY h1 j with
    |none=>rfl
    |some ob=>simp[Ob.nR]
 have a1:TR (bF v o ((b.cz d (b.bJ k) (b.sv k) (b.cA k)).cz d n g l) ((d,some (.arr E i.size (rows++ys) wr))::bh d ((d,some (.arr E i.size rows wr))::(k,none)::bh d h1)) r) ((b.cz d (b.bJ k) (b.sv k) (b.cA k)).cz d n g l) ((d,.ow d)::cP d st.t) (a.tmps.setIfInBounds d g):=by
  refine TR.put ?_ (by rw[c.n.1];exact J) ?_
  ·have F:=(((((p.tr.kill d).mono A).mono B).env d (dE d st.t) (e':=b.cz d (b.bJ k) (b.sv k) (b.cA k)) (λ_ f=>Env.br f) (λ_ f=>Env.cW f)).mono H)
   exact F.env d (dE d st.t) (λ_ f=>Env.br f) (λ_ f=>Env.cW f)
  ·have:=VR.ow (Rd:=bF v o ((b.cz d (b.bJ k) (b.sv k) (b.cA k)).cz d n g l) ((d,some (.arr E i.size (rows++ys) wr))::bh d ((d,some (.arr E i.size rows wr))::(k,none)::bh d h1)) r) (e:=(b.cz d (b.bJ k) (b.sv k) (b.cA k)).cz d n g l) (k:=d)
   rw[Env.dz]at this;exact this
 have M:Ga v o _ ⟨st.n,(d,.ow d)::cP d st.t,_⟩ (a.put (some d) g) r:=⟨by simpa[Act.put]using c.n,c.d,Z,a1⟩;exact dY (oR (by rw[a2];exact D)) (V _ G _ _ _ (M.ky N))
def SS.F5{t E:TypeId}{x y:Operand}{o sz0 u:Nat}{h1:Hp}{tt:Bool}{ys:List (List AV)}(Z:Ft P t=some (E,o,u,s))(hx:st.ev x=.sl true sz0 [])(R:gV st.h (st.ev y)=some (h1,.sl tt o ys))
 (V:0<o) (S:ys.length<=maxLen) (L:ys.length*u<=140737488355328) (M:d<st.n)
 (J:K ⟨st.n,(d,.ow d)::cP d st.t,(d,some (.arr E o ys true))::bh d h1⟩):SS P ⟨some d,.call ⟨.builtin .append, #[x,y], #[t,t]⟩,ty,pos,af,gd⟩ st K:=by
 intro r p e a w next Q b U
 obtain⟨i,zv,p2,p3,p4,p5,rfl,rfl,_⟩:=cK Z;obtain⟨g,a2,hv⟩:=nM b.sr (b.ev y) R;have D:=b.cA a2;have H:=b.ev x;rw[hx]at H;obtain⟨c,a3,us,B,_,_,_,_,_,a1,_⟩:=H.lS;have C:=a1 rfl;simp only[aq5]at C B;subst C;obtain⟨W,v⟩:=D.sr.kill d;obtain⟨X,z⟩:=W.CE d E i.size c (dQ d h1) (by have:=b.n.2;omega);have Y:=((hv.mono v).mono z).cJ (E:=some (g.cz d none (.slice c 0 0) 0));obtain⟨h,q,n,l,F,G,A⟩:=X.append (by have:=b.n.2;omega) bc t ty i zv p2 p3 p4 rfl p5 V Y (by simpa using S) (by simpa using L);rw[Env.dz]at F;rw[aqZ]at G A;have O:∀j,aY ((d,some (.arr E i.size ys true))::bh d h1) j=aY ((d,some (.arr E i.size ys true))::bh d ((d,some (.arr E i.size [] true))::bh d h1)) j:=λj=>by
  by_cases m:j=d
  ·subst m;rw[bc,bc]
  ·rw[a_ m,a_ m,da,da,a_ m,da]
   cases aY h1 j with
   |none=>rfl
   |some ob=>simp[Ob.nR]
 have a0:TR (bF r p ((g.cz d none (.slice c 0 0) 0).cz d n h l) ((d,some (.arr E i.size ys true))::bh d ((d,some (.arr E i.size [] true))::bh d h1)) q) ((g.cz d none (.slice c 0 0) 0).cz d n h l) ((d,.ow d)::cP d st.t) (a.tmps.setIfInBounds d h):=by
  refine TR.put ?_ (by rw[b.n.1];exact M) ?_
  ·have I:=(((((D.tr.kill d).mono v).mono z).env d (dE d st.t) (e':=g.cz d none (.slice c 0 0) 0) (λ_ f=>Env.br f) (λ_ f=>Env.cW f)).mono A)
   exact I.env d (dE d st.t) (λ_ f=>Env.br f) (λ_ f=>Env.cW f)
  ·have:=VR.ow (Rd:=bF r p ((g.cz d none (.slice c 0 0) 0).cz d n h l) ((d,some (.arr E i.size ys true))::bh d ((d,some (.arr E i.size [] true))::bh d h1)) q) (e:=(g.cz d none (.slice c 0 0) 0).cz d n h l) (k:=d)
   rw[Env.dz]at this;exact this
 have N:Ga r p _ ⟨st.n,(d,.ow d)::cP d st.t,_⟩ (a.put (some d) h) q:=⟨by simpa[Act.put]using b.n,b.d,G,a0⟩;exact dY (oR (by rw[B];exact F)) (U _ J _ _ _ (N.ky O))
end
variable{I:Bool}{C k:List AV}{e t:Nat}
section
variable{P:Program}{st:St}{d:Nat}{dd:Option Nat}{ty:TypeId}{pos:String}{af:Array Edge}{gd:Option (Nat×Bool)}{K:St->Prop}
def Bx.ext{B:Bs}(h:Bx B v)(c:∀b,¬B.own b):Ext B.w v:=⟨⟨h.os,h.tape,h.output,h.size,λb e=>h.block b λa=>by
 rcases a with a|a
 ·omega
 ·exact c b a⟩,h.drawn⟩
def Za(b:Nat):¬(cB [] e N v).own b:=by rintro⟨p,c,h,_⟩;cases h
def ae0(a:(cB [] e N v).gU t):v.heap.size<=t:=a.resolve_right (Za t)
def Ga.ahh{h:Bs}{f m:Env}{a:Act}{w g:World}(i:Ga h c f st a w)(z:SR (cB [] e f w) (cRd [] e h c f st.h w) m [] g)
 (A:VR (bF (cB [] e f w) (cRd [] e h c f st.h w) m [] g) (some m) y E) (x:y.fX (λ_=>true)=true) (r:d<st.n):Ga h c f ⟨st.n,(d,y)::st.t,st.h⟩ (a.put (some d) E) g:=by
 have p:Ext w g:=z.ext.ext Za;have s:Ga h c f st a g:=i.later p;refine s.put r ?_;have B:=A.FG (e':=f) rfl (λ_=>true) x (λj n=>by cases n) (λj n=>by cases n);refine B.mono λb o u ⟨C,D,_⟩=>?_;by_cases l:(cB [] e f w).gU b
 ·have l:=ae0 l
  exact⟨C,λv=>absurd (i.sr.ext.gU l) v,λk ob t q=>by have:=(i.sr.base _ _ _ t q).2;omega⟩
 ·exact(i.sr.later p).2 b o u (D l).1
def SS.akF{f:FuncId}{n:Op}(m:Bn P f [] C [] y)(B:Kb P ⟨some d,n,ty,pos,af,gd⟩ st f k)(D:Rx st [] (1000*(d+1)) u [] C k)(G:y.fX (λ_=>true)=true)(A:d<st.n)
 (t:K ⟨st.n,(d,y)::st.t,u⟩):SS P ⟨some d,n,ty,pos,af,gd⟩ st K:=by
 intro q g e a w next Q h H
 obtain⟨U,N,J⟩:=B m.1 q g e a w h;obtain⟨r,l,j,F,O⟩:=D q g e w _ h.sr N;have i:=h.cA l;have s:Ka (1000*(d+1)) []=true:=by
  have:=h.n.2;simp[Ka,Bm];omega
 have L:=i.sr.nc j s F;have z:=m.2 _ _ _ w U L (O.nO λb o c E=>E.nc j λp ob I=>by simp[aY]at I);unfold Oper.wp;rw[J w];show Calls P f _ w _;refine z.mono λx W S=>?_;obtain⟨v,V,rfl,M,R⟩:=S;exact H _ t r _ _ (i.ahh M R G A)
def SS.ah8{f:FuncId}{q:Op}(n:Bn P f [] C [] y)(G:y.pu=true)(B:Kb P ⟨some d,q,ty,pos,af,gd⟩ st f k)(g:Pd st [] (1000*(d+1)) [] C k)(E:y.fX (λ_=>true)=true)(A:d<st.n)
 (s:K ⟨st.n,(d,y)::st.t,st.h⟩):SS P ⟨some d,q,ty,pos,af,gd⟩ st K:=by
 intro r l e a w next Q h F
 obtain⟨R,L,H⟩:=B n.1 r l e a w h;obtain⟨m,V,M⟩:=g r l e w _ h.sr L;have t:∀b o u,RB [] (1000*(d+1)) e w b o u->bF (cB [] (1000*(d+1)) e w) (RB [] (1000*(d+1)) e w) (e.pi [] (1000*(d+1))) [] w b o u:=λb o u i=>⟨i.1,λ_=>i,λp ob j U=>by simp[aY]at j⟩;have I:SR (cB [] (1000*(d+1)) e w) (RB [] (1000*(d+1)) e w) (e.pi [] (1000*(d+1))) [] w:=
  ⟨⟨rfl,rfl,rfl,aqf _,λ_ _=>rfl,aqf _⟩,⟨λb o u i=>i,λb o u g=>⟨(h.sr.CD g).1,h.sr.Kk m g⟩⟩,λp ob j=>by simp[aY]at j,λp ob b j=>by simp[aY]at j,λp X ob W b j=>by simp[aY]at j,λc _=>⟨rfl,rfl⟩⟩
 have z:=n.2 _ _ _ w R I (M.nO t);unfold Oper.wp;rw[H w];show Calls P f _ w _;refine z.mono λx Y O=>?_;obtain⟨v,S,rfl,J,N⟩:=O;exact F _ s e _ _ (h.ahh (J.pure (λc ob D=>by simp[aY]at D) ⟨λb o u i=>⟨i.1.1,i.2⟩,λb o u g=>⟨h.sr.CD g,h.sr.Kk m g⟩⟩) (N.pure G) E A)
def SS.Kz{t E:TypeId}{x y:Operand}{z W:Nat}{rows ys:List (List AV)}(ht:Ft P t=some (E,z,W,s))(hx:st.ev x=.sl true z rows)(hl:gV st.h (st.ev y)=some (u,.sl I z ys))
 (S:0<ys.length) (Y:0<z) (R:rows.length+ys.length<=maxLen) (J:(rows.length+ys.length)*W<=140737488355328) (hd:d<st.n)
 (hK:K ⟨st.n,(d,.ow d)::cP d st.t,(d,some (.arr E z (rows++ys) true))::bh d u⟩):SS P ⟨some d,.call ⟨.builtin .append, #[x,y], #[t,t]⟩,ty,pos,af,gd⟩ st K:=by
 intro w0 V e a w next Q m hn
 obtain⟨i,l,p2,p3,p4,p5,rfl,rfl,_⟩:=cK ht;obtain⟨n,ap,hv⟩:=nM m.sr (m.ev y) hl;have B:=m.cA ap;have an:VR (bF w0 V n u w) (some n) (.sl true i.size rows) (a.eval x):=by
  have:=B.ev x;have e2:(⟨st.n,st.t,u⟩:St).ev x=st.ev x:=by cases x<;>rfl
  rw[e2,hx]at this;exact this
 obtain⟨F,ar,g,a5,a0,a2,N,_,au,ak,ha⟩:=an.lS;obtain⟨aq,G,xs,a6,a1,a3,O,_,av,_,a4⟩:=hv.lS;have a9:=ak rfl;subst a9;have aa:=dX a0;have ab:=dX a1;have v:xs.length=ys.length*i.size:=by rw[O.1,ab]
 have ao:xs≠[]:=by
  rintro rfl;have:=asK S Y;simp at v;omega
 obtain⟨A,D,rfl,a8⟩:=a4 ao;have U:∀(j:Nat) b,xs[j]? =some b->w.cell? ((⟨A,D,none⟩:Addr).add j)=some b:=λj b M=>by rw[aqW];exact(a8 j b M).1
 have C:g.length=rows.length*i.size:=by rw[N.1,aa]
 have aw:rows.length+ys.length<=9223372036854775807:=by unfold maxLen at R;exact R
 have ae:∃f,(Builtin.append_ #[t,t] ty #[a.eval x,a.eval y]).run P w=.ok (.slice (some ⟨w.heap.size,0,none⟩) (rows.length+ys.length) (grownCap w (rows.length+ys.length) f E))
  (w.drew.alloc (.cells (g.toArray++xs.toArray++Builtin.zeroCells l.cells (grownCap w (rows.length+ys.length) f E - (rows.length+ys.length))) E)):=by
  rw[a5,a6];by_cases q:rows.length=0
  ·have al:g=[]:=arh (by rw[C,q];simp)
   subst al;simp only[q,aqN];cases F with
   |none=>
    refine⟨0,?_⟩;have:=aue (P:=P) w t ty E i l p2 p3 p4 ⟨A,D,none⟩ ys.length G xs v U S (by omega) (by
     rw[q,aqN]at J;omega)
    simpa using this
   |some F=>
    refine⟨0,?_⟩;have:=ast (P:=P) w t ty E i l p2 p3 p4 F 0 0 [] (by simp) (by simp) ⟨A,D,none⟩ ys.length G xs v U (by omega) (by omega) (by
     rw[q,aqN]at J;rw[aqN,nextslicecap_zero S];omega)
    simpa using this
  ·have am:g≠[]:=by
    rintro rfl;have:=asK (Nat.pos_of_ne_zero q) Y;simp at C;omega
   obtain⟨b1,o1,rfl,a7⟩:=ha am;exact⟨rows.length,ast (P:=P) w t ty E i l p2 p3 p4 ⟨b1,o1,none⟩ rows.length rows.length g C (λj b M=>by rw[aqW];exact(a7 j b M).1) ⟨A,D,none⟩ ys.length G xs v U (by omega) (by omega) (as8 (by omega) J)⟩
 obtain⟨f,ai⟩:=ae;obtain⟨aj,H⟩:=B.sr.kill d;have ag:=arF w (rows.length+ys.length) f E;have ah:=aud w (rows.length+ys.length) f E R;have ac:(rows++ys).flatten.length=g.length+xs.length:=by rw[arQ,aqy,N.1,O.1]
 obtain⟨Z,X⟩:=aj.H2 d E i.size (grownCap w (rows.length+ys.length) f E) (rows:=rows++ys) (cur:=g.toArray++xs.toArray++Builtin.zeroCells l.cells (grownCap w (rows.length+ys.length) f E - (rows.length+ys.length)))
  (λr p=>by
   rcases aqp.1 p with p|p
   ·exact a0 r p
   ·exact a1 r p)
  (λc o=>by
   rw[arQ]at o;rcases aqp.1 o with o|o
   ·exact a2 c o
   ·exact a3 c o)
  (by
   have n:(g.toArray++xs.toArray++Builtin.zeroCells l.cells (grownCap w (rows.length+ys.length) f E - (rows.length+ys.length))).toList.take (rows++ys).flatten.length=g++xs:=by
    rw[ass,ass,ac,<-aqy];exact as6
   rw[n,arQ];exact(N.imp λ_ _ h=>h.mono H).append (O.imp λ_ _ h=>h.mono H)) (by rw[aqy];exact ag) ah
  (by
   simp only[asr,ar3,arR,p5,C,v,<-aqS];congr 1;omega) (dQ d u) (by have:=m.n.2;omega) (w.drew.alloc (.cells (g.toArray++xs.toArray++Builtin.zeroCells l.cells (grownCap w (rows.length+ys.length) f E - (rows.length+ys.length))) E)) rfl (B.sr.ext.drew.alloc _)
 rw[aqy]at Z X;refine dY (oR ai) (hn _ hK _ _ _ ⟨by simpa[Act.put]using m.n,m.d,Z,TR.put ?_ (by rw[m.n.1];exact hd) ?_⟩)
 ·exact(((B.tr.kill d).mono H).mono X).env d (dE d st.t) (λ_ L=>Env.br L) (λ_ L=>Env.cW L)
 ·have:=VR.ow (Rd:=bF w0 V (n.cz d (some w.heap.size) (.slice (some ⟨w.heap.size,0,none⟩) (rows.length+ys.length) (grownCap w (rows.length+ys.length) f E)) 0) ((d,some (.arr E i.size (rows++ys) true))::bh d u) (w.drew.alloc (.cells (g.toArray++xs.toArray++Builtin.zeroCells l.cells (grownCap w (rows.length+ys.length) f E - (rows.length+ys.length))) E))) (e:=n.cz d (some w.heap.size) (.slice (some ⟨w.heap.size,0,none⟩) (rows.length+ys.length) (grownCap w (rows.length+ys.length) f E)) 0) (k:=d)
  rw[Env.dz]at this;exact this
end
variable{m:TypeDesc}
section
open Go Go.RowKit MapKept
variable{P:Program}
structure Pj(P:Program)(kt:TypeId)(d:TypeDesc):Prop where
 Bq:∀(e:Bool) (v:Value) (w:World),ku d v->(Instr.checkKey e 10000 kt v).run P w=.ok () w
 fnd:∀(v:Value) (l:List MapEntry),ku d v->(∀m∈l,ku d m.key)->
  ((∀w:World,(Instr.findKey kt v l).run P w=.ok none w)/\∀m∈l,m.key≠v)\/∃j m,(∀w:World,(Instr.findKey kt v l).run P w=.ok (some (j,m.val)) w)/\l[j]? =some m/\m.key=v
 stay:∀(v:Value) (w:World),ku d v->(Instr.keyThatStays v v).run P w=.ok v w
def Pk:TypeDesc->Bool
 |.int _=>true
 |.bool=>true
 |_=>false
def oS(h:Pk m=true):ku m E↔IsKey m E:=by
 cases m<;>simp[Pk]at h<;>rfl
def CX{kt:TypeId}{d:TypeDesc}(hp:Pk d=true)(hu:P.underlying kt=some d):Pj P kt d where
 Bq:=λe v w hv=>auq hu ((oS hp).1 hv) e 9999
 fnd:=λv l hv hl=>by
  have hv':=(oS hp).1 hv;rcases findNow_spec hv' l 0 (λm hm=>(oS hp).1 (hl m hm))with⟨h1,h2⟩|⟨j,m,h1,h2,h3⟩
  ·exact .inl ⟨λw=>run_findKey hu h1,h2⟩
  ·exact .inr ⟨j,m,λw=>by have:=run_findKey (w:=w) hu h1;simpa using this,h2,h3⟩
 stay:=λv w hv=>run_keyThatStays ((oS hp).1 hv)
def akG(P:Program)(f g:Field):Bool:=decide (f.offset=0) && decide (g.offset=1) && f.name != "_"&& g.name != "_"&& (match P.underlying f.type,P.underlying g.type with
 |some (.int .i64),some (.int .i64)=>true
 |_,_=>false)
def KA(P:Program)(kt:TypeId):Bool:= !(P.stoodInHeld kt) && (match P.underlying kt with
 |some (.struct ⟨[f,g]⟩)=>akG P f g
 |_=>false)
def u5(h:KA P a=true):P.stoodInHeld a=false/\∃f g,P.underlying a=some (.struct #[f,g])/\f.offset=0/\g.offset=1/\f.name≠ "_"/\g.name≠ "_"/\P.underlying f.type=some (.int .i64)/\P.underlying g.type=some (.int .i64):=by
 simp only[KA,aqe,arq]at h;obtain⟨m,b⟩:=h;split at b
 ·rename_i f g n
  simp only[akG,aqe,ard,bne_iff_ne]at b;obtain⟨⟨⟨⟨d,e⟩,i⟩,j⟩,c⟩:=b;refine⟨m,f,g,n,d,e,i,j,?_⟩;split at c
  ·rename_i k l;exact⟨k,l⟩
  ·cases c
 ·cases b
def F6(h:KA P a=true)(e b c d:Int)(w:World):(Op.equal a (.agg #[.int .i64 e,.int .i64 b]) (.agg #[.int .i64 c,.int .i64 d])).run P w=.ok (decide (e=c/\b=d)) w:=by
 obtain⟨z,f,g,u,C,D,A,B,x,y⟩:=u5 h;have t:P.fieldsOf a= #[f,g]:=by simp[Program.fieldsOf,u]
 have p1:P.plainKey f.type=true:=by simp[Program.plainKey,x]
 have p2:P.plainKey g.type=true:=by simp[Program.plainKey,y]
 show(Op.equalIn (9999+1) _ _ _).run P w=_;rw[run_equalIn_struct w 9999 a _ _ (by rw[t];exact u) z,t];have k:∀i:Array Value,∀v,i[0]? =some v->(part f.type i f.offset).run P w=.ok v w:=λi v p=>asm w p1 (by rw[C];exact p);have q:∀i:Array Value,∀v,i[1]? =some v->(part g.type i g.offset).run P w=.ok v w:=λi v p=>asm w p2 (by rw[D];exact p);have j:(Op.equalIn 9999 f.type (.int .i64 e) (.int .i64 c)).run P w=.ok (e==c) w:=aur (P:=P) w 9998 f.type .i64 .i64 e c x;have n:(Op.equalIn 9999 g.type (.int .i64 b) (.int .i64 d)).run P w=.ok (b==d) w:=aur (P:=P) w 9998 g.type .i64 .i64 b d y;simp only[Op.eqFields,A,B,ne_eq,atG,aqP,aqs,k #[.int .i64 e,.int .i64 b] (.int .i64 e) rfl,k #[.int .i64 c,.int .i64 d] (.int .i64 c) rfl,aqt];have E:=k #[.int .i64 e,.int .i64 b] (.int .i64 e) rfl;have F:=k #[.int .i64 c,.int .i64 d] (.int .i64 c) rfl;have r:=q #[.int .i64 e,.int .i64 b] (.int .i64 b) rfl;have s:=q #[.int .i64 c,.int .i64 d] (.int .i64 d) rfl;cases l:(e==c)with
 |false=>
  rw[l]at j;have:¬e=c:=by simpa using l
  simp[j,this]
 |true=>
  rw[l]at j;have:e=c:=by simpa using l
  subst this;cases m:(b==d)with
  |false=>
   rw[m]at n;have o:¬b=d:=by simpa using m
   simp[j,n,r,s,o]
  |true=>
   rw[m]at n;have o:b=d:=by simpa using m
   subst o;simp[j,n,r,s]
def WD(h:KA P a=true)(e:Bool)(c b:Int)(w:World):(Instr.checkKey e 10000 a (.agg #[.int .i64 c,.int .i64 b])).run P w=.ok () w:=by
 obtain⟨t,f,g,o,r,s,p,q,d,i⟩:=u5 h;have p1:P.plainKey f.type=true:=by simp[Program.plainKey,d]
 have p2:P.plainKey g.type=true:=by simp[Program.plainKey,i]
 have m:(part f.type #[Value.int .i64 c,.int .i64 b] f.offset).run P w=.ok (.int .i64 c) w:=asm w p1 (by rw[r];rfl);have n:(part g.type #[Value.int .i64 c,.int .i64 b] g.offset).run P w=.ok (.int .i64 b) w:=asm w p2 (by rw[s];rfl);have j:(Instr.checkKey e 9999 f.type (.int .i64 c)).run P w=.ok () w:=auq d (k:=.int .i64 c) (by simp[IsKey]) e 9998;have l:(Instr.checkKey e 9999 g.type (.int .i64 b)).run P w=.ok () w:=auq i (k:=.int .i64 b) (by simp[IsKey]) e 9998;rw[Instr.checkKey];simp[aqF o,aqs,p,q,m,n,j,l]
def KB{g:TypeId}(h:KA P g=true)(a b:Int):∀(l:List MapEntry) (i:Nat),(∀m∈l,∃c d:Int,m.key=.agg #[.int .i64 c,.int .i64 d])->
 ((∀w:World,(Instr.findAsking g (.agg #[.int .i64 a,.int .i64 b]) l i).run P w=.ok none w)/\∀m∈l,m.key≠.agg #[.int .i64 a,.int .i64 b])\/
  ∃j m,(∀w:World,(Instr.findAsking g (.agg #[.int .i64 a,.int .i64 b]) l i).run P w=.ok (some (i+j,m.val)) w)/\l[j]? =some m/\m.key=.agg #[.int .i64 a,.int .i64 b]
 |[],i,_=>.inl ⟨λw=>by simp[Instr.findAsking,aqu],by simp⟩
 |m::l,i,q=>by
  obtain⟨c,d,k⟩:=q m (by simp);by_cases p:a=c/\b=d
  ·obtain⟨rfl,rfl⟩:=p
   refine .inr ⟨0,m,λw=>?_,rfl,k⟩;have:=F6 h a b a b w;simp only[Instr.findAsking,k,aqs,this,aqt];simp[aqu]
  ·have t:m.key≠.agg #[.int .i64 a,.int .i64 b]:=λe=>by
    rw[k]at e;simp at e;exact p ⟨e.1.symm,e.2.symm⟩
   have r:∀w:World,(Instr.findAsking g (.agg #[.int .i64 a,.int .i64 b]) (m::l) i).run P w=(Instr.findAsking g (.agg #[.int .i64 a,.int .i64 b]) l (i+1)).run P w:=λw=>by
    have:=F6 h a b c d w;simp only[Instr.findAsking,k,aqs,this,aqt];simp[p]
   rcases KB h a b l (i+1) (λx f=>q x (by simp[f]))with⟨n,o⟩|⟨j,u,n,o,s⟩
   ·refine .inl ⟨λw=>by rw[r];exact n w,λx f=>?_⟩
    rcases aqG.1 f with rfl|f
    ·exact t
    ·exact o x f
   ·exact .inr ⟨j+1,u,λw=>by rw[r,n w];congr 3;omega,by simpa using o,s⟩
def Zb{kt:TypeId}(h:KA P kt=true):Pj P kt (.tuple #[])where
 Bq:=λe v w hv=>by
  obtain⟨a,b,rfl⟩:=hv;exact WD h e a b w
 fnd:=λv l hv hl=>by
  obtain⟨a,b,rfl⟩:=hv;obtain⟨h0,f,g,hu,_⟩:=u5 h;have akH:∀w:World,(Instr.findKey kt (.agg #[.int .i64 a,.int .i64 b]) l).run P w=(Instr.findAsking kt (.agg #[.int .i64 a,.int .i64 b]) l 0).run P w:=λw=>by
   unfold Instr.findKey;rw[aqs,aqF hu,aqt];cases l with
   |nil=>simp[Instr.findNow,Instr.findAsking,aqu]
   |cons m l=>
    obtain⟨c,d,hm⟩:=hl m (by simp);simp[Instr.findNow,Instr.sameNow,hm]
  rcases KB h a b l 0 hl with⟨h1,h2⟩|⟨j,m,h1,h2,h3⟩
  ·exact .inl ⟨λw=>by rw[akH];exact h1 w,h2⟩
  ·exact .inr ⟨j,m,λw=>by rw[akH,h1 w];simp,h2,h3⟩
 stay:=λv w hv=>by
  obtain⟨a,b,rfl⟩:=hv;simp[Instr.keyThatStays,Instr.sameBits,aqu]
def ah9(P:Program)(kt:TypeId):Option TypeDesc:=cond (KA P kt) (some (.tuple #[])) (match P.underlying kt with
 |some (.int k)=>some (.int k)
 |some .bool=>some .bool
 |_=>none)
def ae1(h:ah9 P a=some m):Pj P a m:=by
 unfold ah9 at h;cases b:KA P a with
 |true=>
  rw[b]at h;cases h;exact Zb b
 |false=>
  rw[b]at h;simp only[aqi]at h;split at h
  ·rename_i k c
   cases h;exact CX rfl c
  ·rename_i c
   cases h;exact CX rfl c
  ·cases h
end
variable{S:Array TypeId}{i:List (List AV)}{n:TypeId}
section
open Go Go.RowKit MapKept
open Classical in
noncomputable def eW{α:Type}:List (Value×α)->Value->Option α
 |[],_=>none
 |(k,c)::es,x=>if k=x then some c else eW es x
open Classical in
noncomputable def ni{α:Type}:List (Value×α)->Value->α->List (Value×α)
 |[],x,v=>[(x,v)]
 |(k,c)::es,x,v=>if k=x then(k,v)::es else(k,c)::ni es x v
def CY{α:Type}:∀{a:List (Value×α)} {x:Value},(∀p∈a,p.1≠x)->eW a x=none
 |[],_,_=>rfl
 |(k,c)::a,x,h=>by
  rw[eW,aqc (h (k,c) (by simp))];exact CY λp b=>h p (by simp[b])
def KD{α:Type}:∀{a:List (Value×α)} {x:Value} {j:Nat} {c:α},a[j]? =some (x,c)->(∀(i:Nat) p,i<j->a[i]? =some p->p.1≠x)->eW a x=some c
 |[],_,_,_,h,_=>by simp at h
 |(k,e)::a,x,j,c,h,b=>by
  cases j with
  |zero=>simp at h;rw[eW,aqd h.1,h.2]
  |succ j=>
   rw[eW,aqc (b 0 (k,e) (by omega) rfl)];exact KD (j:=j) (by simpa using h) λi p g f=>b (i+1) p (by omega) (by simpa using f)
def F7{α:Type}:∀{a:List (Value×α)} {x:Value} {v:α},(∀p∈a,p.1≠x)->ni a x v=a++[(x,v)]
 |[],_,_,_=>rfl
 |(k,c)::a,x,v,h=>by
  rw[ni,aqc (h (k,c) (by simp)),F7 λp b=>h p (by simp[b])];rfl
def RI{α:Type}:∀{a:List (Value×α)} {x:Value} {j:Nat} {c v:α},a[j]? =some (x,c)->(∀(i:Nat) p,i<j->a[i]? =some p->p.1≠x)->ni a x v=a.set j (x,v)
 |[],_,_,_,_,h,_=>by simp at h
 |(k,e)::a,x,j,c,v,h,b=>by
  cases j with
  |zero=>simp at h;rw[ni,aqd h.1,h.1];rfl
  |succ j=>
   rw[ni,aqc (b 0 (k,e) (by omega) rfl),RI (j:=j) (c:=c) (by simpa using h) λi p g f=>b (i+1) p (by omega) (by simpa using f)];rfl
def mapA(P:Program)(t:TypeId):Option (TypeDesc×Value):=
 match P.underlying t with
 |some (.map k e)=>match ah9 P k,P.info? e with
  |some d,some i=>match i.zero with
   |some z=>some (d,z)
   |none=>none
  |_,_=>none
 |_=>none
def gX{P:Program}{d:TypeDesc}(h:mapA P a=some (d,E)):∃k e i,P.underlying a=some (.map k e)/\Pj P k d/\P.info? e=some i/\i.zero=some E:=by
 unfold mapA at h;split at h
 ·rename_i k e b
  split at h
  ·rename_i j i c f
   split at h
   ·rename_i l g
    simp only[aqg,aqx]at h;obtain⟨rfl,rfl⟩:=h;exact⟨k,e,i,b,ae1 c,f,g⟩
   ·cases h
  ·cases h
 ·cases h
def Kc:Value->AV
 |.agg cs=>.ag (cs.toList.map lj)
 |x=>lj x
def H7{Rd:Nat->Nat->Value->Prop}{E:Option Env}(x:Value):VR Rd E (Kc x) x:=by
 unfold Kc;split
 ·rename_i a
  have h:=vP (Rd:=Rd) (E:=E) a.toList;have:=VR.ag (Rd:=Rd) (E:=E) a.toList h.1 h.2;simpa using this
 ·exact CF x
def Fs.find{P:Program}{α:Type}{R:α->Value->Prop}{d:TypeDesc}{b:List (Value×α)}{f:Array MapEntry}(h:Fs R d b f e)(L:ku d E)(F:Pj P a d):
 ((∀w:World,(Instr.findKey a E f.toList).run P w=.ok none w)/\(∀x∈f.toList,x.key≠E)/\eW b E=none/\∀v,ni b E v=b++[(E,v)])\/
 ∃j m c,(∀w:World,(Instr.findKey a E f.toList).run P w=.ok (some (j,m.val)) w)/\f[j]? =some m/\m.key=E/\eW b E=some c/\R c m.val/\b[j]? =some (E,c)/\∀v,ni b E v=b.set j (E,v):=by
 have y:∀(j:Nat) p,b[j]? =some p->∃m,f[j]? =some m/\m.key=p.1:=λj p l=>by
  have g:j<f.size:=by rw[h.len];exact(aqh.1 l).1
  exact⟨f[j],aqX g,(h.key j p _ l (aqX g)).1⟩
 rcases F.fnd E f.toList L h.isk with⟨o,n⟩|⟨j,m,o,n,q⟩
 ·have A:∀p∈b,p.1≠E:=λp l s=>by
   obtain⟨j,g,rfl⟩:=aqY l;obtain⟨m,k,M⟩:=y j _ (aqm g);exact n m (Array.mem_toList_iff.2 (au6 k)) (M.trans s)
  exact .inl ⟨o,n,CY A,λv=>F7 A⟩
 ·have k:f[j]? =some m:=by simpa using n
  have g:j<b.length:=by rw[<-h.len];exact(aqU.1 k).1
  have t:=h.key j _ m (aqm g) k;have G:b[j].1=E:=t.1.symm.trans q;have r:b[j]? =some (E,b[j].2):=by rw[aqm g,<-G]
  have u:∀(i:Nat) p,i<j->b[i]? =some p->p.1≠E:=λi p I l s=>by
   obtain⟨O,z,N⟩:=y i p l;have Q:=h.jN.2.2;have H:i<f.toList.length:=by have:=(aqU.1 z).1;simpa using this
   have J:j<f.toList.length:=by have:=(aqU.1 k).1;simpa using this
   have B:=atH.1 ((aus f e).1 h.jN).2.2 i j H J I;have C:f.toList[i]=O:=by
    have:=(aqU.1 z).2;simpa using this
   have D:f.toList[j]=m:=by
    have:=(aqU.1 k).2;simpa using this
   rw[C,D]at B;exact B (by rw[N,s,q])
  refine .inr ⟨j,m,b[j].2,o,k,q,KD r u,t.2,r,λv=>RI r u⟩
def Fs.put{P:Program}{α:Type}{R R':α->Value->Prop}{r:List (Value×α)}{q:Array MapEntry}(h:Fs R m r q e)(I:∀c u,R c u->R' c u)(o:ku m E){f L M:TypeId}
 (p1:P.underlying f=some (.map L M)) (p2:Pj P L m) {c:α} {v:Value} (J:R' c v) {w:World} (z:w.heap[t]? =some (.map q e)):
 ∃F G,(Instr.mapUpdate f (.map (some t)) E v).run P w=.ok () {w with heap:=w.heap.setIfInBounds t (.map F G)}/\Fs R' m (ni r E c) F G:=by
 rcases h.find (P:=P) o p2 with⟨B,s,C,H⟩|⟨j,a,X,B,s,C,H,Y,N,O⟩
 ·refine⟨q.push {key:=E,val:=v,born:=e},e+1,?_,?_⟩
  ·simp[Instr.mapUpdate,aqF p1,ark z,p2.Bq _ _ _ o,B,arL _ z,Result.andThen]
  ·rw[H]
   refine⟨by simp[h.len],λj x a k g=>?_,λa g=>?_,stamped_push h.jN s,λj a n=>?_,by rw[h.clk];simp⟩
   ·by_cases n:j<r.length
    ·rw[aq2 n]at k
     rw[asq,aqc (by rw[h.len];omega)]at g;exact⟨(h.key j x a k g).1,I _ _ (h.key j x a k g).2⟩
    ·have Q:j=r.length:=by
      have:=(aqh.1 k).1;simp at this;omega
     subst Q;simp at k;rw[asq,aqd h.len.symm]at g;simp at g;subst k;subst g;exact⟨rfl,J⟩
   ·rw[Array.toList_push,aqp]at g
    rcases g with g|g
    ·exact h.isk a g
    ·simp at g;subst g;exact o
   ·rw[asq]at n
    split at n
    ·rename_i b
     cases n;rw[b];exact h.clk
    ·exact h.O3 j a n
 ·have U:∀l,q[j]? =some l->({l with key:=E,val:=v}:MapEntry).key=l.key:=λl A=>by rw[s]at A;cases A;exact C.symm
  refine⟨q.modify j λb=>{b with key:=E,val:=v},e,?_,?_⟩
  ·simp[Instr.mapUpdate,aqF p1,ark z,p2.Bq _ _ _ o,B,s,C,p2.stay _ _ o,arL _ z,Result.andThen]
  ·rw[O]
   refine⟨by simp[h.len],λi x y k g=>?_,λy p=>?_,aut h.jN _ _ (λ_ _=>rfl) (λl _ A=>U l A),λi y p=>?_,by rw[h.clk];simp⟩
   rotate_left
   ·obtain⟨i,Z,rfl⟩:=aqY p
    rw[atj,atI];split
    ·exact o
    ·exact h.isk _ (by simp)
   ·rw[arY]at p
    split at p
    ·obtain⟨W,V,rfl⟩:=aqL.1 p
     exact h.O3 i W V
    ·exact h.O3 i y p
   rw[arY]at g;by_cases D:j=i
   ·subst D
    have S:j<r.length:=(aqh.1 N).1;rw[s]at g;simp at g;simp[S]at k;subst k;subst g;exact⟨rfl,J⟩
   ·rw[aqc D]at g
    rw[atJ D]at k;exact⟨(h.key i x y k g).1,I _ _ (h.key i x y k g).2⟩
section
variable{P:Program}{st:St}{d:Nat}{dd:Option Nat}{ty:TypeId}{pos:String}{af:Array Edge}{gd:Option (Nat×Bool)}{K:St->Prop}
def Ga.F8{n:Bs}{a:Act}(h:Ga n c N st a v){k:List (Value×AV)}(t:st.ev b=.mp e)(s:aY st.h e=some (.mp m k)):
 ∃f g i,a.eval b=.map (some f)/\N.bJ e=some f/\N.cA e=0/\v.heap[f]? =some (.map g i)/\MR (bF n c N st.h v) m k g i:=by
 obtain⟨o,f,g,i,l,p,q⟩:=h.sr.ob _ _ s;have j:=h.ev b;rw[t]at j;generalize a.eval b=u at j;cases j with
 |mp r=>
  obtain rfl:=aql (r.symm.trans l);exact⟨_,g,i,rfl,l,o,p,q⟩
def RS.an5{k:Nat}{t u:TypeDesc}{es:List (Value×AV)}(q:S[0]? =some a)(p:mapA P a=some (t,E))(r:st.ev b=.mp k)(n:aY st.h k=some (.mp u es)):
 RS P ⟨dd,.call ⟨.builtin .len, #[b],S⟩,ty,pos,af,gd⟩ st (.v (.int .i64 es.length)):=λH v e c w h=>by
 obtain⟨F,z,i,g,A,B,C⟩:=gX p;obtain⟨f,x,y,j,D,_,m,o⟩:=h.F8 r n;refine⟨_,.v,λG s=>?_⟩;have l:=s.block m;simp[execOp,resolve,invoke,builtin,Builtin.len_,q,aqF g,j,goInt,ark l,o.len]
def RS.lookup{t:TypeId}{x y:Operand}{k:Nat}{q:TypeDesc}{z p:Value}{r:List (Value×AV)}(M:mapA P t=some (q,z))(N:st.ev x=.mp k)(J:aY st.h k=some (.mp q r))(O:∀(Rd:Nat->Nat->Value->Prop) E u,VR Rd E (st.ev y) u->u=p)(n:ku q p):
 RS P ⟨dd,.lookup t x y false,ty,pos,af,gd⟩ st ((eW r p).getD (Kc z)):=λY R e a w h=>by
 obtain⟨X,V,i,v,g,H,I⟩:=gX M;obtain⟨b,S,U,A,W,_,B,L⟩:=h.F8 N J;have C:=O _ _ _ (h.ev y);rcases L.find (P:=P) n g with⟨f,D,s,_⟩|⟨j,m,c,f,D,s,F,G,_⟩
 ·refine⟨z,by rw[s];exact H7 z,λQ o=>?_⟩
  have l:=o.block B;simp[execOp,Instr.lookup,A,C,aqF v,ark l,g.Bq _ _ _ n,f,zeroValue,typeInfo,H,I]
 ·refine⟨m.val,by rw[F];exact G.cJ,λQ o=>?_⟩
  have l:=o.block B;simp[execOp,Instr.lookup,A,C,aqF v,ark l,g.Bq _ _ _ n,f]
def RS.Zc{z o:Value}{p:List (Value×AV)}(Q:mapA P a=some (m,z))(R:st.ev b=.mp e)(N:aY st.h e=some (.mp m p))(S:∀(Rd:Nat->Nat->Value->Prop) E u,VR Rd E (st.ev g) u->u=o)(v:ku m o):
 RS P ⟨dd,.lookup a b g true,ty,pos,af,gd⟩ st (.tu [(eW p o).getD (Kc z),.v (.bool (eW p o).isSome)]):=λG y f l w h=>by
 obtain⟨Z,X,i,B,s,L,M⟩:=gX Q;obtain⟨n,V,W,C,Y,_,D,O⟩:=h.F8 R N;have F:=S _ _ _ (h.ev g);rcases O.find (P:=P) v s with⟨r,H,A,_⟩|⟨j,k,c,r,H,A,I,J,_⟩
 ·have q:LR (VR (bF G y f st.h w) (some f)) [(eW p o).getD (Kc z),.v (.bool (eW p o).isSome)] [z,.bool false]:=by
   rw[A];exact LR.cons (H7 z) (LR.cons .v LR.nil)
  refine⟨_,.tu _ q.1 q.2,λU x=>?_⟩;have t:=x.block D;simp[execOp,Instr.lookup,C,F,aqF B,ark t,s.Bq _ _ _ v,r,zeroValue,typeInfo,L,M]
 ·have q:LR (VR (bF G y f st.h w) (some f)) [(eW p o).getD (Kc z),.v (.bool (eW p o).isSome)] [k.val,.bool true]:=by
   rw[I];exact LR.cons J.cJ (LR.cons .v LR.nil)
  refine⟨_,.tu _ q.1 q.2,λU x=>?_⟩;have t:=x.block D;simp[execOp,Instr.lookup,C,F,aqF B,ark t,s.Bq _ _ _ v,r]
def SS.makeMap{t:TypeId}(L:mapA P t=some (m,E))(s:d<st.n)(k:K ⟨st.n,(d,.mp d)::cP d st.t,(d,some (.mp m []))::bh d st.h⟩):SS P ⟨some d,.makeMap t none,ty,pos,af,gd⟩ st K:=by
 intro N H e a w next Q f A
 obtain⟨i,l⟩:=f.sr.kill d;have B:=Wu w (.map #[] 0);obtain⟨F,n⟩:=i.tM d (some w.heap.size) (e.sv d) 0 (some (.mp m [])) (f.sr.ext.alloc (.map #[] 0)) (.inl ⟨dQ d st.h,by have:=f.n.2;omega⟩) (by simp) (λb g _=>Y3 w _ b g)
  (λb g _=>by obtain rfl:=aql g;exact⟨f.sr.ext.gU (aqf _),by simp,.inr (aqf _)⟩)
  (λb o u ob C g J r=>by
   have q:=(i.base _ _ _ C g).2;refine⟨by rw[asG (w:=w) (Y3 w _ b q)];exact r,λ_ p=>?_⟩;obtain rfl:=aql p;omega)
  (λRd I _ M D=>by
   obtain rfl:=aql D;exact⟨Env.bN,w.heap.size, #[],0,Env.bL,B,rfl,λj x c G=>by simp at G,λc z=>by simp at z,stamped_empty 0,λj c y=>by simp at y,rfl⟩)
 refine dY (v:=.map (some w.heap.size)) (w':=w.alloc (.map #[] 0)) (by simp[execOp,run_makeMap]) (A _ k _ _ _ ⟨by simpa[Act.put]using f.n,f.d,F,TR.put ?_ (by rw[f.n.1];exact s) (.mp Env.bL)⟩);exact(((f.tr.kill d).mono l).mono n).env d (dE d st.t) (λ_ h=>Env.br h) (λ_ h=>Env.cW h)
def SS.mapUpdate{t:TypeId}{x y v:Operand}{k:Nat}{n:TypeDesc}{z m:Value}{r:List (Value×AV)}{h1:Hp}{c:AV}(ht:mapA P t=some (n,z))(hx:st.ev x=.mp k)(V:jm st.h (st.ev v)=some (h1,c))
 (A:aY h1 k=some (.mp n r)) (hy:∀(Rd:Nat->Nat->Value->Prop) E u,VR Rd E (st.ev y) u->u=m) (U:ku n m) (M:K ⟨st.n,st.t,(k,some (.mp n (ni r m c)))::h1⟩):SS P ⟨none,.mapUpdate t x y v,ty,pos,af,gd⟩ st K:=by
 intro J L e a w next Q s hn
 obtain⟨kt,et,i,p1,p2,p3,p4⟩:=gX ht;obtain⟨C,a7,hv⟩:=qN s.sr (s.ev v) V;have l:=s.cA a7;have a6:(⟨st.n,st.t,h1⟩:St).ev x=.mp k:=by rw[<-hx];cases x<;>rfl
 obtain⟨b,a8,a9,O,p,W,I,Y⟩:=l.F8 a6 A;have a5:=hy _ _ _ (s.ev y);have G:=l.sr.base _ _ _ A p;have a1:∃f g,(Instr.mapUpdate t (.map (some b)) m (a.eval v)).run P w=.ok () {w with heap:=w.heap.setIfInBounds b (.map f g)}/\∀Rd,(∀b o u,bF J L C h1 w b o u->Rd b o u)->MR Rd n (ni r m c) f g:=by
  obtain⟨f,g,hr,X⟩:=Fs.put (P:=P) Y (λ_ _ h=>h) U p1 p2 hv I;exact⟨f,g,hr,λRd D=>MR.mono D X⟩
 obtain⟨f,g,a3,Z⟩:=a1;have H:=atk (o':=.map f g) I;have R:Bx J {w with heap:=w.heap.setIfInBounds b (.map f g)}:=
  l.sr.ext.step rfl rfl rfl (by simp) λj q _=>H.2 j λe=>q (by rw[e];exact G.1)
 obtain⟨a4,N⟩:=l.sr.tM (w':={w with heap:=w.heap.setIfInBounds b (.map f g)}) k (some b) (C.sv k) 0 (some (.mp n (ni r m c))) R (.inr ⟨p.symm,rfl⟩) (by simp)
  (λB F a0=>H.2 B λS=>a0 _ A (by rw[p];exact aqr some S.symm))
  (λB F _=>by obtain rfl:=aql F;exact⟨G.1,by simpa using G.2,.inl ⟨_,A,p⟩⟩)
  (λB o' u' ob ho F ab aa=>by have:C.cA k=0:=W;omega)
  (λRd D _ ac a2=>by
   obtain rfl:=aql a2;exact⟨Env.bN,b,f,g,Env.bL,H.1,Z Rd D⟩)
 refine sL (w':={w with heap:=w.heap.setIfInBounds b (.map f g)}) ?_ (hn _ M _ _ _ ⟨l.n,l.d,a4,(l.tr.mono N).ic (λj=>by by_cases q:j=k<;>simp[Env.cz,q,p]) (λj=>by by_cases q:j=k<;>simp[Env.cz,q])⟩);simp[execOp,O,a5,a3]
def SS.akI{L:TypeId}{l:Nat}(G:Ft P a=some (n,e,t,s))(J:st.ev b=.sl I l i)(q:i=[]\/0<l)(D:d<st.n)
 (z:∀c:Bool,(c=true->i=[])->K ⟨st.n,(d,.v (.bool c))::st.t,st.h⟩):SS P ⟨some d,.binOp .eql a b (.const (.slice none 0 0)) L,ty,pos,af,gd⟩ st K:=by
 intro S N g f w next Q p k
 obtain⟨h,U,p2,_⟩:=cK G;have u:=p.ev b;rw[J]at u;obtain⟨j,m,M,B,H,O,E,_,_,_,A⟩:=u.lS;have C:j.isNone=true->i=[]:=λk=>by
  cases i with
  |nil=>rfl
  |cons r i=>
   have R:=H r (by simp);have q:0<l:=q.resolve_left (by simp);have F:M≠[]:=by
    rintro rfl;have:=E.1;simp at this;omega
   obtain⟨c,o,rfl,_⟩:=A F;cases k
 refine dY (v:=.bool j.isNone) (w':=w) ?_ (k _ (z j.isNone C) g _ _ (p.put D .v));have x:f.eval (.const (.slice none 0 0))=.slice none 0 0:=rfl;have y:(eqGuard .eql a b (.const (.slice none 0 0)) (.slice j i.length m) (.slice none 0 0)).run P w=.ok () w:=by simp[eqGuard]
 simp only[execOp,B,x,y,aqs,auu w a n j i.length m 0 0 p2,aqt,aqu]
def RS.max2{o:Array TypeId}{x y:Operand}{k:IntKind}{m n:Int}(j:st.ev x=.v (.int k m))(l:st.ev y=.v (.int k n)):RS P ⟨dd,.call ⟨.builtin .max, #[x,y],o⟩,ty,pos,af,gd⟩ st (.v (.int k (if n>m then n else m))):=λr p e a w h=>by
 have b:=h.ev x;have c:=h.ev y;rw[j]at b;rw[l]at c;refine⟨_,.v,λq _=>?_⟩;have f:=b.bE;have g:=c.bE;have i:(#[x,y]:Array Operand).map a.eval= #[.int k m,.int k n]:=by simp only[asC,aqz,aro,f,g]
 simp only[execOp,resolve,i,aqs,aqu,aqt,invoke,builtin,Builtin.max_,asU,asV,Builtin.max2]
end
end
variable{V:AV}{H:IntKind}{J X:Option Operand}
section
variable{P:Program}{st:St}{d:Nat}{dd:Option Nat}{ty:TypeId}{pos:String}{af:Array Edge}{gd:Option (Nat×Bool)}{K:St->Prop}
def SS.CZ{t:TypeId}{n l:Nat}(k:Ac P t=some s)(p:∀r∈i,r.length=l)(F:i.length=n)(m:i.flatten=s.map lj)(g:∀c∈i.flatten,c.one=true)(D:n<=maxLen)(B:d<st.n)
 (y:K ⟨st.n,(d,.pt d 0)::cP d st.t,(d,some (.arr t l i true))::bh d st.h⟩):SS P ⟨some d,.alloc t,ty,pos,af,gd⟩ st K:=by
 intro L q e a w next Q f E
 obtain⟨G,z⟩:=f.sr.kill d;have C:=dX p;have I:s.length=n*l:=by rw[<-F,<-C,m,aqn]
 have o:LR (VR (bF L q e (bh d st.h) w) none) i.flatten s:=by
  rw[m];exact⟨by simp,λj c u g x=>by
   rw[aqA,x]at g;simp at g;subst g;exact CF u⟩
 obtain⟨H,A⟩:=G.H2 d t l n (rows:=i) (cur:=s.toArray) p g (by
  have:s.toArray.toList.take i.flatten.length=s:=by
   rw[o.1.symm];simp
  rw[this];exact o) (by omega) D (by simp[I]) (dQ d st.h) (by have:=f.n.2;omega) (w.alloc (.cells s.toArray t)) rfl (f.sr.ext.alloc _)
 unfold Ac at k;obtain⟨b,h,k⟩:=asx.1 k;obtain⟨M,J,rfl⟩:=aqL.1 k;refine dY (v:=.pointer (some ⟨w.heap.size,0,none⟩)) (w':=w.alloc (.cells M.cells.toList.toArray t)) ?_ (E _ y _ _ _ ⟨by simpa[Act.put]using f.n,f.d,H,TR.put ?_ (by rw[f.n.1];exact B) (.pt Env.bL)⟩)
 ·simp[execOp,Instr.alloc,zeroValue,typeInfo,h,J,newVar,newRow,newObj,Sem.run]
 ·exact(((f.tr.kill d).mono z).mono A).env d (dE d st.t) (λ_ h=>Env.br h) (λ_ h=>Env.cW h)
def SS.vX{t E:TypeId}{len f U:Nat}{parts:Array (Nat×Operand)}{h':Hp}{aS cs:List AV}{qs:List (Nat×List AV)}(ht:Ft P t=some (E,f,U,s))
 (hl:mZ st.h (parts.toList.map λp=>st.ev p.2)=some (h',aS)) (hq:kV (parts.toList.map (·.1)) aS=some qs) (L:fZ (λi=>some (i*f,f)) (List.replicate (len*f) .un) qs=some cs)
 (z:cs.all AV.one=true) (Z:len*f<=16777216) (a5:0<f) (hd:d<st.n) (X:K ⟨st.n,(d,.ow d)::cP d st.t,(d,some (.arr E f (chunk f len cs) true))::bh d h'⟩):SS P ⟨some d,.buildSlice t len parts,ty,pos,af,gd⟩ st K:=by
 intro C q e a w next Q h hn
 obtain⟨i,zv,n,V,W,h5,rfl,_,_⟩:=cK ht;have Y:LR (VR (bF C q e st.h w) (some e)) (parts.toList.map λp=>st.ev p.2) (parts.toList.map λp=>a.eval p.2):=by
  refine⟨by simp,λj c u z n=>?_⟩;rw[aqA]at z n;obtain⟨x,R,rfl⟩:=aqL.1 z;rw[R]at n;simp at n;subst n;exact h.ev x.2
 obtain⟨y,l,F⟩:=yZ _ _ _ _ _ _ h.sr Y hl;have o:=h.cA l;obtain⟨p1,p2⟩:=y5 _ _ _ _ hq F (by simp);obtain⟨H,a0,a6⟩:=kW (P:=P) w t E len (parts.map λ(i,x)=>(i,a.eval x)) i zv n V W Z;have a4:LR (VR (bF C q y h' w) none) (List.replicate (len*i.size) .un) H.toList:=by
  refine⟨by simp[a0],λj c u b hu=>?_⟩;rw[asP]at b;split at b
  ·simp at b;subst b;exact .un
  ·cases b
 obtain⟨g,M,A⟩:=jl (place:=λj=>some (j*i.size,i.size)) qs _ _ cs H a4 p1 p2 L;have a8:(parts.toList.map (·.1)).zip (parts.toList.map λp=>a.eval p.2)=(parts.map λ(i,x)=>(i,a.eval x)).toList:=by
  rw[arT,List.zip_map']
 rw[a8]at M;have N:cs.length=len*i.size:=by
  have R:=A.1;have:∀(B:List (Nat×List AV)) (c r:List AV),fZ (λj=>some (j*i.size,i.size)) c B=some r->r.length=c.length:=by
   intro B
   induction B with
   |nil=>intro c r m;simp only[fZ,aqg]at m;rw[m]
   |cons p B ih=>
    intro c r m;obtain⟨k,xs⟩:=p;simp only[fZ]at m;split at m
    ·rw[ih _ _ m,kU]
    ·cases m
  rw[this _ _ _ L];simp
 obtain⟨G,S,k3⟩:=CN i.size len cs N;obtain⟨a7,I⟩:=o.sr.kill d;have a2:len<=maxLen:=by
  unfold maxLen;have:len*1<=len*i.size:=ar8 _ a5;omega
 have a1:(chunk i.size len cs).flatten.length=g.toList.length:=by rw[G,A.1]
 have a3:LR (VR (bF C q y (bh d h') w) none) (chunk i.size len cs).flatten (g.toList.take (chunk i.size len cs).flatten.length):=by
  rw[a1,List.take_length,G];exact A.imp λ_ _ F=>F.mono I
 obtain⟨O,J⟩:=a7.H2 d E i.size len (rows:=chunk i.size len cs) (cur:=g) k3 (λc b=>by rw[G]at b;exact aqD.1 z c b) a3 (by rw[S];exact aqf _) a2 (by have:=A.1;rw[N]at this;simpa using this) (dQ d h') (by have:=h.n.2;omega) (w.alloc (.cells g E)) rfl (o.sr.ext.alloc _);rw[S]at O J;refine dY (v:=.slice (some ⟨w.heap.size,0,none⟩) len len) (w':=w.alloc (.cells g E)) ?_ (hn _ X _ _ _ ⟨by simpa[Act.put]using o.n,o.d,O,TR.put ?_ (by rw[o.n.1];exact hd) ?_⟩)
 ·simp only[execOp,aqs,a6 g M,aqt,aqu]
 ·exact(((o.tr.kill d).mono I).mono J).env d (dE d st.t) (λ_ D=>Env.br D) (λ_ D=>Env.cW D)
 ·have:=VR.ow (Rd:=bF C q (y.cz d (some w.heap.size) (.slice (some ⟨w.heap.size,0,none⟩) len len) 0) ((d,some (.arr E i.size (chunk i.size len cs) true))::bh d h') (w.alloc (.cells g E))) (e:=y.cz d (some w.heap.size) (.slice (some ⟨w.heap.size,0,none⟩) len len) 0) (k:=d)
  rw[Env.dz]at this;exact this
def RS.imp(h:RS P R st y)(c:∀Rd E u,VR Rd E y u->VR Rd E V u):RS P R st V:=λj b e a w f=>by
 obtain⟨v,i,g⟩:=h j b e a w f;exact⟨v,c _ _ _ i,g⟩
def RS.Pm{c e f:Nat}{i:Int}(l:arA P a=some (c,n,e))(r:st.ev g=.v (.int H i))(h:0<=i)(j:i<c)(p:st.ev b=.pt f 0):
 RS P ⟨dd,.indexAddr a b g,ty,pos,af,gd⟩ st (.pe f i.toNat e 0):=by
 refine RS.imp (RS.vO (q:=.pt f (0+i.toNat*e)) l r h j (by rw[p];rfl)) λRd n u m=>?_;cases m with
 |pt k=>
  have:=VR.pe (Rd:=Rd) (i:=i.toNat) (sz:=e) (o:=0) k;rw[arG]at this;rw[aqN];exact this
def RS.ah_{c I G l h:Nat}(O:arA P a=some (c,n,I))(Q:st.ev b=.pt G 0)(z:qz st 0 J=some l)(v:qz st c X=some h)(U:l<=h)(V:h<=c)(W:c<=maxLen):
 RS P ⟨dd,.slice a b J X none,ty,pos,af,gd⟩ st (.sw G l (h - l) I):=λw0 S e g w t=>by
 obtain⟨R,s,L,rfl⟩:=sK O;have A:=t.ev b;rw[Q]at A;generalize p:g.eval b=u at A;cases A with
 | @pt e k o f C=>
  have j:P.elem a=n:=by simp[Program.elem,s]
  have i:P.arrayLen a=c:=by simp[Program.arrayLen,s]
  have r:P.underlying a=some (.array (P.arrayLen a) (P.elem a)):=by rw[j,i];exact s
  have N:(J=none/\l=0)\/∃k,J.map g.eval=some (.int k (l:Int)):=by
   cases J with
   |none=>simp[qz]at z;exact .inl ⟨rfl,z.symm⟩
   |some y=>obtain⟨k,x⟩:=vT t z;exact .inr ⟨k,by simp[x]⟩
  have M:(X=none/\h=c)\/∃k,X.map g.eval=some (.int k (h:Int)):=by
   cases X with
   |none=>simp[qz]at v;exact .inl ⟨rfl,v.symm⟩
   |some y=>obtain⟨k,x⟩:=vT t v;exact .inr ⟨k,by simp[x]⟩
  refine⟨slicedAt ⟨f,0,none⟩ l h c R.size,?_,λm Z=>?_⟩
  ·unfold slicedAt
   by_cases B:c=l
   ·rw[aqd B]
    exact VR.sw C (λY=>by omega) (by omega) (by omega)
   ·rw[aqc B,aqW,aqN]
    exact VR.sw C (λ_=>rfl) (by omega) (by omega)
  ·have q:=cq (P:=P) m L
   rcases N with⟨rfl,rfl⟩|⟨H,E⟩<;>rcases M with⟨rfl,rfl⟩|⟨F,D⟩
   ·simp[execOp,p,au7 m a ⟨f,0,none⟩ r,j,i,q]
   ·simp only[execOp,p,asa,D,au8 m a ⟨f,0,none⟩ r F h (by omega) (by rw[i];omega),aqs,j,q,i,aqt,aqo,aqu]
   ·simp only[execOp,p,asa,E,au9 m a ⟨f,0,none⟩ r H l (by omega) (by rw[i];omega),aqs,j,q,i,aqt,aqo,aqu]
   ·simp only[execOp,p,asa,E,D,au_ m a ⟨f,0,none⟩ r H F l h (by omega) (by omega) (by rw[i];omega),aqs,j,q,i,aqt,aqo,aqu]
end
variable{G:Int}
section
variable{P:Program}{st:St}{d:Nat}{dd:Option Nat}{ty:TypeId}{pos:String}{af:Array Edge}{gd:Option (Nat×Bool)}{K:St->Prop}
def RS.makeFunc{c:Fn}{f b:Array Operand}:RS P ⟨dd,.makeFunc c f b,ty,pos,af,gd⟩ st (.cl c (f.toList.map st.ev) (b.toList.map st.ev)):=λn l e a w h=>by
 refine⟨.func c (f.map a.eval) (b.map a.eval),?_,λm _=>by simp[execOp,Instr.makeFunc]⟩;have j:=h.args f;have k:=h.args b;have:=VR.cl (fn:=c) _ _ j.1 k.1 j.2 k.2;have i:∀g:Array Operand,(g.toList.map a.eval).toArray=g.map a.eval:=λg=>by rw[<-arT]
 rw[i,i]at this;exact this
def nnA:AV->Bool
 |.pt _ _=>true
 |.pe _ _ _ _=>true
 |.fp _=>true
 |.cl (.func _) _ _=>true
 |_=>false
def RS.nilCheck(j:nnA (st.ev b)=true):RS P ⟨dd,.nilCheck b,ty,pos,af,gd⟩ st (st.ev b):=λy p e a w h=>by
 refine⟨a.eval b,h.ev b,λx _=>?_⟩;have i:=h.ev b;generalize st.ev b=c at j i;generalize g:a.eval b=u at i;cases i with
 |pt l=>simp[execOp,g]
 |pe l=>simp[execOp,g]
 |fp o n m s=>simp[execOp,g]
 | @cl _ k r q o z n v m t=>
  cases k with
  |func f=>simp[execOp,g]
  |_=>simp[nnA]at j
 |_=>simp[nnA]at j
def OR.aia{Rd:Nat->Nat->Value->Prop}(h:OR Rd N v e (.arr a 1 i true)):OR Rd N v e (.nr a i.flatten):=by
 obtain⟨q,w,r,s⟩:=h;have g:i.flatten.length=i.length:=by rw[dX q,arH]
 refine⟨r rfl,?_⟩;rcases s with⟨rfl,c,f⟩|⟨b,o,p,j,c,f,k,l,m,n,u⟩
 ·exact .inl ⟨rfl,c,f⟩
 ·exact .inr ⟨b,o,p,j,by rw[g];exact c,by rw[g];exact f,k,l,by rw[m,arH],n.imp λ_ _ t=>t.cJ⟩
def qQ(a:List AV):(a.map λc=>[c]).flatten=a:=by
 induction a with
 |nil=>rfl
 |cons c a b=>simp[b]
def OR.akK{Rd:Nat->Nat->Value->Prop}(h:OR Rd N v e (.nr a k))(y:∀c∈k,c.fz=true)(w:∀c∈k,c.one=true)(wr:Bool):OR Rd N v e (.arr a 1 (k.map λc=>[c]) wr):=by
 obtain⟨l,x⟩:=h;refine⟨λr z=>?_,by rw[qQ];exact w,λ_=>l,?_⟩
 ·obtain⟨c,_,rfl⟩:=aqq.1 z
  rfl
 ·rcases x with⟨rfl,f,g⟩|⟨b,s,t,n,f,g,o,p,q,i⟩
  ·exact .inl ⟨rfl,f,g⟩
  ·refine .inr ⟨b,s,t,n,by rw[aqn];exact f,by rw[aqn];exact g,o,p,by rw[q,arH],?_,by rw[l];exact aqI _⟩
   rw[qQ];exact⟨i.1,λj c u m A=>(i.2 j c u m A).CH (y c (aqw m))⟩
def OR.an6{Rd:Nat->Nat->Value->Prop}{i cs':List AV}(f:cs'.length=i.length)(A:∀(j:Nat) c g,i[j]? =some c->cs'[j]? =some g->∀u,VR Rd (some N) c u->VR Rd (some N) g u)(h:OR Rd N v e (.nr a i)):OR Rd N v e (.nr a cs'):=by
 obtain⟨y,z⟩:=h;refine⟨y,?_⟩;rcases z with⟨rfl,k,l⟩|⟨b,w,x,q,k,l,r,s,t,m⟩
 ·exact .inl ⟨arh f,k,l⟩
 ·refine .inr ⟨b,w,x,q,by rw[f];exact k,by rw[f];exact l,r,s,t,⟨by rw[f];exact m.1,λj g u n p=>?_⟩⟩
  rw[f]at p;have o:j<i.length:=by rw[<-f];exact(aqh.1 n).1
  exact A j _ g (aqm o) n u (m.2 j _ u (aqm o) p)
def RS.RJ{cs:List AV}
 (D:Ft P a=some (n,1,e,s)) (E:st.ev b=.ow t) (z:aY st.h t=some (.nr n cs)) (F:st.ev g=.v (.int H G)) (o:0<=G) (l:G<cs.length):
 RS P ⟨dd,.indexAddr a b g,ty,pos,af,gd⟩ st (.pe t G.toNat 1 0):=λZ L f c w h=>by
 obtain⟨I,zv,p,q,N,O,r,_,_⟩:=cK D;have k:=h.ev b;rw[E]at k;have j:=h.ev g;rw[F]at j;have j:=j.bE;obtain⟨_,B⟩:=h.sr.ob _ _ z;rcases B with⟨A,R,_⟩|⟨i,m,M,y,C,S,X,V,U,W⟩
 ·subst A;simp at l;omega
 have x:c.eval b=.slice (some ⟨i,0,none⟩) cs.length m:=by
  generalize Q:c.eval b=u at k;cases k with
  |ow=>exact C
 refine⟨.pointer (some ⟨i,G.toNat*1+0,none⟩),.pe y,λJ Y=>?_⟩;have v:(⟨i,0,none⟩:Addr).add (G.toNat*I.size)=⟨i,G.toNat,none⟩:=by rw[r,aqW,aqN,arH]
 simp[execOp,Instr.indexAt,j,asIntOf,aqF p,x,o,l,cq J q,v]
def SR.H8{h:Bs}(m:SR h c N u v)(l:aY u e=some (.nr a k))(b:N.bJ e=some t)(o:Nat)
 (X:VR (bF h c N u v) (some N) y E):
 SR h c (N.cz e (some t) (N.sv e) 0) ((e,some (.nr a (k.set o y)))::u) (v.setCell ⟨t,o,none⟩ E)/\
 ∀g w x,bF h c N u v g w x->bF h c (N.cz e (some t) (N.sv e) 0) ((e,some (.nr a (k.set o y)))::u) (v.setCell ⟨t,o,none⟩ E) g w x:=by
 obtain⟨O,V⟩:=m.ob _ _ l;have r:=m.base _ _ _ l b;rcases V with⟨Z,H,_⟩|⟨f,D,n,G,W,I,R,L,J,B⟩
 ·rw[H]at b;cases b
 obtain rfl:f=t:=aql (G.symm.trans b);refine m.tM e (some f) (N.sv e) 0 _ (m.ext.setCell r.1 _) (.inr ⟨b.symm,rfl⟩) (by simp) (λg q S=>aub v _ _ _ (λM=>S _ l (by rw[b];exact aqr some M.symm))) (λg q _=>?_) (λg w x ob ho q Q Y=>?_) (λRd z _ a0 U=>?_)
 ·obtain rfl:=aql q
  exact⟨r.1,by simp;exact r.2,.inl ⟨_,l,b⟩⟩
 ·rw[O]at Q;omega
 ·obtain rfl:=aql U
  have A:∀j,(N.cz e (some f) (N.sv e) 0).bJ j=N.bJ j:=λj=>by by_cases s:j=e<;>simp[Env.cz,s,b]
  have C:∀j,(N.cz e (some f) (N.sv e) 0).sv j=N.sv j:=λj=>by by_cases s:j=e<;>simp[Env.cz,s]
  refine⟨Env.bN,.inr ⟨f,D,n.setIfInBounds o E,Env.bL,by rw[Env.dz,arE];exact W,by rw[arE];exact I,R,auc v f o n a E L,by simpa using J,?_⟩⟩;rw[arE,as4,atA];have p:LR (VR Rd (some (N.cz e (some f) (N.sv e) 0))) k (n.toList.take k.length):=⟨B.1,λi y E p F=>((B.2 i y E p F).mono z).ic rfl A C⟩;exact p.set o ((X.mono z).ic rfl A C)
def SS.H8{t l:TypeId}{x y:Operand}{k i:Nat}{n:List AV}{c:AV}{D:Bool}(Y:st.ev x=.pe k i 1 0)(r:aY st.h k=some (.nr l n))(ht:O_ P t=some (D,1))(O:cellsOf (st.ev y)=some [c])
 (E:c.one=true) (W:nL st.h (st.ev y)=true) (X:nL st.h c=true) (hi:i<n.length) (G:K ⟨st.n,st.t,(k,some (.nr l (n.set i c)))::st.h⟩):
 SS P ⟨none,.store t x y,ty,pos,af,gd⟩ st K:=by
 intro w0 C e a w next Q h V
 obtain⟨B,hu,s⟩:=oM O (h.ev y) (h.nL W);have p:=h.ev x;rw[Y]at p;generalize J:a.eval x=u at p;cases p with
 | @pe _ _ _ _ _ b g=>
  obtain⟨td,ad,h2,F,_,a2⟩:=hU ht;obtain⟨v,rfl⟩:∃v,B=[v]:=by
   match B,s.1 with
   |[v],_=>exact⟨v,rfl⟩
  have A:VR (bF w0 C e st.h w) (some e) c v:=s.2 0 c v rfl rfl;have ab:v.oneCell'=true:=A.jk E λe' k' R S=>by cases R;exact h.nL X k' S
  obtain⟨hs,H⟩:=h.sr.H8 r g i A;obtain⟨a8,Z⟩:=h.sr.ob _ _ r;rcases Z with⟨aa,N,_⟩|⟨f,a3,m,L,ac,a4,hm,q,a6,a9⟩
  ·rw[N]at g;cases g
  obtain rfl:=aql (L.symm.trans g);have M:∀j,(e.cz k (some f) (e.sv k) 0).bJ j=e.bJ j:=λj=>by by_cases o:j=k<;>simp[Env.cz,o,g]
  have a0:∀j,(e.cz k (some f) (e.sv k) 0).sv j=e.sv j:=λj=>by by_cases o:j=k<;>simp[Env.cz,o]
  refine sL (w':=w.setCell ⟨f,i,none⟩ v) ?_ (V _ G _ _ _ ⟨h.n,h.d,hs,(h.tr.mono H).ic M a0⟩);have U:i<m.size:=by omega
  have a5:w.cell? ⟨f,i,none⟩=some m[i]:=by
   rw[arj w f i m l (0,0) q];simp[U]
  have a7:=asN w f i m l q;have a1:(store ⟨f,i,none⟩ v).run P w=.ok () (w.setCell ⟨f,i,none⟩ v):=by
   cases v<;>simp_all[store,Sem.run,Value.oneCell']
  have I:(⟨f,i*1+0,none⟩:Addr).add 0=⟨f,i,none⟩:=by rw[aqW];simp
  have z:(storeCells ⟨f,i*1+0,none⟩ [v] 0).run P w=.ok () (w.setCell ⟨f,i,none⟩ v):=by
   simp only[storeCells,aqs,I,a1,aqt,aqu]
  simp only[arH,arG]at z;simp[execOp,Instr.storeAt,Instr.sureAddr,J,storeVar,hu,cq w F,<-a2,z]
end
variable{P:List (List AV)}
inductive Sc where
 |i (k:IntKind)
 |b
 |sl (r:Sc)
 |pr (x y:Sc)
 |u
@[reducible] def Sc.cQ:Sc->Type
 |.i _=>Int
 |.b=>Bool
 |.sl r=>List r.cQ
 |.pr x y=>x.cQ×y.cQ
 |.u=>Unit
def Sc.w:Sc->Nat
 |.pr x y=>x.w+y.w
 |.u=>0
 |.i _=>1
 |.b=>1
 |.sl _=>1
def Sc.eqP:(a c:Sc)->Option (PLift (a=c))
 |.i k,.i l=>if h:k=l then some ⟨by rw[h]⟩else none
 |.b,.b=>some ⟨rfl⟩
 |.sl r,.sl s=>match Sc.eqP r s with
  |some ⟨h⟩=>some ⟨by rw[h]⟩
  |none=>none
 |.pr x y,.pr z w=>match Sc.eqP x z with
  |some ⟨h⟩=>match Sc.eqP y w with
   |some ⟨g⟩=>some ⟨by rw[h,g]⟩
   |none=>none
  |none=>none
 |.u,.u=>some ⟨rfl⟩
 |_,_=>none
def ec(a c:Sc)(x:a.cQ):Option c.cQ:=match Sc.eqP a c with
 |some ⟨h⟩=>some (h▸x)
 |none=>none
def c8{a c:Sc}{x:a.cQ}{y:c.cQ}(h:ec a c x=some y):∃e:a=c,y=e▸x:=by
 unfold ec at h;split at h
 ·rename_i e _
  cases h;exact⟨e,rfl⟩
 ·cases h
def bx:(s:Sc)->s.cQ->List AV
 |.i k,x=>[.v (.int k x)]
 |.b,x=>[.v (.bool x)]
 |.sl r,xs=>[.sl false r.w (List.map (bx r) xs)]
 |.pr x y,p=>bx x p.1++bx y p.2
 |.u,_=>[]
def encS:(s:Sc)->s.cQ->AV
 |.i k,x=>.v (.int k x)
 |.b,x=>.v (.bool x)
 |.sl r,xs=>.sl false r.w (List.map (bx r) xs)
 |.pr _ _,_=>.un
 |.u,_=>.un
def eH:∀(s:Sc) (x:s.cQ),(bx s x).length=s.w
 |.i _,_=>rfl
 |.b,_=>rfl
 |.sl _,_=>rfl
 |.pr x y,p=>by rw[bx,aqy,eH x,eH y];rfl
 |.u,_=>rfl
def nS:∀(s:Sc) (x:s.cQ),∀c∈bx s x,c.one=true
 |.i _,_,c,h=>by simp only[bx,aqB]at h;subst h;rfl
 |.b,_,c,h=>by simp only[bx,aqB]at h;subst h;rfl
 |.sl _,_,c,h=>by simp only[bx,aqB]at h;subst h;rfl
 |.pr x y,p,c,h=>by
  simp only[bx,aqp]at h;exact h.elim (nS x _ c) (nS y _ c)
 |.u,_,c,h=>by simp[bx]at h
def H9:∀(s:Sc) (x:s.cQ),∀c∈bx s x,c.fz=true
 |.i _,_,c,h=>by simp only[bx,aqB]at h;subst h;rfl
 |.b,_,c,h=>by simp only[bx,aqB]at h;subst h;rfl
 |.sl _,_,c,h=>by simp only[bx,aqB]at h;subst h;rfl
 |.pr x y,p,c,h=>by
  simp only[bx,aqp]at h;exact h.elim (H9 x _ c) (H9 y _ c)
 |.u,_,c,h=>by simp[bx]at h
inductive EV where
 |un
 |sc (s:Sc) (x:s.cQ)
 |nil
 |ts (r:Sc) (xs:List r.cQ)
 |v (x:Value)
 |ow (k:Nat)
 |pt (k o:Nat)
 |pe (k:Nat) (i:Int) (sz o:Nat)
 |sw (k:Nat) (l n:Int) (sz:Nat)
 |mp (k:Nat)
 |fp (cs:List EV)
 |ag (cs:List EV)
 |tu (cs:List EV)
 |cl (fn:Fn) (fs cs:List EV)
mutual
def enc:EV->AV
 |.un=>.un
 |.sc s x=>encS s x
 |.nil=>.sl true 0 []
 |.ts r xs=>.sl true r.w (List.map (bx r) xs)
 |.v x=>.v x
 |.ow k=>.ow k
 |.pt k o=>.pt k o
 |.pe k i sz o=>.pe k i.toNat sz o
 |.sw k l n sz=>.sw k l.toNat n.toNat sz
 |.mp k=>.mp k
 |.fp cs=>.fp (bO cs)
 |.ag cs=>.ag (bO cs)
 |.tu cs=>.tu (bO cs)
 |.cl fn fs cs=>.cl fn (bO fs) (bO cs)
def bO:List EV->List AV
 |[]=>[]
 |c::cs=>enc c::bO cs
end
def dH:∀a:List EV,bO a=a.map enc
 |[]=>rfl
 |c::a=>by rw[bO,dH a];rfl
def kB(a ds:List EV):bO (a++ds)=bO a++bO ds:=by rw[dH,dH,dH,aq4]
def fq(a:List EV):(bO a).length=a.length:=by rw[dH,aqn]
def qR:(s:Sc)->s.cQ->List EV
 |.i k,x=>[.sc (.i k) x]
 |.b,x=>[.sc .b x]
 |.sl r,xs=>[.sc (.sl r) xs]
 |.pr x y,p=>qR x p.1++qR y p.2
 |.u,_=>[]
def gi:∀(s:Sc) (x:s.cQ),bO (qR s x)=bx s x
 |.i _,_=>rfl
 |.b,_=>rfl
 |.sl _,_=>rfl
 |.pr x y,p=>by rw[qR,kB,gi x,gi y];rfl
 |.u,_=>rfl
def iL:(s:Sc)->s.cQ->EV
 |.pr x y,p=>.ag (qR (.pr x y) p)
 |.u,p=>.ag []
 |.i k,x=>.sc (.i k) x
 |.b,x=>.sc .b x
 |.sl r,x=>.sc (.sl r) x
def Wk(c c':AV):Prop:=∀(Rd:Nat->Nat->Value->Prop) E u,VR Rd E c u->VR Rd E c' u
def Wk.refl(c:AV):Wk c c:=λ_ _ _ h=>h
inductive nk:List AV->List AV->Prop
 |nil:nk [] []
 |cons {c c':AV} {cs cs':List AV} (h:Wk c c') (hs:nk cs cs'):nk (c::cs) (c'::cs')
def nk.refl:∀a:List AV,nk a a
 |[]=>.nil
 |c::a=>.cons (Wk.refl c) (nk.refl a)
def nk.append{a c d e:List AV}(h:nk a c)(k:nk d e):nk (a++d) (c++e):=by
 induction h with
 |nil=>exact k
 |cons h f b=>exact .cons h b
def nk.len(h:nk k C):C.length=k.length:=by
 induction h with
 |nil=>rfl
 |cons _ _ a=>simp[a]
def nk.get{a c:List AV}(h:nk a c):∀(j:Nat) x,a[j]? =some x->∃y,c[j]? =some y/\Wk x y:=by
 induction h with
 |nil=>intro j x b;simp at b
 |cons h e d=>
  intro j x b;cases j with
  |zero=>simp at b;subst b;exact⟨_,rfl,h⟩
  |succ j=>exact d j x (by simpa using b)
def nk.lr(h:nk k C){Rd:Nat->Nat->Value->Prop}{E:Option Env}(b:LR (VR Rd E) k s):LR (VR Rd E) C s:=by
 refine⟨by rw[b.1,h.len],λj y u c e=>?_⟩;have a:j<k.length:=by
  have:=(aqh.1 c).1;rw[h.len]at this;exact this
 obtain⟨g,d,f⟩:=h.get j _ (aqm a);rw[c]at d;cases d;exact f _ _ _ (b.2 j _ u (aqm a) e)
def Wk.tight:Wk (.sl true e i) (.sl false e i):=by
 intro Rd E u h;cases h with
 |sl k j b g f a c l d=>exact .sl k j b g f a c (by simp) d
def Wk.empty(h:I=false):Wk (.sl true e []) (.sl I t []):=by
 intro Rd E u h;cases h with
 |sl g k i f d a b j c=>exact .sl g (by simp) (by simp) f d a b (by simp[*]) c
def Wk.Pn:Wk (.sl I e []) (.sl I t []):=by
 intro Rd E u h;cases h with
 |sl i k j g f a b c d=>exact .sl i (by simp) (by simp) g f a b c d
def Wk.ag{a b:List AV}(h:nk a b):Wk (.ag a) (.ag b):=by
 intro Rd E u d;obtain⟨e,rfl,c⟩:=VR.eS d;have:=h.lr c;exact .ag e this.1 this.2
def Wk.tu{a b:List AV}(h:nk a b):Wk (.tu a) (.tu b):=by
 intro Rd E u d;obtain⟨e,rfl,c⟩:=VR.CB d;have:=h.lr c;exact .tu e this.1 this.2
def Wk.clM{c:Fn}{d e a b:List AV}(h:nk d e)(k:nk a b):Wk (.cl c d a) (.cl c e b):=by
 intro Rd E u n;cases n with
 |cl o p l m i j=>
  have f:=h.lr ⟨l,i⟩;have g:=k.lr ⟨m,j⟩;exact .cl o p f.1 g.1 f.2 g.2
inductive oT:List (List AV)->List (List AV)->Prop
 |nil:oT [] []
 |cons {r r':List AV} {rs rs':List (List AV)} (h:nk r r') (hs:oT rs rs'):oT (r::rs) (r'::rs')
def oT.flat(h:oT i P):nk i.flatten P.flatten:=by
 induction h with
 |nil=>exact .nil
 |cons h b a=>simpa using h.append a
def oT.len(h:oT i P):P.length=i.length:=by
 induction h with
 |nil=>rfl
 |cons _ _ a=>simp[a]
def oT.wid(h:oT i P)(b:∀r∈i,r.length=e):∀r∈P,r.length=e:=by
 induction h with
 |nil=>simp
 |cons h f d=>
  intro r a;rcases aqG.1 a with rfl|a
  ·rw[h.len];exact b _ (by simp)
  ·exact d (λx c=>b x (by simp[c])) r a
def oT.refl:∀a:List (List AV),oT a a
 |[]=>.nil
 |c::a=>.cons (nk.refl c) (oT.refl a)
def Wk.rows(h:oT i P)(f:∀x∈P.flatten,x.one=true):Wk (.sl I e i) (.sl I e P):=by
 intro Rd E u m;cases m with
 |sl a n o k j b c d g=>
  have l:LR (VR Rd none) i.flatten a:=⟨k,j⟩;have:=h.flat.lr l;rw[<-h.len];exact .sl a (h.wid n) f this.1 this.2 (by rw[h.len];exact b) c (by rw[h.len];exact d) g
def F9(s:Sc):EV->Option s.cQ
 |.sc s' x=>ec s' s x
 |.nil=>match s with
  |.sl r=>some (show List r.cQ from [])
  |_=>none
 |.ts r xs=>ec (.sl r) s xs
 |_=>none
def Po{s:Sc}{c:EV}{x:s.cQ}(h:F9 s c=some x):Wk (enc c) (encS s x):=by
 cases c with
 |sc b y=>
  obtain⟨rfl,rfl⟩:=c8 h;exact Wk.refl _
 |nil=>
  cases s with
  |sl r=>
   have a:x=(show List r.cQ from []):=(aql h).symm;rw[a];exact Wk.empty rfl
  |_=>simp[F9]at h
 |ts r d=>
  obtain⟨rfl,rfl⟩:=c8 h;exact Wk.tight
 |_=>simp[F9]at h
variable{F:EV}{U o:List Nat}{M:Sc}{d:Type}
def cU:(s:Sc)->s.cQ->List Value
 |.i k,x=>[.int k x]
 |.b,x=>[.bool x]
 |.sl _,_=>[undef]
 |.pr x y,p=>cU x p.1++cU y p.2
 |.u,_=>[]
def oU:(s:Sc)->s.cQ->Value
 |.i k,x=>.int k x
 |.b,x=>.bool x
 |.sl _,_=>undef
 |.pr x y,p=>.agg (cU (.pr x y) p).toArray
 |.u,p=>.agg (cU .u p).toArray
def Sc.key:Sc->Bool
 |.i _=>true
 |.b=>true
 |.sl _=>false
 |.pr x y=>x.key && y.key
 |.u=>true
def iB:(s:Sc)->s.cQ->s.cQ->Bool
 |.i _,x,y=> @decide (@Eq Int x y) (Int.instDecidableEq x y)
 |.b,x,y=> @BEq.beq Bool _ x y
 |.sl _,_,_=>false
 |.pr a c,x,y=>iB a x.1 y.1 && iB c x.2 y.2
 |.u,_,_=>true
def e_:∀(s:Sc) (x y:s.cQ),s.key=true->(iB s x y=true↔x=y)
 |.i _,x,y,_=>by simp[iB]
 |.b,x,y,_=>by simp[iB]
 |.sl _,x,y,h=>by simp[Sc.key]at h
 |.pr a c,x,y,h=>by
  simp only[Sc.key,aqe]at h;obtain⟨b,d⟩:=x;obtain⟨f,g⟩:=y;simp only[iB,aqe,e_ a _ _ h.1,e_ c _ _ h.2];constructor
  ·rintro⟨rfl,rfl⟩;rfl
  ·intro e;cases e;exact⟨rfl,rfl⟩
 |.u,x,y,_=>by simp[iB]
def za:∀(s:Sc) (x y:s.cQ),(cU s x).length=(cU s y).length
 |.i _,_,_=>rfl
 |.b,_,_=>rfl
 |.sl _,_,_=>rfl
 |.pr a c,x,y=>by simp[cU,za a x.1 y.1,za c x.2 y.2]
 |.u,_,_=>rfl
def zb:∀(s:Sc) (x y:s.cQ),s.key=true->cU s x=cU s y->x=y
 |.i _,x,y,_,h=>by simp[cU]at h;exact h
 |.b,x,y,_,h=>by simp[cU]at h;exact h
 |.sl _,_,_,h,_=>by simp[Sc.key]at h
 |.pr a c,x,y,h,e=>by
  simp only[Sc.key,aqe]at h;simp only[cU]at e;obtain⟨b,d⟩:=List.append_inj e (za a _ _);exact atl (zb a _ _ h.1 b) (zb c _ _ h.2 d)
 |.u,_,_,_,_=>rfl
def C0(s:Sc)(x y:s.cQ)(h:s.key=true)(e:oU s x=oU s y):x=y:=by
 cases s with
 |i k=>simp[oU]at e;exact e
 |b=>simp[oU]at e;exact e
 |sl r=>simp[Sc.key]at h
 |pr a c=>
  simp only[oU,Value.agg.injEq]at e;exact zb _ _ _ h (by simpa using e)
 |u=>rfl
def bC(s:Sc){β:Type}:List (s.cQ×β)->s.cQ->Option β
 |[],_=>none
 |p::es,x=>cond (iB s p.1 x) (some p.2) (bC s es x)
def dI(s:Sc){β:Type}:List (s.cQ×β)->s.cQ->β->List (s.cQ×β)
 |[],x,v=>[(x,v)]
 |p::es,x,v=>cond (iB s p.1 x) ((p.1,v)::es) (p::dI s es x v)
def my(kc vc:Sc)(es:List (kc.cQ×vc.cQ)):List (Value×AV):=es.map λp=>(oU kc p.1,enc (iL vc p.2))
def nT{a d:Sc}(c:a.key=true):∀(b:List (a.cQ×d.cQ)) (x:a.cQ),eW (my a d b) (oU a x)=(bC a b x).map λv=>enc (iL d v)
 |[],_=>rfl
 |p::b,x=>by
  rw[my,aqz,eW,bC];by_cases h:p.1=x
  ·rw[aqd (by rw[h]),(e_ a _ _ c).2 h];rfl
  ·rw[aqc (λe=>h (C0 a _ _ c e))]
   have:iB a p.1 x=false:=by
    cases f:iB a p.1 x with
    |false=>rfl
    |true=>exact absurd ((e_ a _ _ c).1 f) h
   rw[this];exact nT c b x
def Pp(g:M.key=true)(z:d)(a c:M.cQ):∀b:List (M.cQ×d),(bC M (dI M b c ((bC M b c).getD z)) a).getD z=(bC M b a).getD z:=by
 have i:∀{x y:M.cQ},x≠y->iB M x y=false:=λ{x y} h=>by
  cases j:iB M x y with
  |false=>rfl
  |true=>exact absurd ((e_ M _ _ g).1 j) h
 have l:∀(v:d) (b:List (M.cQ×d)),v=(bC M b c).getD z->(bC M (dI M b c v) a).getD z=(bC M b a).getD z:=by
  intro v b
  induction b with
  |nil=>
   intro e;simp only[dI,bC];by_cases h:c=a
   ·rw[(e_ M _ _ g).2 h,e];rfl
   ·rw[i h];rfl
  |cons p b k=>
   intro e;simp only[bC]at e;simp only[dI];by_cases h:p.1=c
   ·rw[(e_ M _ _ g).2 h]at e⊢
    simp only[aqE,bC]at e⊢;by_cases f:p.1=a
    ·rw[(e_ M _ _ g).2 f,e];rfl
    ·rw[i f];rfl
   ·rw[i h]at e⊢
    simp only[aqi,bC]at e⊢;by_cases f:p.1=a
    ·rw[(e_ M _ _ g).2 f];rfl
    ·rw[i f];exact k e
 exactλb=>l _ b rfl
def C1{a b:Sc}(d:a.key=true):∀(c:List (a.cQ×b.cQ)) (x:a.cQ) (v:b.cQ),ni (my a b c) (oU a x) (enc (iL b v))=my a b (dI a c x v)
 |[],_,_=>rfl
 |p::c,x,v=>by
  rw[my,aqz,ni,dI];by_cases h:p.1=x
  ·rw[aqd (by rw[h]),(e_ a _ _ d).2 h];rfl
  ·rw[aqc (λe=>h (C0 a _ _ d e))]
   have:iB a p.1 x=false:=by
    cases g:iB a p.1 x with
    |false=>rfl
    |true=>exact absurd ((e_ a _ _ d).1 g) h
   rw[this];have f:=C1 d c x v;rw[my]at f;rw[f];rfl
inductive dR where
 |box (t:TypeId) (cs:List EV)
 |arr (t:TypeId) (r:Sc) (xs:List r.cQ) (wr:Bool)
 |mp (d:TypeDesc) (kc vc:Sc) (es:List (kc.cQ×vc.cQ))
 |nr (t:TypeId) (r:Sc) (xs:List (List r.cQ)) (ho:Option (Int×Option Nat))
 |qr (t:TypeId) (ho:Option Nat) (sz:Nat) (xs:List Int)
def WE(r:Sc):List r.cQ->AV
 |[]=>.sl true 0 []
 |x::l=>.sl false r.w (List.map (bx r) (x::l))
def nrH:Option Nat->AV
 |some j=>.ow j
 |none=>.un
def u9(r:Sc)(xs:List (List r.cQ)):Option (Int×Option Nat)->List AV
 |none=>xs.map (WE r)
 |some (i,p)=>(xs.map (WE r)).set i.toNat (nrH p)
def Zd(sz:Nat):Option Nat->Int->AV
 |some k,i=>.pe k i.toNat sz 0
 |none,_=>.un
abbrev eF:=List (Nat×Option dR)
def bS:dR->Ob
 |.box t cs=>.box t (bO cs)
 |.arr t r xs wr=>.arr t r.w (List.map (bx r) xs) wr
 |.mp d kc vc es=>.mp d (my kc vc es)
 |.nr t r xs ho=>.nr t (u9 r xs ho)
 |.qr t ho sz xs=>.nr t (xs.map (Zd sz ho))
def bs:eF->Hp
 |[]=>[]
 |(k,o)::h=>(k,o.map bS)::bs h
def fY:List (Nat×EV)->List (Nat×AV)
 |[]=>[]
 |(i,c)::t=>(i,enc c)::fY t
def cN:List (Nat×EV)->Nat->EV
 |[],_=>.un
 |(j,c)::t,i=>cond (Nat.beq i j) c (cN t i)
def bw:eF->Nat->Option dR
 |[],_=>none
 |(j,o)::t,i=>cond (Nat.beq i j) o (bw t i)
def iC(h:¬e=t):Nat.beq e t=false:=by
 cases a:Nat.beq e t with
 |false=>rfl
 |true=>exact absurd (aqj a) h
def cw:∀(t:List (Nat×EV)) (i:Nat),bz (fY t) i=enc (cN t i)
 |[],_=>rfl
 |(j,c)::t,i=>by
  simp only[fY,bz,cN];by_cases h:i=j
  ·rw[aqd h,h,aqM];rfl
  ·rw[aqc h,(iC h),cw t i];rfl
def cV:∀(t:eF) (i:Nat),aY (bs t) i=(bw t i).map bS
 |[],_=>rfl
 |(j,c)::t,i=>by
  simp only[bs,aY,bw];by_cases h:i=j
  ·rw[aqd h,h,aqM];rfl
  ·rw[aqc h,(iC h),cV t i];rfl
def fu:∀a c:eF,bs (a++c)=bs a++bs c
 |[],c=>rfl
 |(k,o)::a,c=>by rw[arw,bs,fu a c];rfl
def HC(hg:Nat->Option dR)(us:List Nat)(h:Hp):Prop:=
 ∀k,us.contains k=true->∀t r xs wr,hg k=some (.arr t r xs wr)->∃wr',aY h k=some (.arr t r.w (List.map (bx r) xs) wr')
def Br(hg:Nat->Option dR)(os:eF):Prop:=∀k o,(k,o)∈os->∃t r xs wr,hg k=some (.arr t r xs wr)/\o=some (.arr t r xs false)
def F_:∀{a:eF} {k:Nat},a.any (λp=>p.1==k)=true->∃o,(k,o)∈a/\aY (bs a) k=o.map bS
 |[],k,h=>by simp at h
 |(j,o)::a,k,h=>by
  by_cases b:k=j
  ·subst b;exact⟨o,by simp,by simp[bs,aY]⟩
  ·simp only[ar5,ara]at h
   rcases h with h|h
   ·exact absurd (by simpa using h) (λe:j=k=>b e.symm)
   ·obtain⟨f,c,d⟩:=F_ h
    exact⟨f,ari _ c,by rw[bs,aY,aqc b];exact d⟩
def BK(a:eF)(k:Nat):(bs a).any (λp=>p.1==k)=a.any (λp=>p.1==k):=by
 induction a with
 |nil=>rfl
 |cons p a b=>obtain⟨j,o⟩:=p;simp only[bs,ar5,b]
def HC.put{b:Nat->Option dR}{h:Hp}{e:eF}(j:HC b o h)(n:Br b e)(p:∀k,U.contains k=true->o.contains k=true):HC b U (bs e++h):=by
 intro k l t r q wr d;rw[dZ,BK];split
 ·rename_i g
  obtain⟨a,m,i⟩:=F_ g;obtain⟨u,s,v,wr2,c,f⟩:=n _ _ m;rw[d]at c;cases c;subst f;exact⟨false,i⟩
 ·exact j k (p k l) t r q wr d
def mG(hg:Nat->Option dR)(s:Sc):EV->Option (s.cQ×eF×List Nat)
 |.ow k=>match hg k with
  |some (.arr t r xs wr)=>match ec (.sl r) s xs with
   |some y=>some (y,[(k,some (.arr t r xs false))],[k])
   |none=>none
  |_=>none
 |c=>match F9 s c with
  |some y=>some (y,[],[])
  |none=>none
def ae2(s:Sc)(x:s.cQ):(encS s x).fz=true:=by
 cases s<;>rfl
def Ze{x:M.cQ}(h:F9 M F=some x):(enc F).fz=true:=by
 cases F with
 |sc a y=>exact ae2 _ _
 |nil=>rfl
 |ts r b=>rfl
 |_=>simp[F9]at h
def C2(a:y.fz=true):gV u y=some (u,y):=by
 cases y<;>first|(simp[AV.fz]at a;done)|(simp only[gV,a,aqP])
def H_{r:Hp×AV}(a:gV u y=some r):jm u y=some r:=by
 cases y<;>first|(simp[gV,AV.fz]at a;done)|(rw[jm];exact a;intro b u;cases u)
def Zf{e:Nat->Option dR}{h:Hp}{x:M.cQ}{f:eF}(b:mG e M F=some (x,f,o))(j:HC e U h)(l:∀k,o.contains k=true->U.contains k=true):
 (∃g,gV h (enc F)=some (bs f++h,g)/\Wk g (encS M x))/\Br e f:=by
 unfold mG at b;split at b
 ·rename_i k
  split at b
  ·rename_i t r q wr i
   split at b
   ·rename_i y d
    simp only[aqg,aqx]at b;obtain⟨rfl,rfl,rfl⟩:=b;obtain⟨rfl,rfl⟩:=c8 d;obtain⟨p,m⟩:=j k (l k (by simp)) t r _ wr i;refine⟨⟨.sl false r.w (List.map (bx r) _),?_,Wk.refl _⟩,?_⟩
    ·simp only[enc,gV,m];rfl
    ·intro n a c
     simp only[aqB,aqx]at c;obtain⟨rfl,rfl⟩:=c;exact⟨t,r,_,wr,i,rfl⟩
   ·cases b
  ·cases b
 ·split at b
  ·rename_i y d
   simp only[aqg,aqx]at b;obtain⟨rfl,rfl,rfl⟩:=b;exact⟨⟨_,C2 (Ze d),Po d⟩,λk a c=>by cases c⟩
  ·cases b
def ig(hg:Nat->Option dR):(s:Sc)->List EV->Option (s.cQ×List EV×eF×List Nat)
 |.pr x y,cs=>match ig hg x cs with
  |some (a,cs1,os1,us1)=>match ig hg y cs1 with
   |some (b,cs2,os2,us2)=>some ((a,b),cs2,os2++os1,us1++us2)
   |none=>none
  |none=>none
 |.u,cs=>some ((),cs,[],[])
 |.i k,c::cs=>match mG hg (.i k) c with
  |some (a,os,us)=>some (a,cs,os,us)
  |none=>none
 |.b,c::cs=>match mG hg .b c with
  |some (a,os,us)=>some (a,cs,os,us)
  |none=>none
 |.sl r,c::cs=>match mG hg (.sl r) c with
  |some (a,os,us)=>some (a,cs,os,us)
  |none=>none
 |_,[]=>none
def FI{h f g:Hp}{d ds e ds1:List AV}(a:iA h d=some (f,e))(b:iA f ds=some (g,ds1)):iA h (d++ds)=some (g,e++ds1):=by
 induction d generalizing h e with
 |nil=>simp only[iA,aqg,aqx]at a;obtain⟨rfl,rfl⟩:=a;simpa using b
 |cons c d k=>
  simp only[iA]at a;split at a
  ·rename_i n l i
   split at a
   ·rename_i o m j
    simp only[aqg,aqx]at a;obtain⟨rfl,rfl⟩:=a;rw[arw,iA,i];simp only[k j,arw]
   ·cases a
  ·cases a
def u_{h b:Hp}(a:gV h y=some (b,V)):iA h [y]=some (b,[V]):=by
 simp only[iA,a]
def nU(hg:Nat->Option dR)(s:Sc):EV->Option (s.cQ×eF×List Nat)
 |.ag cs=>match s with
  |.pr x y=>match ig hg (.pr x y) cs with
   |some (a,[],os,us)=>some (a,os,us)
   |_=>none
  |.u=>match ig hg .u cs with
   |some (a,[],os,us)=>some (a,os,us)
   |_=>none
  |_=>none
 |c=>match s with
  |.pr _ _=>none
  |.u=>none
  |.i k=>mG hg (.i k) c
  |.b=>mG hg .b c
  |.sl r=>mG hg (.sl r) c
variable{Q:Array (Nat×Operand)}{D:Array Edge}{W:Int}{j:Option (Nat×Bool)}{B:Option Tmp}{A:St}{L:String}{K:TypeId}
structure bj where
 ty:Option (Bool×Nat):=none
 el:Option (TypeId×Nat×Nat×List Value):=none
 jO:Bool:=false
 bo:Bool:=false
 ar:Option (Nat×TypeId×Nat):=none
 fd:List (Nat×Bool×Nat):=[]
 pl:Option (List Value×List (Nat×Nat)):=none
 ze:Option (List Value):=none
 mp:Option (TypeDesc×Value):=none
 co:Option Sc:=none
 kv:Option (Sc×Sc):=none
 ik:Option IntKind:=none
 eq:Option Sc:=none
 sg:Bool:=false
 nf:Bool:=false
 zv:Option Value:=none
def Zg(P:Program)(t:TypeId)(s:Sc):Prop:=s.key=true/\∀(x y:s.cQ) (w:World),(Op.equal t (.agg (cU s x).toArray) (.agg (cU s y).toArray)).run P w=.ok (iB s x y) w/\
 ∀op a b,(eqGuard op t a b (.agg (cU s x).toArray) (.agg (cU s y).toArray)).run P w=.ok () w
def zvT(P:Program)(t:TypeId):Option Value:=(P.info? t).bind λi=>i.zero
structure f_(P:Program)(T:TypeId->bj):Prop where
 ty:∀t x,(T t).ty=some x->O_ P t=some x
 el:∀t x,(T t).el=some x->Ft P t=some x
 jO:∀t,(T t).jO=true->jO P t=true
 bo:∀t,(T t).bo=true->P.underlying t=some .bool
 ar:∀t x,(T t).ar=some x->arA P t=some x
 fd:∀t f x,(T t).fd[f]? =some x->YV P t f=some x
 pl:∀t z l,(T t).pl=some (z,l)->∃f,plA P t=some (z,f)/\∀(i:Nat) p,l[i]? =some p->f i=some p
 ze:∀t x,(T t).ze=some x->Ac P t=some x
 mp:∀t x,(T t).mp=some x->mapA P t=some x
 ik:∀t k,(T t).ik=some k->P.underlying t=some (.int k)
 eq:∀t s,(T t).eq=some s->Zg P t s
 sg:∀t,(T t).sg=true->P.underlying t=some .string
 nf:∀t,(T t).nf=true->∃ms,P.underlying t=some (.interface ms)
 zv:∀t x,(T t).zv=some x->zvT P t=some x
def aW{α β:Type}(o:Option α)(f:α->Option β):Option β:=match o with
 |some x=>f x
 |none=>none
def bf{α β:Type}{o:Option α}{f:α->Option β}{y:β}(h:aW o f=some y):∃x,o=some x/\f x=some y:=by
 cases o with
 |none=>cases h
 |some x=>exact⟨x,rfl,h⟩
def bD{x y:Option d}{r:d}(h:cond I x y=some r):(I=true/\x=some r)\/(I=false/\y=some r):=by
 cases I with
 |true=>exact .inl ⟨rfl,h⟩
 |false=>exact .inr ⟨rfl,h⟩
def aX{x:Option d}{r:d}(h:cond I x none=some r):I=true/\x=some r:=by
 cases I with
 |true=>exact⟨rfl,h⟩
 |false=>cases h
def cvE:Value->EV
 |.int k x=>.sc (.i k) x
 |.bool x=>.sc .b x
 |.slice none 0 0=>.nil
 |x=>.v x
def RK(v:Value):enc (cvE v)=lj v:=by
 unfold cvE;split
 ·rfl
 ·rfl
 ·rfl
 ·rename_i b c a
  unfold lj;split
  ·exact absurd rfl (a)
  ·rfl
def KE(z:List Value):bO (z.map cvE)=z.map lj:=by
 rw[dH,aru];exact aq6 λv _=>RK v
def ep(ev:Nat->EV):Operand->EV
 |.tmp i=>ev i
 |.const v=>cvE v
 |.global _=>.un
 |.func f=>.v (.func (.func f) #[] #[])
def Sk(ev:Nat->EV)(st:St):Prop:=∀i,ev i=.un\/bz st.t i=enc (ev i)
def Sk.x{ev:Nat->EV}{a:St}(h:Sk ev a)(x:Operand):ep ev x=.un\/a.ev x=enc (ep ev x):=by
 cases x with
 |tmp i=>exact h i
 |const v=>exact .inr (RK v).symm
 |global g=>exact .inl rfl
 |func f=>exact .inr rfl
def Sk.is{ev:Nat->EV}(h:Sk ev A){x:Operand}(a:ep ev x=F)(b:F≠.un):A.ev x=enc F:=by
 rcases h.x x with h|h
 ·exact absurd (a.symm.trans h) b
 ·rw[h,a]
def Hk(hg:Nat->Option dR)(us:List Nat)(st:St):Prop:=∀k,us.contains k=true->aY st.h k=(hg k).map bS
def Hk.at{hg:Nat->Option dR}(h:Hk hg o A)(b:o.contains e=true){a:dR}(c:hg e=some a):aY A.h e=some (bS a):=by rw[h e b,c];rfl
def Hk.hc{hg:Nat->Option dR}(h:Hk hg o A):HC hg o A.h:=λk a t r c wr b=>⟨wr,h.at a b⟩
inductive Fr where
 |no
 |one (d:Nat)
 |bJ (B:Nat)
def Fr.p:Fr->Nat->Bool
 |.no=>ffB
 |.one d=>λk=>k==d
 |.bJ B=>mv B
structure qS(fr:Fr)(st:St):Prop where
 t:∀x,(bz st.t x).fX fr.p=true
 h:∀k ob,aY st.h k=some ob->ob.fX fr.p=true
 k:∀k,fr.p k=true->aY st.h k=none
def FS(P:Program)(o:Oper)(n:Nat)(ev:Nat->EV)(hg:Nat->Option dR)(c:EV)(os:eF)(us:List Nat)(fr:Fr):Prop:=
 ∀st:St,st.n=n->Sk ev st->Hk hg us st->qS fr st->SS P o st λs=>s=⟨st.n,jq o.dst (enc c) st.t,bs os++st.h⟩
def O5(P:Program)(op:Op)(ev:Nat->EV)(hg:Nat->Option dR)(c:EV)(us:List Nat):Prop:=
 ∀(st:St) (d:Option Tmp) (ty:TypeId) (pos:String) (af:Array Edge) (gd:Option (Nat×Bool)),Sk ev st->Hk hg us st->RS P ⟨d,op,ty,pos,af,gd⟩ st (enc c)
def FS.read{P:Program}{a:Op}{n:Nat}{ev:Nat->EV}{hg:Nat->Option dR}{c:EV}{b:List Nat}{d:Nat}{l:TypeId}{j:String}{e:Array Edge}{f:Option (Nat×Bool)}
 (h:O5 P a ev hg c b) (m:d<n):FS P ⟨some d,a,l,j,e,f⟩ n ev hg c [] b .no:=by
 intro k p i g o;exact SS.read (h k _ _ _ _ _ i g) (by omega) rfl
def FJ(a b:Int):Option Int:=if b=0 then none else some (a.tmod b)
def Pq(a b:Int):Option Int:=if b=0 then none else some (a.tdiv b)
def ahj:{f:BinOp->IntKind->Int->Int->Int//f=bits}:=Classical.choice ⟨⟨bits,rfl⟩⟩
def Ia(op:BinOp)(k:IntKind)(a b:Int):Int:=ahj.1 op k a b
def Ib(c:BinOp)(k:IntKind)(a b:Int):Ia c k a b=bits c k a b:=by rw[Ia,ahj.2]
def aZ{α:Type}(xs:List α)(i:Int):Option α:=if 0<=i then xs[i.toNat]? else none
def eo{a:List d}{x:d}(h:aZ a G=some x):0<=G/\a[G.toNat]? =some x:=by
 unfold aZ at h;split at h
 ·exact⟨by assumption,h⟩
 ·cases h
def mz(op:BinOp)(k:IntKind)(a b:Int){R:Type}(kk:EV->Option R):Option R:=
 match op with
 |.add=>kk (.sc (.i k) (k.wrap (a+b)))
 |.sub=>kk (.sc (.i k) (k.wrap (a - b)))
 |.mul=>kk (.sc (.i k) (k.wrap (a*b)))
 |.rem=>aW (FJ a b) λz=>kk (.sc (.i k) z)
 |.quo=>aW (Pq a b) λz=>kk (.sc (.i k) (k.wrap z))
 |.lss=>kk (.sc .b (decide (a<b)))
 |.leq=>kk (.sc .b (decide (a<=b)))
 |.gtr=>kk (.sc .b (decide (b<a)))
 |.geq=>kk (.sc .b (decide (b<=a)))
 |.eql=>kk (.sc .b (decide (a=b)))
 |.neq=>kk (.sc .b (!decide (a=b)))
 |.and=>kk (.sc (.i k) (Ia .and k a b))
 |.or=>kk (.sc (.i k) (Ia .or k a b))
 |.xor=>kk (.sc (.i k) (Ia .xor k a b))
 |.andNot=>kk (.sc (.i k) (Ia .andNot k a b))
 |_=>none
def Pr(k:IntKind)(a b:Int):Option Int:=if b<0 then none else some (k.wrap (a*2^(min b.toNat k.bits)))
def Zh(k:IntKind)(a b:Int):Option Int:=if b<0 then none else some (a.fdiv (2^(min b.toNat k.bits)))
def Ps:(s:Sc)->List EV->Option (s.cQ×List EV)
 |.pr x y,cs=>match Ps x cs with
  |some (a,cs1)=>match Ps y cs1 with
   |some (b,cs2)=>some ((a,b),cs2)
   |none=>none
  |none=>none
 |.u,cs=>some ((),cs)
 |.i k,.sc s x::cs=>match ec s (.i k) x with
  |some a=>some (a,cs)
  |none=>none
 |.b,.sc s x::cs=>match ec s .b x with
  |some a=>some (a,cs)
  |none=>none
 |_,_=>none
def Zi(T:TypeId->bj)(op:BinOp)(t:TypeId)(a b:EV){R:Type}(k:EV->Option R):Option R:=
 match a with
 |.sc (.i ka) x=>match b with
  |.sc (.i kb) y=>match op with
   |.shl=>aW (Pr ka x y) λz=>k (.sc (.i ka) z)
   |.shr=>aW (Zh ka x y) λz=>k (.sc (.i ka) z)
   |_=>match ec (.i kb) (.i ka) y with
    |some z=>mz op ka x z k
    |none=>none
  |_=>none
 |.ag cs=>match b with
  |.ag ds=>match(T t).eq with
   |some s=>match Ps s cs with
    |some (x,[])=>match Ps s ds with
     |some (y,[])=>match op with
      |.eql=>k (.sc .b (iB s x y))
      |.neq=>k (.sc .b (!(iB s x y)))
      |_=>none
     |_=>none
    |_=>none
   |none=>none
  |_=>none
 |.sc .b x=>match b with
  |.sc .b y=>match op with
   |.eql=>cond (T t).bo (k (.sc .b (@BEq.beq Bool _ x y))) none
   |.neq=>cond (T t).bo (k (.sc .b (!(@BEq.beq Bool _ x y)))) none
   |_=>none
  |_=>none
 |_=>none
def aic(op:UnOp)(a:EV){R:Type}(k:EV->Option R):Option R:=
 match op with
 |.not=>match a with
  |.sc .b x=>k (.sc .b (!x))
  |_=>none
 |.neg=>match a with
  |.sc (.i kd) x=>k (.sc (.i kd) (kd.wrap (0 - x)))
  |_=>none
 |_=>none
def Zj(hg:Nat->Option dR)(a:EV){R:Type}(k:EV->List Nat->Option R):Option R:=
 match a with
 |.sc (.sl r) xs=>k (.sc (.i .i64) ((@List.length r.cQ xs:Nat):Int)) []
 |.ts r xs=>k (.sc (.i .i64) ((@List.length r.cQ xs:Nat):Int)) []
 |.nil=>k (.sc (.i .i64) ((0:Nat):Int)) []
 |.ow j=>match hg j with
  |some (.arr _ r xs _)=>k (.sc (.i .i64) ((@List.length r.cQ xs:Nat):Int)) [j]
  |some (.qr _ _ _ xs)=>k (.sc (.i .i64) ((@List.length Int xs:Nat):Int)) [j]
  |_=>none
 |_=>none
def Pt(T:TypeId->bj)(hg:Nat->Option dR)(t:TypeId)(a:EV){R:Type}(k:EV->List Nat->Option R):Option R:=
 match a with
 |.mp j=>match hg j with
  |some (.mp d kc vc es)=>match(T t).mp with
   |some _=>k (.sc (.i .i64) ((@List.length (kc.cQ×vc.cQ) es:Nat):Int)) [j]
   |none=>none
  |_=>none
 |_=>none
def lX{α:Type}:List α->Bool
 |[]=>true
 |_::_=>false
def zc(h:(!(Nat.beq a CC))=true):a≠CC:=λe=>by rw[e,aqM]at h;cases h
def BL(hg:Nat->Option dR)(p:EV)(m:Nat){R:Type}(k:List EV->List Nat->Option R):Option R:=
 match p with
 |.fp cs=>cond (Nat.ble m cs.length) (k (cs.take m) []) none
 |.pt j o=>match hg j with
  |some (.box t cs)=>cond (!(Nat.beq t CC) && Nat.ble (o+m) cs.length) (k ((cs.drop o).take m) [j]) none
  |_=>none
 |.pe j i sz o=>match hg j with
  |some (.arr _ r xs _)=>cond (Nat.beq sz r.w && Nat.ble (o+m) sz) (aW (aZ xs i) λx=>k (((qR r x).drop o).take m) [j]) none
  |some (.nr _ r xs ho)=>cond (Nat.beq sz 1 && Nat.beq o 0 && Nat.beq m 1) (match ho with
   |none=>aW (aZ xs i) λx=>cond (lX x) (k [.nil] [j]) (k [.sc (.sl r) x] [j])
   |some (i0,p)=>cond (decide (i.toNat=i0.toNat)) (match p with
    |some q=>aW (aZ xs i) λ_=>k [.ow q] [j]
    |none=>none) (aW (aZ xs i) λx=>cond (lX x) (k [.nil] [j]) (k [.sc (.sl r) x] [j]))) none
  |some (.qr _ ho s xs)=>cond (Nat.beq sz 1 && Nat.beq o 0 && Nat.beq m 1) (match ho with
   |some q=>aW (aZ xs i) λx=>k [.pe q x s 0] [j]
   |none=>none) none
  |_=>none
 |_=>none
def RL:Bool->List EV->Option EV
 |true,cs=>some (.ag cs)
 |false,[c]=>some c
 |false,_=>none
def Pu(T:TypeId->bj)(hg:Nat->Option dR)(t:TypeId)(p:EV){R:Type}(k:EV->List Nat->Option R):Option R:=
 match(T t).ty with
 |some (ag,m)=>BL hg p m λcs us=>match RL ag cs with
  |some c=>k c us
  |none=>none
 |none=>none
def Ic:EV->Nat->Option EV
 |.pt k o,f=>some (.pt k (o+f))
 |.pe k i sz o,f=>some (.pe k i sz (o+f))
 |.fp cs,f=>some (.fp (cs.drop f))
 |_,_=>none
def Ie(T:TypeId->bj)(hg:Nat->Option dR)(t:TypeId)(a b:EV){R:Type}(k:EV->List Nat->Option R):Option R:=
 match b with
 |.sc (.i _) i=>match a with
  |.sc (.sl r) xs=>match(T t).el with
   |some (_,sz,_,_)=>cond (Nat.beq sz r.w && Nat.blt 0 sz) (aW (aZ (show List r.cQ from xs) i) λx=>k (.fp (qR r x)) []) none
   |none=>none
  |.ts r xs=>match(T t).el with
   |some (_,sz,_,_)=>cond (Nat.beq sz r.w && Nat.blt 0 sz) (aW (aZ xs i) λx=>k (.fp (qR r x)) []) none
   |none=>none
  |.ow j=>match hg j with
   |some (.arr t' r xs _)=>match(T t).el with
    |some (e,sz,_,_)=>cond (Nat.beq sz r.w && Nat.beq e t') (aW (aZ xs i) λ_=>k (.pe j i sz 0) [j]) none
    |none=>none
   |some (.nr t' r xs _)=>match(T t).el with
    |some (e,sz,_,_)=>cond (Nat.beq sz 1 && Nat.beq e t') (aW (aZ xs i) λ_=>k (.pe j i 1 0) [j]) none
    |none=>none
   |some (.qr t' _ _ xs)=>match(T t).el with
    |some (e,sz,_,_)=>cond (Nat.beq sz 1 && Nat.beq e t') (aW (aZ xs i) λ_=>k (.pe j i 1 0) [j]) none
    |none=>none
   |_=>none
  |.pt j o=>match(T t).ar with
   |some (n,_,sz)=>match hg j with
    |some (.arr _ r xs _)=>cond (Nat.beq o 0 && Nat.beq sz r.w) (aW (aZ (List.range n) i) λ_=>aW (aZ xs i) λ_=>k (.pe j i sz 0) [j]) none
    |_=>aW (aZ (List.range n) i) λm=>k (.pt j (o+m*sz)) []
   |none=>none
  |.fp cs=>match(T t).ar with
   |some (n,_,sz)=>aW (aZ (List.range n) i) λm=>k (.fp (cs.drop (m*sz))) []
   |none=>none
  |_=>none
 |_=>none
def Zk(T:TypeId->bj)(t:TypeId)(g:Nat)(b:EV){R:Type}(k:EV->List Nat->Option R):Option R:=
 match b with
 |.sc (.i _) i=>match Ws Y2 g with
  |some (k',l)=>match(T t).ar with
   |some (n,_,sz)=>cond (Nat.beq sz 1) (aW (aZ (List.range n) i) λ_=>aW (aZ l i) λx=>k (.fp [.sc (.i k') x]) []) none
   |none=>none
  |none=>none
 |_=>none
def Ig(T:TypeId->bj)(t:TypeId)(f:Nat)(a:EV){R:Type}(k:EV->Option R):Option R:=
 match a with
 |.ag cs=>match(T t).fd[f]? with
  |some (off,true,m)=>cond (Nat.ble (off+m) cs.length) (k (.ag ((cs.drop off).take m))) none
  |some (off,false,m)=>cond (Nat.ble (off+m) cs.length) (match cs[off]? with
   |some c=>k c
   |none=>none) none
  |none=>none
 |_=>none
def nq:EV->Option (List EV)
 |.ag cs=>some cs
 |c=>cond (AV.one (enc c)) (some [c]) none
def zd{d:List EV}(h:nq F=some d):cellsOf (enc F)=some (bO d):=by
 have f:∀a:AV,a.one=true->(∀l,a≠.ag l)->cellsOf a=some [a]:=by
  intro a b c;cases a<;>first|(simp[AV.one]at b;done)|(simp only[cellsOf,b,aqP])
 cases F with
 |ag l=>simp only[nq,aqg]at h;subst h;rfl
 |_=>
  simp only[nq]at h;obtain⟨b,c⟩:=aX h;simp only[aqg]at c;subst c;refine f _ b λl e=>?_;rw[e]at b;simp[AV.one]at b
def owE(hg:Nat->Option dR):EV->Bool
 |.ow k=>match hg k with
  |some (.arr ..)=>true
  |some (.nr ..)=>true
  |some (.qr ..)=>true
  |_=>false
 |_=>true
def owU:EV->List Nat
 |.ow k=>[k]
 |_=>[]
def Ih{hg:Nat->Option dR}(h:owE hg F=true)(b:Hk hg o A)(c:∀k,(owU F).contains k=true->o.contains k=true):nL A.h (enc F)=true:=by
 cases F with
 |ow k=>
  simp only[owE]at h;split at h
  ·rename_i t r d wr a
   have:=b.at (c k (by simp[owU])) a;simp only[enc,nL,this,bS]
  ·rename_i t r d e a
   have:=b.at (c k (by simp[owU])) a;simp only[enc,nL,this,bS]
  ·rename_i t e f d a
   have:=b.at (c k (by simp[owU])) a;simp only[enc,nL,this,bS]
  ·cases h
 |sc s x=>cases s<;>rfl
 |_=>rfl
def C3(ev:Nat->EV)(hg:Nat->Option dR):List (Nat×Operand)->Option (List (Nat×List EV)×List Nat)
 |[]=>some ([],[])
 |(i,x)::ps=>match nq (ep ev x)with
  |some cs=>cond (owE hg (ep ev x)) (match C3 ev hg ps with
   |some (r,us)=>some ((i,cs)::r,owU (ep ev x)++us)
   |none=>none) none
  |none=>none
def nV(cs:List EV)(o:Nat):List EV->List EV
 |[]=>cs
 |x::xs=>nV (cs.set o x) (o+1) xs
def nW(a:List EV)(o:Nat)(x:EV):bO (a.set o x)=(bO a).set o (enc x):=by
 rw[dH,dH,asb]
def oV:∀(b a:List EV) (o:Nat),bO (nV a o b)=setCells (bO a) o (bO b)
 |[],a,o=>rfl
 |x::b,a,o=>by rw[nV,oV b,nW];rfl
def KF(pl:List (Nat×Nat))(cs:List EV):List (Nat×List EV)->Option (List EV)
 |[]=>some cs
 |(i,xs)::rest=>match pl[i]? with
  |some (off,size)=>cond (Nat.beq xs.length size && Nat.ble (off+size) cs.length) (KF pl (nV cs off xs) rest) none
  |none=>none
def va{f g:Nat->Option (Nat×Nat)}(h:∀i p,f i=some p->g i=some p):∀{α:Type} {c:List (Nat×List α)} {b r:List α},fZ f b c=some r->fZ g b c=some r
 |_,[],b,r,a=>a
 |_,(i,l)::c,b,r,a=>by
  simp only[fZ]at a⊢;split at a
  ·cases a
  ·rename_i j k e
   rw[h _ _ e];simp only;split at a
   ·rename_i d
    rw[aqd d];exact va h a
   ·cases a
def ae4:List (Nat×List EV)->List (Nat×List AV)
 |[]=>[]
 |(i,x)::r=>(i,bO x)::ae4 r
def KG{e:List (Nat×Nat)}:∀{f:List (Nat×List EV)} {a b:List EV},KF e a f=some b->fZ (λi=>e[i]?) (bO a) (ae4 f)=some (bO b)
 |[],a,b,h=>by simp only[KF,aqg]at h;subst h;rfl
 |(i,p)::n,a,b,h=>by
  simp only[KF]at h;split at h
  ·rename_i m o l
   obtain⟨c,k⟩:=aX h;simp only[aqe]at c;have g:=aqj c.1;have j:=aqk c.2;have d:=KG k;rw[oV]at d;simp only[ae4,fZ,l,fq];rw[aqd ⟨g,j⟩];exact d
  ·cases h
def Gb{ev:Nat->EV}{hg:Nat->Option dR}{b:St}{p:List Nat}(o:Sk ev b)(m:Hk hg p b):∀{d:List (Nat×Operand)} {r:List (Nat×List EV)} {f:List Nat},C3 ev hg d=some (r,f)->(∀k,f.contains k=true->p.contains k=true)->
 qM b d=some (ae4 r)/\sM b d=true
 |[],r,f,h,j=>by simp only[C3,aqg,aqx]at h;obtain⟨rfl,rfl⟩:=h;exact⟨rfl,rfl⟩
 |(i,x)::d,r,f,h,j=>by
  simp only[C3]at h;split at h
  ·rename_i w g
   obtain⟨q,c⟩:=aX h;split at c
   ·rename_i y z s
    simp only[aqg,aqx]at c;obtain⟨rfl,rfl⟩:=c;obtain⟨u,v⟩:=Gb o m s (λk a=>j k (by simp at a⊢;exact .inr a));have t:b.ev x=enc (ep ev x):=o.is rfl (λe=>by rw[e]at g;simp[nq,enc,AV.one]at g);have l:=zd g;have n:=Ih q m (λk a=>j k (by simp at a⊢;exact .inl a));rw[<-t]at l n;refine⟨?_,?_⟩
    ·simp only[qM,l,u];rfl
    ·simp only[sM,n,v];rfl
   ·cases c
  ·cases h
def Ii(T:TypeId->bj)(ev:Nat->EV)(hg:Nat->Option dR)(t:TypeId)(parts:List (Nat×Operand)){R:Type}(k:EV->List Nat->Option R):Option R:=
 match(T t).pl with
 |some (z,l)=>match C3 ev hg parts with
  |some (qs,us)=>match KF l (z.map cvE) qs with
   |some cs=>k (.ag cs) us
   |none=>none
  |none=>none
 |none=>none
section
variable{P:Program}{T:TypeId->bj}{ev:Nat->EV}{hg:Nat->Option dR}
def RS.an_{d c:Bool}(e:P.underlying n=some .bool)(f:A.ev b=.v (.bool d))(h:A.ev g=.v (.bool c)):
 RS P ⟨B,.binOp .neq n b g K,a,L,D,j⟩ A (.v (.bool (!(d==c)))):=
 RS.bin f h (λw=>by simp[eqGuard]) λw=>run_neq_bool w n d c e
def RS.RM{c:BinOp}(f:c=.and\/c=.or\/c=.xor\/c=.andNot)(d:A.ev b=.v (.int H G))(e:A.ev g=.v (.int H W)):
 RS P ⟨B,.binOp c n b g K,a,L,D,j⟩ A (.v (.int H (Ia c H G W))):=by
 rw[Ib];rcases f with rfl|rfl|rfl|rfl
 ·exact RS.bin d e (λw=>by simp[eqGuard]) λw=>by simp[binOp_and,intBits_and]
 ·exact RS.bin d e (λw=>by simp[eqGuard]) λw=>by simp[binOp_or,intBits_or]
 ·exact RS.bin d e (λw=>by simp[eqGuard]) λw=>by simp[binOp_xor,intBits_xor]
 ·exact RS.bin d e (λw=>by simp[eqGuard]) λw=>by simp[binOp_andNot,intBits_andNot]
def RS.shl{k l:IntKind}{c d z:Int}(e:Pr k c d=some z)(h:A.ev b=.v (.int k c))(i:A.ev g=.v (.int l d)):
 RS P ⟨B,.binOp .shl n b g K,a,L,D,j⟩ A (.v (.int k z)):=by
 unfold Pr at e;split at e
 ·cases e
 ·rename_i f
  cases e;exact RS.bin h i (λw=>by simp[eqGuard]) λw=>by simp[binOp_shl,Op.shift,f]
def RS.shr{k l:IntKind}{c d z:Int}(e:Zh k c d=some z)(h:A.ev b=.v (.int k c))(i:A.ev g=.v (.int l d)):
 RS P ⟨B,.binOp .shr n b g K,a,L,D,j⟩ A (.v (.int k z)):=by
 unfold Zh at e;split at e
 ·cases e
 ·rename_i f
  cases e;exact RS.bin h i (λw=>by simp[eqGuard]) λw=>by simp[binOp_shr,Op.shift,f]
def RS.y6(h:RS P R A y)(f:Wk y V):RS P R A V:=λg b e a w hg=>by
 obtain⟨v,c,d⟩:=h g b e a w hg;exact⟨v,f _ _ _ c,d⟩
def Wk.un{c:AV}:Wk c .un:=λ_ _ _ _=>.un
def RS.conv{k c o:IntKind}(l:P.underlying n=some (.int o))(f:P.underlying K=some (.int c))(m:A.ev b=.v (.int k G)):
 RS P ⟨B,.convert n K b,a,L,D,j⟩ A (.v (.int c (c.wrap G))):=λs q e r w h=>by
 have d:=h.ev b;rw[m]at d;refine⟨_,.v,λp _=>?_⟩;have i:=d.bE;have g:P.intKind K=c:=by simp[Program.intKind,f]
 have:=run_convert_int p n K k G (by rw[l];rfl) (by rw[g];exact f);rw[g]at this;simp only[execOp,i,aqs,this,aqt,aqu]
def RS.neg(f:A.ev b=.v (.int H G)):
 RS P ⟨B,.unOp .neg n b,a,L,D,j⟩ A (.v (.int H (H.wrap (0 - G)))):=λl g e i w h=>by
 have c:=h.ev b;rw[f]at c;refine⟨_,.v,λk _=>?_⟩;have d:=c.bE;simp only[execOp,d,unary_neg,Op.intArith,aqs,aqu,aqt]
def ae5{w:BinOp}{x:EV->Option d}{r:d}(h:mz w H G W x=some r)(y:ep ev b=.sc (.i H) G)(A:ep ev g=.sc (.i H) W):
 ∃c,O5 P (.binOp w a b g n) ev hg c []/\x c=some r:=by
 have l:∀i,Sk ev i->i.ev b=.v (.int H G):=λi j=>j.is y (by intro e;cases e);have m:∀i,Sk ev i->i.ev g=.v (.int H W):=λi j=>j.is A (by intro e;cases e);cases w with
 |add=>exact⟨_,λi f q p k o j s=>RS.add (l i j) (m i j),h⟩
 |sub=>exact⟨_,λi f q p k o j s=>RS.sub (l i j) (m i j),h⟩
 |mul=>exact⟨_,λi f q p k o j s=>RS.mul (l i j) (m i j),h⟩
 |lss=>exact⟨_,λi f q p k o j s=>RS.lss (l i j) (m i j),h⟩
 |leq=>exact⟨_,λi f q p k o j s=>RS.leq (l i j) (m i j),h⟩
 |gtr=>exact⟨_,λi f q p k o j s=>RS.gtr (l i j) (m i j),h⟩
 |geq=>exact⟨_,λi f q p k o j s=>RS.geq (l i j) (m i j),h⟩
 |eql=>exact⟨_,λi f q p k o j s=>RS.eql (l i j) (m i j),h⟩
 |and=>exact⟨_,λi f q p k o j s=>RS.RM (.inl rfl) (l i j) (m i j),h⟩
 |or=>exact⟨_,λi f q p k o j s=>RS.RM (.inr (.inl rfl)) (l i j) (m i j),h⟩
 |xor=>exact⟨_,λi f q p k o j s=>RS.RM (.inr (.inr (.inl rfl))) (l i j) (m i j),h⟩
 |andNot=>exact⟨_,λi f q p k o j s=>RS.RM (.inr (.inr (.inr rfl))) (l i j) (m i j),h⟩
 |neq=>
  refine⟨_,λi f q p k o j s=>?_,h⟩;have:=RS.neq (P:=P) (d:=f) (ty:=q) (pos:=p) (af:=k) (gd:=o) (t:=a) (t2:=n) (l i j) (m i j);rw[decide_not]at this;exact this
 |rem=>
  simp only[mz]at h;obtain⟨z,t,v⟩:=bf h;unfold FJ at t;split at t
  ·cases t
  ·rename_i u
   cases t;exact⟨_,λi f q p k o j s=>RS.rem (l i j) (m i j) u,v⟩
 |quo=>
  simp only[mz]at h;obtain⟨z,t,v⟩:=bf h;unfold Pq at t;split at t
  ·cases t
  ·rename_i u
   cases t;exact⟨_,λi f q p k o j s=>RS.quo (l i j) (m i j) u,v⟩
 |_=>cases h
def zf:∀(s:Sc) {b rest:List EV} {x:s.cQ},Ps s b=some (x,rest)->s.key=true->∃f,b=f++rest/\bO f=bx s x
 |.pr a c,b,rest,x,h,d=>by
  simp only[Sc.key,aqe]at d;simp only[Ps]at h;split at h
  ·rename_i o m g
   split at h
   ·rename_i vb n i
    simp only[aqg,aqx]at h;obtain⟨rfl,rfl⟩:=h;obtain⟨p,rfl,j⟩:=zf a g d.1;obtain⟨q,rfl,l⟩:=zf c i d.2;exact⟨p++q,by simp,by rw[kB,j,l];rfl⟩
   ·cases h
  ·cases h
 |.u,b,rest,x,h,d=>by
  simp only[Ps,aqg,aqx]at h;obtain⟨-,rfl⟩:=h;exact⟨[],rfl,rfl⟩
 |.i k,b,rest,x,h,d=>by
  cases b with
  |nil=>simp[Ps]at h
  |cons c b=>
   cases c with
   |sc s y=>
    simp only[Ps]at h;split at h
    ·rename_i z e
     simp only[aqg,aqx]at h;obtain⟨rfl,rfl⟩:=h;obtain⟨rfl,rfl⟩:=c8 e;exact⟨[_],rfl,rfl⟩
    ·cases h
   |_=>simp[Ps]at h
 |.b,b,rest,x,h,d=>by
  cases b with
  |nil=>simp[Ps]at h
  |cons c b=>
   cases c with
   |sc s y=>
    simp only[Ps]at h;split at h
    ·rename_i z e
     simp only[aqg,aqx]at h;obtain⟨rfl,rfl⟩:=h;obtain⟨rfl,rfl⟩:=c8 e;exact⟨[_],rfl,rfl⟩
    ·cases h
   |_=>simp[Ps]at h
 |.sl r,b,rest,x,h,d=>by simp[Sc.key]at d
def LR.cU{Rd:Nat->Nat->Value->Prop}{E:Option Env}:∀(s:Sc) (x:s.cQ) {b:List Value},s.key=true->LR (VR Rd E) (bx s x) b->b=cU s x
 |.i k,x,b,_,h=>by
  obtain⟨d,e⟩:=h
  match b,d with
  |[u],_=>exact aqr (λz=>[z]) (e 0 _ _ rfl rfl).bE
 |.b,x,b,_,h=>by
  obtain⟨d,e⟩:=h
  match b,d with
  |[u],_=>exact aqr (λz=>[z]) (e 0 _ _ rfl rfl).bE
 |.u,x,b,_,h=>arh h.1
 |.sl r,x,b,f,_=>by simp[Sc.key]at f
 |.pr a c,x,b,f,h=>by
  simp only[Sc.key,aqe]at f;have j:b.length=(bx a x.1).length+(bx c x.2).length:=by rw[h.1];simp[bx]
  have d:=h.take (bx a x.1).length;have e:=h.drop (bx a x.1).length;simp only[bx,as6,List.drop_left]at d e;have g:=LR.cU a x.1 f.1 d;have i:=LR.cU c x.2 f.2 e;rw[<-ar7 (bx a x.1).length b,g,i];rfl
def RS.ahk{x y:M.cQ}(c:Zg P n M)(p:A.ev b=.ag (bx M x))(q:A.ev g=.ag (bx M y)):
 RS P ⟨B,.binOp .eql n b g K,a,L,D,j⟩ A (.v (.bool (iB M x y)))/\RS P ⟨B,.binOp .neq n b g K,a,L,D,j⟩ A (.v (.bool (!(iB M x y)))):=by
 refine⟨λv m e o w h=>?_,λv m e o w h=>?_⟩
 all_goals
  have i:=h.ev b;have k:=h.ev g;rw[p]at i;rw[q]at k;obtain⟨z,d,r⟩:=VR.eS i;obtain⟨C,f,s⟩:=VR.eS k;rw[LR.cU M x c.1 r]at d;rw[LR.cU M y c.1 s]at f;refine⟨_,.v,λl _=>?_⟩;have t:=(c.2 x y l).1;have u:=(c.2 x y l).2;simp only[execOp,d,f,aqs,u,aqt,binOp,t,aqu]
def Zl(C:f_ P T){E:BinOp}{k:EV->Option d}{r:d}(h:Zi T E a (ep ev b) (ep ev g) k=some r):
 ∃c,O5 P (.binOp E a b g n) ev hg c []/\k c=some r:=by
 unfold Zi at h;split at h
 ·rename_i Q i m
  split at h
  ·rename_i R j o
   split at h
   ·obtain⟨z,u,D⟩:=bf h
    exact⟨_,λw f x v p q l t=>RS.shl u (l.is m (by intro e;cases e)) (l.is o (by intro e;cases e)),D⟩
   ·obtain⟨z,u,D⟩:=bf h
    exact⟨_,λw f x v p q l t=>RS.shr u (l.is m (by intro e;cases e)) (l.is o (by intro e;cases e)),D⟩
   ·split at h
    ·rename_i z u
     obtain⟨e,rfl⟩:=c8 u;cases e;exact ae5 h m o
    ·cases h
  ·cases h
 ·rename_i N m
  split at h
  ·rename_i O o
   split at h
   ·rename_i s l
    split at h
    ·rename_i S J
     split at h
     ·rename_i U K
      have y:=C.eq _ _ l;obtain⟨L,F,H⟩:=zf s J y.1;obtain⟨M,G,I⟩:=zf s K y.1;simp only[aqV]at F G;subst F G;split at h
      ·refine⟨_,λw f x v p q l t=>(RS.ahk y ?_ ?_).1,h⟩
       ·rw[l.is m (by intro e;cases e),enc,H]
       ·rw[l.is o (by intro e;cases e),enc,I]
      ·refine⟨_,λw f x v p q l t=>(RS.ahk y ?_ ?_).2,h⟩
       ·rw[l.is m (by intro e;cases e),enc,H]
       ·rw[l.is o (by intro e;cases e),enc,I]
      ·cases h
     ·cases h
    ·cases h
   ·cases h
  ·cases h
 ·rename_i i m
  split at h
  ·rename_i j o
   split at h
   ·obtain⟨A,B⟩:=aX h
    exact⟨_,λw f x v p q l t=>RS.an1 (C.bo _ A) (l.is m (by intro e;cases e)) (l.is o (by intro e;cases e)),B⟩
   ·obtain⟨A,B⟩:=aX h
    exact⟨_,λw f x v p q l t=>RS.an_ (C.bo _ A) (l.is m (by intro e;cases e)) (l.is o (by intro e;cases e)),B⟩
   ·cases h
  ·cases h
 ·cases h
def ae6{l:UnOp}{k:EV->Option d}{r:d}(h:aic l (ep ev b) k=some r):∃c,O5 P (.unOp l a b) ev hg c []/\k c=some r:=by
 unfold aic at h;split at h
 ·split at h
  ·rename_i f i
   exact⟨_,λq g s p m n j o=>RS.not (j.is i (by intro e;cases e)),h⟩
  ·cases h
 ·split at h
  ·rename_i t f i
   exact⟨_,λq g s p m n j o=>RS.neg (j.is i (by intro e;cases e)),h⟩
  ·cases h
 ·cases h
def Zm(m:f_ P T){k:EV->List Nat->Option d}{r:d}(o:S[0]? =some a)(n:(T a).jO=true)(h:Zj hg (ep ev b) k=some r):
 ∃c y,O5 P (.call ⟨.builtin .len, #[b],S⟩) ev hg c y/\k c y=some r:=by
 unfold Zj at h;split at h
 ·rename_i x w i
  refine⟨_,_,λt f u s p q g l=>RS.len (m.jO _ n) o ?_,h⟩;rw[g.is i (by intro e;cases e)];simp only[enc,encS,qx,aqn]
 ·rename_i x w i
  refine⟨_,_,λt f u s p q g l=>RS.len (m.jO _ n) o ?_,h⟩;rw[g.is i (by intro e;cases e)];simp only[enc,encS,qx,aqn]
 ·rename_i i
  refine⟨_,_,λt f u s p q g l=>RS.len (m.jO _ n) o ?_,h⟩;rw[g.is i (by intro e;cases e)];rfl
 ·rename_i j i
  split at h
  ·rename_i z x w wr v
   refine⟨_,_,λt f u s p q g l=>RS.len (m.jO _ n) o ?_,h⟩;rw[g.is i (by intro e;cases e)];simp only[enc,qx,l.at (by simp) v,bS,aqn]
  ·rename_i z A B w v
   refine⟨_,_,λt f u s p q g l=>RS.len (m.jO _ n) o ?_,h⟩;rw[g.is i (by intro e;cases e)];simp only[enc,qx,l.at (by simp) v,bS,aqn]
  ·cases h
 ·cases h
def WG(q:f_ P T){k:EV->List Nat->Option d}{r:d}(w:S[0]? =some a)(h:Pt T hg a (ep ev b) k=some r):
 ∃c l,O5 P (.call ⟨.builtin .len, #[b],S⟩) ev hg c l/\k c l=some r:=by
 unfold Pt at h;split at h
 ·rename_i j x
  split at h
  ·rename_i f i m g t
   split at h
   ·rename_i tz u
    obtain⟨C,z⟩:=tz;refine⟨_,_,λA o B y n p v s=>?_,h⟩;have:=RS.an5 (P:=P) (st:=A) (dd:=o) (ty:=B) (pos:=y) (af:=n) (gd:=p) (k:=j) (es:=my i m g) w (q.mp _ _ u) (v.is x (by intro e;cases e)) (s.at (by simp) t);rw[show(my i m g).length=g.length by simp[my]]at this;exact this
   ·cases h
  ·cases h
 ·cases h
def nX(a:List EV)(m:Nat):bO (a.take m)=(bO a).take m:=by rw[dH,dH,asD]
def lM(a:List EV)(m:Nat):bO (a.drop m)=(bO a).drop m:=by rw[dH,dH,asY]
def Pv{k:List EV->List Nat->Option d}{r:d}(h:BL hg F e k=some r):
 ∃v u,(∀g l,(∀x,u.contains x=true->l.contains x=true)->Hk hg l g->kZ g (enc F) e=some (bO v))/\k v u=some r:=by
 unfold BL at h;split at h
 ·rename_i v
  obtain⟨a,f⟩:=aX h;refine⟨_,_,λg l p m=>?_,f⟩;simp only[enc,kZ,fq];rw[aqd (aqk a),nX]
 ·rename_i j o
  split at h
  ·rename_i t v w
   obtain⟨a,f⟩:=aX h;refine⟨_,_,λg l p m=>?_,f⟩;simp only[enc,kZ,m.at (p j (by simp)) w,bS,fq];simp only[aqe]at a;rw[aqd ⟨zc a.1,aqk a.2⟩,nX,lM]
  ·cases h
 ·rename_i j i K o
  split at h
  ·rename_i t B z wr w
   obtain⟨a,f⟩:=aX h;obtain⟨x,b,n⟩:=bf f;simp only[aqe]at a;have C:=aqj a.1;have D:=aqk a.2;obtain⟨H,b⟩:=eo b;refine⟨_,_,λg l p m=>?_,n⟩;simp only[enc,kZ,m.at (p j (by simp)) w,bS,aqA,b,art,eH];rw[aqd ⟨by omega,C.symm⟩,nX,lM,gi]
  ·rename_i t B z I w
   obtain⟨a,f⟩:=aX h;simp only[aqe]at a;have C:=aqj a.1.1;have D:=aqj a.1.2;have G:=aqj a.2;have look:∀{u:List Nat} {c:EV},(u9 B z I)[i.toNat]? =some (enc c)->u.contains j=true->∀g l,(∀x,u.contains x=true->l.contains x=true)->Hk hg l g->kZ g (enc (.pe j i K o)) e=some (bO [c]):=λE N g l p m=>by
    simp only[enc,kZ,m.at (p j N) w,bS,E];rw[aqd ⟨C,D,G⟩];rfl
   have plain:∀{k:List EV->List Nat->Option d},(∀x,z[i.toNat]? =some x->(u9 B z I)[i.toNat]? =some (WE B x))->(aW (aZ z i) λx=>cond (lX x) (k [.nil] [j]) (k [.sc (.sl B) x] [j]))=some r->
    ∃v u,(∀g l,(∀x,u.contains x=true->l.contains x=true)->Hk hg l g->kZ g (enc (.pe j i K o)) e=some (bO v))/\k v u=some r:=λ{k} M h=>by
    obtain⟨x,b,n⟩:=bf h;obtain⟨H,b⟩:=eo b;have E:=M x b;cases x with
    |nil=>exact⟨_,_,look (c:=.nil) E (by simp),n⟩
    |cons y O=>exact⟨_,_,look (c:=.sc (.sl B) (y::O)) E (by simp),n⟩
   split at f
   ·refine plain (λx b=>?_) f
    simp only[u9,aqA,b,art]
   ·rename_i J F
    rcases bD f with⟨A,f⟩|⟨A,f⟩
    ·cases F with
     |some q=>
      obtain⟨x,b,n⟩:=bf f;obtain⟨H,b⟩:=eo b;have A:i.toNat=J.toNat:=aq7 A;refine⟨_,_,look (c:=.ow q) ?_ (by simp),n⟩;have L:i.toNat<z.length:=(aqh.1 b).1;simp only[u9,<-A,enc,nrH];rw[ava (by simpa using L)]
     |none=>cases f
    ·refine plain (λx b=>?_) f
     have A:¬i.toNat=J.toNat:=asn A;simp only[u9];rw[atJ (by omega),aqA,b];rfl
  ·rename_i t I s z w
   obtain⟨a,f⟩:=aX h;simp only[aqe]at a;have C:=aqj a.1.1;have D:=aqj a.1.2;have G:=aqj a.2;split at f
   ·rename_i q
    obtain⟨x,b,n⟩:=bf f;obtain⟨H,b⟩:=eo b;refine⟨_,_,λg l p m=>?_,n⟩;simp only[enc,kZ,m.at (p j (by simp)) w,bS,aqA,b,art];rw[aqd ⟨C,D,G⟩];rfl
   ·cases f
  ·cases h
 ·cases h
def KI{a:List EV}(h:RL I a=some F):Y6 I (bO a)=some (enc F):=by
 unfold RL at h;split at h
 ·cases h;rfl
 ·cases h;rfl
 ·cases h
def WH(n:f_ P T){k:EV->List Nat->Option d}{r:d}(h:Pu T hg a (ep ev b) k=some r):∃c g,O5 P (.load a b) ev hg c g/\k c g=some r:=by
 unfold Pu at h;split at h
 ·rename_i v m s
  obtain⟨w,g,l,i⟩:=Pv h;split at i
  ·rename_i c o
   refine⟨c,g,λj f z y u x q p=>RS.vU ?_,i⟩;have t:j.ev b=enc (ep ev b):=q.is rfl (λe=>by rw[e]at h;simp[BL]at h);simp only[vU,n.ty _ _ s,t,l j g (λ_ h=>h) p];exact KI o
  ·cases i
 ·cases h
def WI{p q:EV}(h:Ic p e=some q):gg (enc p) e=some (enc q):=by
 unfold Ic at h;split at h
 ·cases h;rfl
 ·cases h;rfl
 ·cases h;simp only[enc,gg,lM]
 ·cases h
def oW(h:aZ (List.range e) G=some t):0<=G/\G<e/\t=G.toNat:=by
 obtain⟨d,a⟩:=eo h;obtain⟨b,c⟩:=aqh.1 a;simp at b c;omega
def Pw(H:f_ P T){k:EV->List Nat->Option d}{r:d}(h:Ie T hg a (ep ev b) (ep ev g) k=some r):∃c U,O5 P (.indexAddr a b g) ev hg c U/\k c U=some r:=by
 unfold Ie at h;split at h
 ·rename_i Y i I
  split at h
  ·rename_i M G w
   split at h
   ·rename_i e J O z v
    obtain⟨p,D⟩:=aX h;obtain⟨l,q,u⟩:=bf D;obtain⟨t,q⟩:=eo q;simp only[aqe]at p;have y:=aqj p.1;have A:0<J:=aqk p.2;refine⟨_,_,λK f F E B C s x=>?_,u⟩;have:=RS.Ru (P:=P) (d:=f) (ty:=F) (pos:=E) (af:=B) (gd:=C) (H.el _ _ v) (by rw[y];exact s.is w (by intro e;cases e)) (s.is I (by intro e;cases e)) t (by rw[aqA,q];rfl) A;rw[enc,gi];exact this
   ·cases h
  ·rename_i M G w
   split at h
   ·rename_i e J O z v
    obtain⟨p,D⟩:=aX h;obtain⟨l,q,u⟩:=bf D;obtain⟨t,q⟩:=eo q;simp only[aqe]at p;have y:=aqj p.1;have A:0<J:=aqk p.2;refine⟨_,_,λK f F E B C s x=>?_,u⟩;have:=RS.Ru (P:=P) (d:=f) (ty:=F) (pos:=E) (af:=B) (gd:=C) (H.el _ _ v) (by rw[y];exact s.is w (by intro e;cases e)) (s.is I (by intro e;cases e)) t (by rw[aqA,q];rfl) A;rw[enc,gi];exact this
   ·cases h
  ·rename_i j w
   split at h
   ·rename_i S M G wr N
    split at h
    ·rename_i e J O z v
     obtain⟨p,D⟩:=aX h;obtain⟨l,q,u⟩:=bf D;obtain⟨t,q⟩:=eo q;simp only[aqe]at p;have y:=aqj p.1;have A:=aqj p.2;have R:=(aqh.1 q).1;refine⟨_,_,λK f F E B C s x=>?_,u⟩;refine RS.aeT (rows:=List.map (bx M) G) (wr:=wr) (H.el _ _ v) (s.is w (by intro e;cases e)) ?_ (s.is I (by intro e;cases e)) t (by rw[aqn];omega);rw[x.at (by simp) N,y,A];rfl
    ·cases h
   ·rename_i S M G L N
    split at h
    ·rename_i e J O z v
     obtain⟨p,D⟩:=aX h;obtain⟨l,q,u⟩:=bf D;obtain⟨t,q⟩:=eo q;simp only[aqe]at p;have y:=aqj p.1;have A:=aqj p.2;subst y;subst A;have R:=(aqh.1 q).1;refine⟨_,_,λK f F E B C s x=>?_,u⟩;refine RS.RJ (cs:=u9 M G L) (H.el _ _ v) (s.is w (by intro e;cases e)) ?_ (s.is I (by intro e;cases e)) t ?_
     ·rw[x.at (by simp) N];rfl
     ·have:(u9 M G L).length=G.length:=by
       unfold u9;split<;>simp
      rw[this];omega
    ·cases h
   ·rename_i S L V G N
    split at h
    ·rename_i e J O z v
     obtain⟨p,D⟩:=aX h;obtain⟨l,q,u⟩:=bf D;obtain⟨t,q⟩:=eo q;simp only[aqe]at p;have y:=aqj p.1;have A:=aqj p.2;subst y;subst A;have R:=(aqh.1 q).1;refine⟨_,_,λK f F E B C s x=>?_,u⟩;refine RS.RJ (cs:=G.map (Zd V L)) (H.el _ _ v) (s.is w (by intro e;cases e)) ?_ (s.is I (by intro e;cases e)) t ?_
     ·rw[x.at (by simp) N];rfl
     ·rw[aqn];omega
    ·cases h
   ·cases h
  ·rename_i j o w
   split at h
   ·rename_i n e J v
    split at h
    ·obtain⟨Q,h⟩:=aX h
     obtain⟨l,q,h⟩:=bf h;obtain⟨m,X,u⟩:=bf h;obtain⟨t,p,rfl⟩:=oW q;simp only[aqe]at Q;have L:=aqj Q.1;subst L;exact⟨_,_,λK f F E B C s x=>RS.Pm (H.ar _ _ v) (s.is I (by intro e;cases e)) t p (s.is w (by intro e;cases e)),u⟩
    ·obtain⟨l,q,u⟩:=bf h
     obtain⟨t,p,rfl⟩:=oW q;exact⟨_,_,λK f F E B C s x=>RS.vO (H.ar _ _ v) (s.is I (by intro e;cases e)) t p (by rw[s.is w (by intro e;cases e)];rfl),u⟩
   ·cases h
  ·rename_i W w
   split at h
   ·rename_i n e J v
    obtain⟨l,q,u⟩:=bf h;obtain⟨t,p,rfl⟩:=oW q;refine⟨_,_,λK f F E B C s x=>RS.vO (H.ar _ _ v) (s.is I (by intro e;cases e)) t p ?_,u⟩;rw[s.is w (by intro e;cases e)];simp only[enc,gg,lM]
   ·cases h
  ·cases h
 ·cases h
def VR.aie{Rd:Nat->Nat->Value->Prop}{a:Option Env}(h:VR Rd a (.fp k) E)(d:k[0]? =some y):VR Rd a (.fp [y]) E:=by
 cases h with
 |fp e i g f=>
  cases e with
  |nil=>
   have:=(aqh.1 d).1;simp at i;omega
  |cons v e=>
   refine VR.fp [v] rfl (λj m l b c=>?_) (λj l b=>?_)
   ·cases j with
    |zero=>simp at b c;subst b;subst c;exact g 0 _ _ d rfl
    |succ j=>simp at b
   ·cases j with
    |zero=>simp at b;subst b;exact f 0 _ rfl
    |succ j=>simp at b
def RS.imp'{P:Program}(h:RS P R A y)(c:∀Rd E u,VR Rd E y u->VR Rd E V u):RS P R A V:=λg b e a w hg=>by
 obtain⟨v,f,d⟩:=h g b e a w hg;exact⟨v,c _ _ _ f,d⟩
def Zn(v:f_ P T){k:EV->List Nat->Option d}{r:d}(h:Zk T a e (ep ev b) k=some r):∃c s,O5 P (.indexAddr a (.global e) b) ev hg c s/\k c s=some r:=by
 unfold Zk at h;split at h
 ·rename_i K i F
  split at h
  ·rename_i G l z
   split at h
   ·rename_i n f N y
    obtain⟨m,o⟩:=aX h;have m:=aqj m;subst m;obtain⟨g,w,o⟩:=bf o;obtain⟨t,B,rfl⟩:=oW w;obtain⟨x,p,A⟩:=bf o;obtain⟨_,p⟩:=eo p;refine⟨_,_,λM j O L H I C J=>?_,A⟩;refine RS.imp' (RS.vO (q:=.fp ((l.map λx=>AV.v (.int G x)).drop (i.toNat*1))) (v.ar _ _ y) (C.is F (by intro f;cases f)) t B ?_) λRd E u D=>?_
    ·simp only[St.ev,gA,z,gg]
    ·exact D.aie (by rw[arD,arG,arH,aqA,p];rfl)
   ·cases h
  ·cases h
 ·cases h
def Px(o:f_ P T){k:EV->Option d}{r:d}(h:Ig T a e (ep ev b) k=some r):∃c,O5 P (.field a b e) ev hg c []/\k c=some r:=by
 unfold Ig at h;split at h
 ·rename_i z p
  split at h
  ·rename_i v m l
   obtain⟨j,i⟩:=aX h;refine⟨_,λx g y w q s n u=>RS.field (o.fd _ _ _ l) (n.is p (by intro f;cases f)) (by rw[fq];exact aqk j) (.inl ⟨rfl,?_⟩),i⟩;simp only[enc,nX,lM]
  ·rename_i v m l
   obtain⟨j,i⟩:=aX h;split at i
   ·rename_i c t
    refine⟨_,λx g y w q s n u=>RS.field (o.fd _ _ _ l) (n.is p (by intro f;cases f)) (by rw[fq];exact aqk j) (.inr ⟨rfl,?_⟩),i⟩;rw[dH,aqA,t];rfl
   ·cases i
  ·cases h
 ·cases h
def Py(m:f_ P T){k:EV->List Nat->Option d}{r:d}(h:Ii T ev hg a Q.toList k=some r):∃c e,O5 P (.build a Q) ev hg c e/\k c e=some r:=by
 unfold Ii at h;split at h
 ·rename_i z l p
  split at h
  ·rename_i A e t
   split at h
   ·rename_i w n
    refine⟨_,_,λB b C y v x u o=>?_,h⟩;obtain⟨i,j⟩:=Gb u o t λ_ h=>h;have g:=KG n;rw[KE]at g;obtain⟨f,q,s⟩:=m.pl _ _ _ p;exact RS.build q i j (va s g)
   ·cases h
  ·cases h
 ·cases h
def zeroV:(s:Sc)->s.cQ
 |.i _=>(0:Int)
 |.b=>false
 |.sl r=>([]:List r.cQ)
 |.pr x y=>(zeroV x,zeroV y)
 |.u=>()
def qF:Sc->List Value->Option (List Value)
 |.i k,zs=>match zs with
  |.int l n::r=>if k=l/\n=0 then some r else none
  |_=>none
 |.b,zs=>match zs with
  |.bool c::r=>cond c none (some r)
  |_=>none
 |.sl _,zs=>match zs with
  |.slice none 0 0::r=>some r
  |_=>none
 |.pr x y,zs=>match qF x zs with
  |some zs1=>qF y zs1
  |none=>none
 |.u,zs=>some zs
def mH:∀(s:Sc) {b rest:List Value},qF s b=some rest->∃d,b=d++rest/\nk (d.map lj) (bx s (zeroV s))/\d.all Value.oneCell'=true/\d.all (λv=>(lj v).one)=true
 |.i k,b,rest,h=>by
  simp only[qF]at h;split at h
  ·split at h
   ·rename_i f
    cases h;obtain⟨rfl,rfl⟩:=f;exact⟨[_],rfl,.cons (Wk.refl (.v (.int _ 0))) .nil,rfl,rfl⟩
   ·cases h
  ·cases h
 |.b,b,rest,h=>by
  simp only[qF]at h;split at h
  ·rename_i c m
   cases c with
   |true=>cases h
   |false=>
    cases h;exact⟨[_],rfl,.cons (Wk.refl (.v (.bool false))) .nil,rfl,rfl⟩
  ·cases h
 |.sl r,b,rest,h=>by
  simp only[qF]at h;split at h
  ·cases h
   exact⟨[_],rfl,.cons (Wk.empty rfl) .nil,rfl,rfl⟩
  ·cases h
 |.pr a c,b,rest,h=>by
  simp only[qF]at h;split at h
  ·rename_i l e
   obtain⟨p,rfl,p1,p2,p3⟩:=mH a e;obtain⟨q,rfl,g,i,j⟩:=mH c h;refine⟨p++q,by simp,?_,by simp only[auv,p2,i];rfl,by simp only[auv,p3,j];rfl⟩;rw[aq4];exact p1.append g
  ·cases h
 |.u,b,rest,h=>by
  simp only[qF,aqg]at h;subst h;exact⟨[],rfl,.nil,rfl,rfl⟩
def aif(s:Sc)(z:Value):Bool:=match s with
 |.pr x y=>match z with
  |.agg cs=>match qF (.pr x y) cs.toList with
   |some []=>true
   |_=>false
  |_=>false
 |.u=>match z with
  |.agg cs=>match qF .u cs.toList with
   |some []=>true
   |_=>false
  |_=>false
 |.i k=>match z with
  |.agg _=>false
  |z=>match qF (.i k) [z]with
   |some []=>true
   |_=>false
 |.b=>match z with
  |.agg _=>false
  |z=>match qF .b [z]with
   |some []=>true
   |_=>false
 |.sl r=>match z with
  |.agg _=>false
  |z=>match qF (.sl r) [z]with
   |some []=>true
   |_=>false
def nk.single(h:nk [y] [V]):Wk y V:=by
 cases h with
 |cons h _=>exact h
def RN(h:aif M E=true):Wk (Kc E) (enc (iL M (zeroV M))):=by
 have one:∀{M:Sc} {E:Value} {c:AV},qF M [E]=some []->bx M (zeroV M)=[c]->Wk (lj E) c:=by
  intro M E c h j;obtain⟨g,a,b,_⟩:=mH M h;rw[aqV]at a;subst a;rw[j]at b;exact b.single
 have f:∀{E:Value},(∀i,E≠.agg i)->Kc E=lj E:=by
  intro E d;unfold Kc;split
  ·exact absurd rfl (d _)
  ·rfl
 unfold aif at h;split at h
 ·split at h
  ·split at h
   ·rename_i a
    obtain⟨g,b,e,_⟩:=mH _ a;rw[aqV]at b;simp only[Kc,iL,enc,gi,b];exact Wk.ag e
   ·cases h
  ·cases h
 ·split at h
  ·split at h
   ·rename_i a
    obtain⟨g,b,e,_⟩:=mH _ a;rw[aqV]at b;simp only[Kc,iL,enc,b];exact Wk.ag e
   ·cases h
  ·cases h
 ·split at h
  ·cases h
  ·rename_i d
   split at h
   ·rename_i a
    rw[f d];exact one a rfl
   ·cases h
 ·split at h
  ·cases h
  ·rename_i d
   split at h
   ·rename_i a
    rw[f d];exact one a rfl
   ·cases h
 ·split at h
  ·cases h
  ·rename_i d
   split at h
   ·rename_i a
    rw[f d];exact one a rfl
   ·cases h
def kC(d:TypeDesc)(s:Sc):Bool:=match s with
 |.i k=>match d with
  |.int l=>decide (k=l)
  |_=>false
 |.b=>match d with
  |.bool=>true
  |_=>false
 |.pr (.i .i64) (.i .i64)=>match d with
  |.tuple ⟨[]⟩=>true
  |_=>false
 |_=>false
def qU(h:kC m M=true)(x:M.cQ):ku m (oU M x)/\M.key=true:=by
 unfold kC at h;split at h
 ·split at h
  ·exact⟨by simpa[oU,ku,MapKept.IsKey]using h,rfl⟩
  ·cases h
 ·split at h
  ·exact⟨trivial,rfl⟩
  ·cases h
 ·split at h
  ·exact⟨⟨x.1,x.2,rfl⟩,rfl⟩
  ·cases h
 ·cases h
def Ij:(s:Sc)->EV->Option s.cQ
 |.pr a b2,c=>match c with
  |.ag cs=>match Ps (.pr a b2) cs with
   |some (x,[])=>some x
   |_=>none
  |_=>none
 |.i k,c=>F9 (.i k) c
 |.b,c=>F9 .b c
 |.sl _,_=>none
 |.u,_=>none
def nY(T:TypeId->bj)(hg:Nat->Option dR)(t:TypeId)(a b:EV)(ok:Bool){R:Type}(k:EV->List Nat->Option R):Option R:=
 match a with
 |.mp j=>match hg j with
  |some (.mp d kc vc es)=>match(T t).mp with
   |some (td,z)=>match Ij kc b with
    |some x=>cond (kC d kc && kC td kc && aif vc z) (cond ok (k (.tu [iL vc ((bC kc es x).getD (zeroV vc)),.sc .b (bC kc es x).isSome]) [j]) (k (iL vc ((bC kc es x).getD (zeroV vc))) [j])) none
    |none=>none
   |none=>none
  |_=>none
 |_=>none
def nZ{d b:TypeDesc}(h:kC d M=true)(a:kC b M=true):d=b:=by
 unfold kC at h a;split at h
 ·split at h
  ·simp only at a
   split at a
   ·have c:=aq7 h
    have e:=aq7 a;rw[<-c,<-e]
   ·cases a
  ·cases h
 ·split at h
  ·simp only at a
   split at a
   ·rfl
   ·cases a
  ·cases h
 ·split at h
  ·simp only at a
   split at a
   ·rfl
   ·cases a
  ·cases h
 ·cases h
def RO{s:Sc}{x:s.cQ}(b:(match s with
 |.i _=>true
 |.b=>true
 |_=>false)=true) (a:F9 s F=some x):enc F=.v (oU s x):=by
 have e:encS s x=.v (oU s x):=by cases s<;>simp at b<;>rfl
 rw[<-e];cases F with
 |sc c y=>obtain⟨rfl,rfl⟩:=c8 a;rfl
 |nil=>cases s<;>simp[F9]at a b
 |ts r d=>obtain⟨rfl,rfl⟩:=c8 a;simp at b
 |_=>simp[F9]at a
def vY{x:M.cQ}(h:kC m M=true)(c:Ij M F=some x):∀(Rd:Nat->Nat->Value->Prop) E u,VR Rd E (enc F) u->u=oU M x:=by
 intro Rd E u d;cases M with
 |i k=>rw[RO (s:=.i k) rfl c]at d;exact d.bE
 |b=>rw[RO (s:=.b) rfl c]at d;exact d.bE
 |sl r=>cases c
 |u=>cases c
 |pr a o=>
  have f:=(qU h x).2;simp only[Ij]at c;split at c
  ·rename_i p
   split at c
   ·rename_i y l
    cases c;obtain⟨q,e,g⟩:=zf _ l f;rw[aqV]at e;subst e;simp only[enc,g]at d;obtain⟨s,j,n⟩:=VR.eS d;rw[j,LR.cU _ _ f n];rfl
   ·cases c
  ·cases c
def KJ(D:f_ P T){k:EV->List Nat->Option d}{r:d}(h:nY T hg a (ep ev b) (ep ev g) I k=some r):∃c L,O5 P (.lookup a b g I) ev hg c L/\k c L=some r:=by
 unfold nY at h;split at h
 ·rename_i j H
  split at h
  ·rename_i i m B s E
   split at h
   ·rename_i U z G
    split at h
    ·rename_i f o
     obtain⟨C,O⟩:=aX h;simp only[aqe]at C;obtain⟨⟨n,M⟩,N⟩:=C;have Q:=nZ n M;subst Q;obtain⟨J,K⟩:=qU n f;have R:=RN N;have F:ep ev g≠.un:=λe=>by rw[e]at o;cases m<;>simp[Ij,F9]at o
     have look:Wk ((eW (my m B s) (oU m f)).getD (Kc z)) (enc (iL B ((bC m s f).getD (zeroV B)))):=by
      rw[nT K];cases bC m s f with
      |none=>exact R
      |some v=>exact Wk.refl _
     rcases bD O with⟨x,u⟩|⟨x,u⟩
     ·refine⟨_,_,λS q A y p t l w=>?_,u⟩
      rw[x];have:=RS.Zc (P:=P) (dd:=q) (ty:=A) (pos:=y) (af:=p) (gd:=t) (D.mp _ _ G) (l.is H (by intro e;cases e)) (w.at (by simp) E) (by rw[l.is rfl F];exact vY n o) J;refine this.y6 (Wk.tu (.cons look (.cons ?_ .nil)));rw[nT K,Option.isSome_map];exact Wk.refl _
     ·refine⟨_,_,λS q A y p t l w=>?_,u⟩
      rw[x];exact(RS.lookup (P:=P) (dd:=q) (ty:=A) (pos:=y) (af:=p) (gd:=t) (D.mp _ _ G) (l.is H (by intro e;cases e)) (w.at (by simp) E) (by rw[l.is rfl F];exact vY n o) J).y6 look
    ·cases h
   ·cases h
  ·cases h
 ·cases h
def Ik(F:f_ P T){k:EV->List Nat->Option d}{r:d}(h:nY T hg a (ep ev b) (ep ev g) false k=some r):∃j f i l m c,hg j=some (.mp f i l m)/\i.key=true/\k (iL l ((bC i m c).getD (zeroV l))) [j]=some r/\
 ∀(o:St) (n:List (i.cQ×l.cQ)) (q:Option Tmp) (x:TypeId) (w:String) (p:Array Edge) (t:Option (Nat×Bool)),Sk ev o->(bC i n c).getD (zeroV l)=(bC i m c).getD (zeroV l)->aY o.h j=some (bS (.mp f i l n))->RS P ⟨q,.lookup a b g false,x,w,p,t⟩ o (enc (iL l ((bC i m c).getD (zeroV l)))):=by
 unfold nY at h;split at h
 ·rename_i j M
  split at h
  ·rename_i f i l m I
   split at h
   ·rename_i Q z L
    split at h
    ·rename_i c u
     obtain⟨y,E⟩:=aX h;simp only[aqe]at y;obtain⟨⟨s,C⟩,D⟩:=y;have G:=nZ s C;subst G;obtain⟨O,B⟩:=qU s c;have N:=RN D;have J:ep ev g≠.un:=λe=>by rw[e]at u;cases i<;>simp[Ij,F9]at u
     refine⟨j,f,i,l,m,c,I,B,E,λo n q x w p t A H K=>?_⟩;have look:Wk ((eW (my i l n) (oU i c)).getD (Kc z)) (enc (iL l ((bC i m c).getD (zeroV l)))):=by
      rw[nT B,<-H];cases bC i n c with
      |none=>exact N
      |some v=>exact Wk.refl _
     exact(RS.lookup (P:=P) (dd:=q) (ty:=x) (pos:=w) (af:=p) (gd:=t) (F.mp _ _ L) (A.is M (by intro e;cases e)) K (by rw[A.is rfl J];exact vY s u) O).y6 look
    ·cases h
   ·cases h
  ·cases h
 ·cases h
def ex2(a b:EV){R:Type}(k:IntKind->Int->Int->Option R):Option R:=match a with
 |.sc (.i ka) x=>match b with
  |.sc (.i kb) y=>match ec (.i kb) (.i ka) y with
   |some z=>k ka x z
   |none=>none
  |_=>none
 |_=>none
def Zo{k:IntKind->Int->Int->Option d}{r:d}(h:ex2 (ep ev b) (ep ev g) k=some r):∃f a c,ep ev b=.sc (.i f) a/\ep ev g=.sc (.i f) c/\k f a c=some r:=by
 unfold ex2 at h;split at h
 ·rename_i m a i
  split at h
  ·rename_i n c j
   split at h
   ·rename_i z l
    obtain⟨e,rfl⟩:=c8 l;cases e;exact⟨m,a,c,i,j,h⟩
   ·cases h
  ·cases h
 ·cases h
def Il(T:TypeId->bj)(ev:Nat->EV)(hg:Nat->Option dR)(b:Builtin)(args:Array Operand)(ts:Array TypeId){R:Type}(k:EV->List Nat->Option R):Option R:=
 match b with
 |.len=>match args with
  |⟨[x]⟩=>match ts[0]? with
   |some t=>cond (T t).jO (Zj hg (ep ev x) k) (Pt T hg t (ep ev x) k)
   |none=>none
  |_=>none
 |.min=>match args with
  |⟨[x,y]⟩=>ex2 (ep ev x) (ep ev y) λkd a b=>k (.sc (.i kd) (if b<a then b else a)) []
  |_=>none
 |.max=>match args with
  |⟨[x,y]⟩=>ex2 (ep ev x) (ep ev y) λkd a b=>k (.sc (.i kd) (if b>a then b else a)) []
  |_=>none
 |_=>none
def ae7(s:ByteArray)(i:Int):Option Int:=aZ (s.data.toList.map λb:UInt8=>(b.toNat:Int)) i
def exR(T:TypeId->bj)(ev:Nat->EV)(hg:Nat->Option dR)(op:Op){R:Type}(k:EV->List Nat->Option R):Option R:=
 match op with
 |.move x=>k (ep ev x) []
 |.assign x=>k (ep ev x) []
 |.pick c x y=>match ep ev c with
  |.sc .b b=>cond b (k (ep ev x) []) (k (ep ev y) [])
  |_=>none
 |.load t x=>Pu T hg t (ep ev x) k
 |.binOp o t x y _=>Zi T o t (ep ev x) (ep ev y) λc=>k c []
 |.unOp o _ x=>aic o (ep ev x) λc=>k c []
 |.convert s t x=>match ep ev x with
  |.sc (.i _) n=>match(T s).ik with
   |some _=>match(T t).ik with
    |some kd=>k (.sc (.i kd) (kd.wrap n)) []
    |none=>none
   |none=>none
  |_=>none
 |.fieldAddr t x f=>match(T t).fd[f]? with
  |some (off,_,m)=>cond (Nat.blt 0 m) (match Ic (ep ev x) off with
   |some q=>k q []
   |none=>none) none
  |none=>none
 |.field t x f=>Ig T t f (ep ev x) λc=>k c []
 |.indexAddr t (.global g) y=>Zk T t g (ep ev y) k
 |.indexAddr t x y=>Ie T hg t (ep ev x) (ep ev y) k
 |.extract x i=>match ep ev x with
  |.tu vs=>match vs[i]? with
   |some c=>k c []
   |none=>none
  |_=>none
 |.build t parts=>Ii T ev hg t parts.toList k
 |.lookup t x y ok=>nY T hg t (ep ev x) (ep ev y) ok k
 |.nilCheck x=>cond (nnA (enc (ep ev x))) (k (ep ev x) []) none
 |.makeFunc fn fs cs=>k (.cl fn (fs.toList.map (ep ev)) (cs.toList.map (ep ev))) []
 |.call ⟨.builtin b,args,ts⟩=>Il T ev hg b args ts k
 |.index t (.const (.string s)) y=>match ep ev y with
  |.sc (.i _) i=>cond (T t).sg (aW (ae7 s i) λb=>k (.sc (.i .u8) b) []) none
  |_=>none
 |_=>none
def RS.C4{P:Program}{s:ByteArray}(t:P.underlying n=some .string)(u:A.ev b=.v (.int H G))(i:aZ (s.data.toList.map λW:UInt8=>(W.toNat:Int)) G=some W):
 RS P ⟨B,.index n (.const (.string s)) b,a,L,D,j⟩ A (.v (.int .u8 W)):=λy v e c w h=>by
 have d:=h.ev b;rw[u]at d;have d:=d.bE;obtain⟨g,f⟩:=eo i;rw[aqA]at f;obtain⟨q,o,rfl⟩:=aqL.1 f;have p:s[G.toNat]? =some q:=by
  obtain⟨m,l⟩:=aqh.1 o;have r:G.toNat<s.size:=by simpa using m
  rw[getElem?_pos s G.toNat r];exact aqr some l
 refine⟨_,.v,λx _=>?_⟩;have k:c.eval (.const (.string s))=.string s:=rfl;simp[execOp,Instr.index,d,k,asIntOf,aqF t,g,p]
def Pz(p:f_ P T){k:EV->List Nat->Option d}{r:d}{b:Builtin}{n:Array Operand}(h:Il T ev hg b n S k=some r):∃c s,O5 P (.call ⟨.builtin b,n,S⟩) ev hg c s/\k c s=some r:=by
 unfold Il at h;split at h
 ·split at h
  ·rename_i x
   split at h
   ·rename_i t q
    rcases bD h with⟨o,i⟩|⟨o,i⟩
    ·exact Zm p q o i
    ·exact WG p q i
   ·cases h
  ·cases h
 ·split at h
  ·rename_i x y
   obtain⟨z,a,b,j,l,m⟩:=Zo h;exact⟨_,_,λB f C A u v g w=>RS.min2 (g.is j (by intro e;cases e)) (g.is l (by intro e;cases e)),m⟩
  ·cases h
 ·split at h
  ·rename_i x y
   obtain⟨z,a,b,j,l,m⟩:=Zo h;exact⟨_,_,λB f C A u v g w=>RS.max2 (g.is j (by intro e;cases e)) (g.is l (by intro e;cases e)),m⟩
  ·cases h
 ·cases h
def Sk.wk(a:Sk ev A)(x:Operand):Wk (A.ev x) (enc (ep ev x)):=by
 rcases a.x x with h|h
 ·rw[h];exact Wk.un
 ·rw[h];exact Wk.refl _
def Sk.wks{c:St}(b:Sk ev c):∀a:List Operand,nk (a.map c.ev) (a.map (enc∘ep ev))
 |[]=>.nil
 |x::a=>.cons (b.wk x) (b.wks a)
def aih(l:f_ P T){k:EV->List Nat->Option d}{r:d}{D:Op}(h:exR T ev hg D k=some r):∃c E,O5 P D ev hg c E/\k c E=some r:=by
 unfold exR at h;split at h
 ·exact⟨_,_,λu a v t o p f s=>(RS.move _).y6 (f.wk _),h⟩
 ·exact⟨_,_,λu a v t o p f s=>(RS.assign _).y6 (f.wk _),h⟩
 ·split at h
  ·rename_i c x y _ b B
   rcases bD h with⟨z,A⟩|⟨z,A⟩
   ·subst z
    exact⟨_,_,λu a v t o p f s=>(RS.akD (f.is B (by intro e;cases e)) rfl).y6 (f.wk _),A⟩
   ·subst z
    exact⟨_,_,λu a v t o p f s=>(RS.akE (f.is B (by intro e;cases e)) rfl).y6 (f.wk _),A⟩
  ·cases h
 ·exact WH l h
 ·obtain⟨c,g,j⟩:=Zl l h
  exact⟨c,_,g,j⟩
 ·obtain⟨c,g,j⟩:=ae6 h
  exact⟨c,_,g,j⟩
 ·split at h
  ·rename_i n w
   split at h
   ·rename_i N F
    split at h
    ·rename_i K G
     exact⟨_,_,λu a v t o p f s=>RS.conv (l.ik _ _ F) (l.ik _ _ G) (f.is w (by intro e;cases e)),h⟩
    ·cases h
   ·cases h
  ·cases h
 ·split at h
  ·rename_i O L m H
   obtain⟨g,j⟩:=aX h;split at j
   ·rename_i q C
    have M:0<m:=aqk g;refine⟨_,_,λu a v t o p f s=>RS.fieldAddr (l.fd _ _ _ H) (by omega) ?_,j⟩;rw[f.is rfl (λe=>by rw[e]at C;simp[Ic]at C)];exact WI C
   ·cases j
  ·cases h
 ·obtain⟨c,g,j⟩:=Px l h
  exact⟨c,_,g,j⟩
 ·exact Zn l h
 ·exact Pw l h
 ·split at h
  ·rename_i Q w
   split at h
   ·rename_i c B
    refine⟨_,_,λu a v t o p f s=>RS.extract (f.is w (by intro e;cases e)) ?_,h⟩;rw[dH,aqA,B];rfl
   ·cases h
  ·cases h
 ·exact Py l h
 ·exact KJ l h
 ·rename_i x
  obtain⟨g,j⟩:=aX h;refine⟨_,_,λu a v t o p f s=>?_,j⟩;have I:ep ev x≠.un:=λe=>by rw[e]at g;simp[enc,nnA]at g
  have w:=f.is (x:=x) rfl I;rw[<-w];exact RS.nilCheck (by rw[w];exact g)
 ·exact⟨_,_,λu a v t o p f s=>RS.makeFunc.y6 (by
   rw[enc,dH,dH,aru,aru];exact Wk.clM (f.wks _) (f.wks _)),h⟩
 ·exact Pz l h
 ·split at h
  ·rename_i K i J
   obtain⟨g,j⟩:=aX h;obtain⟨b,z,A⟩:=bf j;exact⟨_,_,λu a v t o p f s=>RS.C4 (l.sg _ g) (f.is J (by intro e;cases e)) z,A⟩
  ·cases h
 ·cases h
end
def Ad{e:Nat}:∀(a:List (List AV)) (i o:Nat) (r:List AV) (c:AV),(∀r∈a,r.length=e)->a[i]? =some r->o<e->(a.set i (r.set o c)).flatten=a.flatten.set (i*e+o) c
 |[],i,o,r,c,_,h,_=>by simp at h
 |q::a,0,o,r,c,b,h,f=>by
  simp at h;subst h;have:=b q (by simp);simp only[atm,aqR,asM,aqN];rw[avb _ _ (by omega)]
 |q::a,i+1,o,r,c,b,h,f=>by
  have g:=b q (by simp);have k:=Ad a i o r c (λx j=>b x (by simp[j])) (by simpa using h) f;simp only[auw,aqR];rw[k,atM _ _ (by rw[g,aqS];omega),g];congr 2;rw[aqS];omega
def PA{a o:Nat}(c:∀k∈i,k.length=e)(h:i[a]? =some k)(f:o<e):a*e+o<i.flatten.length:=by
 rw[dX c];have b:=(aqh.1 h).1;have:(a+1)*e<=i.length*e:=asu _ b;rw[aqS]at this;omega
section
variable{P:Program}
def Ga.qL{B:Bs}{p:Nat->Nat->Value->Prop}{k b:Nat}{t:TypeId}{f:Nat}{i:Nat}:∀(xs:List AV) (A:List Value) (o:Nat) {st:St} {e:Env} {a:Act} {w:World} {g:List (List AV)} {r:List AV} (h:Ga B p e st a w) (G:aY st.h k=some (.arr t f g true)) (F:e.bJ k=some b)
 (n:g[i]? =some r) (l:LR (VR (bF B p e st.h w) none) xs A) (E:∀c∈xs,c.one=true) (N:o+xs.length<=f) (m:Nat) (z:Nat) (O:z+m=i*f+o),
 ∃H J D,(storeCells ⟨b,z,none⟩ A m).run P w=.ok () J/\Ga B p H ⟨st.n,st.t,D⟩ a J/\aY D k=some (.arr t f (g.set i (setCells r o xs)) true)/\(∀j,j≠k->aY D j=aY st.h j)/\∀j,H.bJ j=e.bJ j
 |[],[],o,st,e,a,w,g,r,h,G,F,n,l,E,N,m,z,O=>by
  refine⟨e,w,st.h,rfl,h,?_,λ_ _=>rfl,λ_=>rfl⟩;rw[G,setCells];have:g.set i r=g:=by
   obtain⟨M,rfl⟩:=aqh.1 n;exact asd M
  rw[this]
 |x::xs,u::A,o,st,e,a,w,g,r,h,G,F,n,l,E,N,m,z,O=>by
  have W:VR (bF B p e st.h w) none x u:=l.2 0 x u rfl rfl;have a4:LR (VR (bF B p e st.h w) none) xs A:=⟨by simpa using l.1,λj c v L R=>l.2 (j+1) c v (by simpa using L) (by simpa using R)⟩;obtain⟨I,ah,am,aa⟩:=h.sr.ob _ _ G;simp only[aqC]at N;have a9:=I r (aqw n);have a0:=Ad g i o r x I n (by omega);have a6:=PA I n (o:=o) (by omega);obtain⟨M,ap⟩:=aqh.1 n;have ae:∀q∈g.set i (r.set o x),q.length=f:=λq Q=>by
   rcases as3 Q with Q|rfl
   ·exact I q Q
   ·simpa using a9
  obtain⟨hs,S⟩:=h.sr.qL (rows':=g.set i (r.set o x)) G F (i*f+o) W (E x (by simp)) (by simp) ae a0 a6;have U:∀j,(e.cz k (some b) (e.sv k) 0).bJ j=e.bJ j:=λj=>by by_cases y:j=k<;>simp[Env.cz,y,F]
  have ac:∀j,(e.cz k (some b) (e.sv k) 0).sv j=e.sv j:=λj=>by by_cases y:j=k<;>simp[Env.cz,y]
  have hg:Ga B p (e.cz k (some b) (e.sv k) 0) ⟨st.n,st.t,(k,some (.arr t f (g.set i (r.set o x)) true))::st.h⟩ a (w.setCell ⟨b,i*f+o,none⟩ u):=⟨h.n,h.d,hs,(h.tr.mono S).ic U ac⟩;obtain⟨H,J,D,ab,a1,a3,a2,Z⟩:=Ga.qL (i:=i) xs A (o+1) hg bc Env.bL (r:=r.set o x) (by rw[arf];simp[M]) (a4.imp λ_ _ R=>R.mono S) (λc L=>E c (by simp[L])) (by omega) (m+1) z (by omega);refine⟨H,J,D,?_,a1,?_,λj y=>by rw[a2 j y,a_ y],λj=>by rw[Z j,U j]⟩
  ·have X:(⟨b,z,none⟩:Addr).add m=⟨b,i*f+o,none⟩:=by rw[aqW,O]
   rcases aa with⟨a8,_⟩|⟨C,ag,s,Y,aq,ai,hm,V,ak,a5,an⟩
   ·rw[a8]at n;simp at n
   obtain rfl:=aql (Y.symm.trans F);have a7:i*f+o<s.size:=by
    have:=a5.1;rw[aq0]at this;have h2:s.toList.length=s.size:=by simp
    omega
   have aj:w.cell? ⟨C,i*f+o,none⟩=some s[i*f+o]:=by
    rw[arj w C _ s t (0,0) V];simp[a7]
   have al:=asN w C (i*f+o) s t V;have ao:u.oneCell'=true:=W.jk (E x (by simp)) (λe k he=>by cases he);have ad:(store ⟨C,i*f+o,none⟩ u).run P w=.ok () (w.setCell ⟨C,i*f+o,none⟩ u):=by
    cases u<;>simp_all[store,Sem.run,Value.oneCell']
   simp only[storeCells,aqs,X,ad,aqt];exact ab
  ·rw[a3,auy];rfl
 |[],u::A,_,_,_,_,_,_,_,_,_,_,_,l,_,_,_,_,_=>by have:=l.1;simp at this
 |x::xs,[],_,_,_,_,_,_,_,_,_,_,_,l,_,_,_,_,_=>by have:=l.1;simp at this
variable{st:St}{d:Nat}{ty:TypeId}{pos:String}{af:Array Edge}{gd:Option (Nat×Bool)}{K:St->Prop}
def SS.Zp{t r:TypeId}{x y:Operand}{f c l o:Nat}{n:Nat}(O:st.ev x=.pe f c l o)(L:jm st.h (st.ev y)=some (u,V))(H:aY u f=some (.arr r l i true))(S:i[c]? =some k)
 (X:O_ P t=some (I,n)) (m:cellsOf V=some C) (M:C.length=n) (a0:C.all AV.one=true) (a3:o+n<=l) (B:K ⟨st.n,st.t,(f,some (.arr r l (i.set c (setCells k o C)) true))::u⟩):
 SS P ⟨none,.store t x y,ty,pos,af,gd⟩ st K:=by
 intro w0 a2 e a w next Q h N
 obtain⟨e1,a1,Z⟩:=qN h.sr (h.ev y) L;have s:=h.cA a1;obtain⟨z,Y,v⟩:=vR m Z;have q:=s.ev x;have R:(St.mk st.n st.t u).ev x=.pe f c l o:=by
  cases x<;>exact O
 rw[R]at q;generalize D:a.eval x=g at q;cases q with
 | @pe _ _ _ _ _ b E=>
  obtain⟨td,j,g2,A,_,rfl⟩:=hU X;obtain⟨e',w',h',U,F,J,G,_⟩:=Ga.qL (P:=P) C z o s H E S v (λV m=>aqD.1 a0 V m) (by omega) 0 (c*l+o) rfl;refine sL (w':=w') ?_ (N _ B _ _ _ (F.ky (λj=>by
   by_cases p:j=f
   ·subst p;rw[bc];exact J.symm
   ·rw[a_ p];exact(G j p).symm)))
  have W:z.length=j.size:=by rw[v.1];exact M
  simp[execOp,Instr.storeAt,Instr.sureAddr,D,storeVar,Y,cq w A,W,U]
def OR.vZ{Rd:Nat->Nat->Value->Prop}{k rows':List (List AV)}{wr:Bool}(f:oT k rows')(y:∀c∈rows'.flatten,c.one=true)(h:OR Rd N v e (.arr a t k wr)):OR Rd N v e (.arr a t rows' wr):=by
 obtain⟨l,z,m,n⟩:=h;refine⟨f.wid l,y,m,?_⟩;rcases n with⟨rfl,g,i⟩|⟨b,w,x,o,g,i,p,q,r,s,u⟩
 ·cases f
  exact .inl ⟨rfl,g,i⟩
 ·have j:=f.flat.len
  exact .inr ⟨b,w,x,o,by rw[f.len];exact g,by rw[f.len];exact i,p,q,r,by rw[j];exact f.flat.lr s,by rw[j];exact u⟩
def bX.ae8{A:List (Nat×AV)}{o n:Ob}{h:Hp}(H:∀Rd c w,OR Rd c w t o->OR Rd c w t n):bX P ⟨e,A,(t,some o)::h⟩ ⟨e,A,(t,some n)::h⟩:=by
 intro B x c a w f;have k:∀j,(∃ob,aY ((t,some o)::h) j=some ob)↔∃ob,aY ((t,some n)::h) j=some ob:=λj=>by
  by_cases i:j=t
  ·subst i;simp[aY]
  ·simp[aY,i]
 have y:∀b s u,bF B x c ((t,some o)::h) w b s u↔bF B x c ((t,some n)::h) w b s u:=λb s u=>by
  unfold bF;refine and_congr Iff.rfl (and_congr Iff.rfl ⟨λr j ob g l=>?_,λr j ob g l=>?_⟩)
  ·obtain⟨m,q⟩:=(k j).2 ⟨ob,g⟩
   exact r j m q l
  ·obtain⟨m,q⟩:=(k j).1 ⟨ob,g⟩
   exact r j m q l
 refine⟨c,f.n,f.d,⟨f.sr.ext,f.sr.jG,λj ob g=>?_,λj ob b g l=>?_,λj z ob m b F G C D=>?_,f.sr.tV⟩,f.tr.mono λb o u=>(y b o u).1⟩
 ·refine OR.mono (λb o u=>(y b o u).1) ?_
  by_cases i:j=t
  ·subst i
   rw[bc]at g;cases g;exact H _ _ _ (f.sr.ob j o bc)
  ·rw[a_ i]at g
   exact f.sr.ob j ob (by rw[a_ i];exact g)
 ·obtain⟨v,p⟩:=(k j).2 ⟨ob,g⟩
  exact f.sr.base j v b p l
 ·obtain⟨v,p⟩:=(k j).2 ⟨ob,F⟩
  obtain⟨I,E⟩:=(k z).2 ⟨m,G⟩;exact f.sr.inj j z v I b p E C D
def bX.vZ{n:Nat}{e:List (Nat×AV)}{k:Nat}{t:TypeId}{b:Nat}{a rows':List (List AV)}{wr:Bool}{h:Hp}(g:oT a rows')(f:∀c∈rows'.flatten,c.one=true):
 bX P ⟨n,e,(k,some (.arr t b a wr))::h⟩ ⟨n,e,(k,some (.arr t b rows' wr))::h⟩:=bX.ae8 λ_ _ _ h=>h.vZ g f
def bX.wkT{g:List (Nat×AV)}(h:Wk y V):bX P ⟨e,(t,y)::g,u⟩ ⟨e,(t,V)::g,u⟩:=by
 intro k i b a w c;refine⟨b,c.n,c.d,c.sr,λj=>?_⟩;have:=c.tr j;by_cases f:j=t
 ·subst f
  simp only[bz,aqP]at this⊢;exact h _ _ _ this
 ·simp only[bz,f,aq_]at this⊢
  exact this
end
def iR{hg:Nat->Option dR}{h:Hp}{x:M.cQ}{l:eF}(b:mG hg M F=some (x,l,o))(g:HC hg U h)(j:∀k,o.contains k=true->U.contains k=true)(i:M.w=1/\∀y:M.cQ,bx M y=[encS M y]):
 (∃e,gV h (enc F)=some (bs l++h,e)/\e.one=true/\nk [e] (bx M x))/\Br hg l:=by
 obtain⟨⟨e,c,m⟩,p⟩:=Zf b g j;refine⟨⟨e,c,?_,by rw[i.2];exact .cons m .nil⟩,p⟩;unfold mG at b;split at b
 ·rename_i k
  split at b
  ·rename_i t r A wr v
   split at b
   ·rename_i y f
    simp only[aqg,aqx]at b;obtain⟨rfl,rfl,rfl⟩:=b;obtain⟨B,w⟩:=g k (j k (by simp)) t r _ wr v;simp only[enc,gV,w,aqg,aqx]at c;rw[<-c.2];rfl
   ·cases b
  ·cases b
 ·split at b
  ·rename_i y f
   rw[C2 (Ze f)]at c;simp only[aqg,aqx]at c;rw[<-c.2];clear c m p b g j;cases F with
   |sc z C=>
    obtain⟨rfl,rfl⟩:=c8 f;have:=i.1;cases z with
    |pr a q=>
     have s:=nS (.pr a q) (zeroV (.pr a q)) .un (by rw[i.2];simp[encS]);cases s
    |u=>simp[Sc.w]at this
    |_=>rfl
   |nil=>rfl
   |ts r A=>rfl
   |_=>simp[F9]at f
  ·cases b
def sR{hg:Nat->Option dR}:∀(s:Sc) {h:Hp} {l rest:List EV} {x:s.cQ} {g:eF} {i j:List Nat} (b:ig hg s l=some (x,rest,g,i)) (e:HC hg j h) (f:∀k,i.contains k=true->j.contains k=true),
 (∃C z,l=C++rest/\iA h (bO C)=some (bs g++h,z)/\nk z (bx s x)/\z.all AV.one=true)/\Br hg g
 |.pr a c,h,l,rest,x,g,i,j,b,e,f=>by
  simp only[ig]at b;split at b
  ·rename_i R z A B m
   split at b
   ·rename_i vb N O Q E
    simp only[aqg,aqx]at b;obtain⟨rfl,rfl,rfl,rfl⟩:=b;obtain⟨⟨K,p1,rfl,F,L,H⟩,D⟩:=sR a m e (λk u=>f k (by simp at u⊢;exact .inl u));obtain⟨⟨q0,q1,rfl,G,M,I⟩,J⟩:=sR c E (e.put D λk h=>h) (λk u=>f k (by simp at u⊢;exact .inr u));refine⟨⟨K++q0,p1++q1,by simp,?_,L.append M,by rw[auv,H,I];rfl⟩,λk o p=>?_⟩
    ·rw[kB,fu,aqJ]
     exact FI F G
    ·rcases aqp.1 p with p|p
     ·exact J k o p
     ·exact D k o p
   ·cases b
  ·cases b
 |.u,h,l,rest,x,g,i,j,b,e,f=>by
  simp only[ig,aqg,aqx]at b;obtain⟨-,rfl,rfl,rfl⟩:=b;exact⟨⟨[],[],rfl,rfl,.nil,rfl⟩,λk o p=>by cases p⟩
 |.i k,h,[],rest,x,g,i,j,b,e,f=>by simp[ig]at b
 |.b,h,[],rest,x,g,i,j,b,e,f=>by simp[ig]at b
 |.sl r,h,[],rest,x,g,i,j,b,e,f=>by simp[ig]at b
 |.i k,h,c::l,rest,x,g,i,j,b,e,f=>by
  simp only[ig]at b;split at b
  ·rename_i a A B m
   simp only[aqg,aqx]at b;obtain⟨rfl,rfl,rfl,rfl⟩:=b;obtain⟨⟨q,t,v,y⟩,w⟩:=iR m e f ⟨rfl,λ_=>rfl⟩;exact⟨⟨[c],[q],rfl,u_ t,y,by simp[v]⟩,w⟩
  ·cases b
 |.b,h,c::l,rest,x,g,i,j,b,e,f=>by
  simp only[ig]at b;split at b
  ·rename_i a A B m
   simp only[aqg,aqx]at b;obtain⟨rfl,rfl,rfl,rfl⟩:=b;obtain⟨⟨q,t,v,y⟩,w⟩:=iR m e f ⟨rfl,λ_=>rfl⟩;exact⟨⟨[c],[q],rfl,u_ t,y,by simp[v]⟩,w⟩
  ·cases b
 |.sl r,h,c::l,rest,x,g,i,j,b,e,f=>by
  simp only[ig]at b;split at b
  ·rename_i a A B m
   simp only[aqg,aqx]at b;obtain⟨rfl,rfl,rfl,rfl⟩:=b;obtain⟨⟨q,t,v,y⟩,w⟩:=iR m e f ⟨rfl,λ_=>rfl⟩;exact⟨⟨[c],[q],rfl,u_ t,y,by simp[v]⟩,w⟩
  ·cases b
def qV(h:y.one=true):cellsOf y=some [y]:=by
 cases y<;>first|(simp[AV.one]at h;done)|simp only[cellsOf,h,aqP]
def Ae{hg:Nat->Option dR}{h:Hp}{x:M.cQ}{r:eF}(a:nU hg M F=some (x,r,o))(l:HC hg U h)(m:∀k,o.contains k=true->U.contains k=true):
 (∃b s,jm h (enc F)=some (bs r++h,b)/\cellsOf b=some s/\nk s (bx M x)/\s.all AV.one=true)/\Br hg r:=by
 unfold nU at a;split at a
 ·rename_i w
  split at a
  ·split at a
   ·rename_i y u v q
    simp only[aqg,aqx]at a;obtain⟨rfl,rfl,rfl⟩:=a;obtain⟨⟨t,i,j,c,e,p⟩,f⟩:=sR _ q l m;simp only[aqV]at j;subst j;exact⟨⟨.ag i,i,by simp only[enc,jm,c],rfl,e,p⟩,f⟩
   ·cases a
  ·split at a
   ·rename_i y u v q
    simp only[aqg,aqx]at a;obtain⟨-,rfl,rfl⟩:=a;obtain⟨⟨t,i,j,c,e,p⟩,f⟩:=sR _ q l m;simp only[aqV]at j;subst j;exact⟨⟨.ag i,i,by simp only[enc,jm,c],rfl,e,p⟩,f⟩
   ·cases a
  ·cases a
 ·split at a
  ·cases a
  ·cases a
  ·obtain⟨⟨b,c,g,e⟩,f⟩:=iR a l m ⟨rfl,λ_=>rfl⟩
   exact⟨⟨b,[b],H_ c,qV g,e,by simp[g]⟩,f⟩
  ·obtain⟨⟨b,c,g,e⟩,f⟩:=iR a l m ⟨rfl,λ_=>rfl⟩
   exact⟨⟨b,[b],H_ c,qV g,e,by simp[g]⟩,f⟩
  ·obtain⟨⟨b,c,g,e⟩,f⟩:=iR a l m ⟨rfl,λ_=>rfl⟩
   exact⟨⟨b,[b],H_ c,qV g,e,by simp[g]⟩,f⟩
structure Src where
 r:Sc
 xs:List r.cQ
 tt:Bool
 os:eF
 us:List Nat
def Gc(hg:Nat->Option dR):EV->Option Src
 |.sc (.sl r) xs=>some ⟨r,xs,false,[],[]⟩
 |.ts r xs=>some ⟨r,xs,true,[],[]⟩
 |.ow j=>match hg j with
  |some (.arr t r xs _)=>some ⟨r,xs,false,[(j,some (.arr t r xs false))],[j]⟩
  |_=>none
 |_=>none
def v8{hg:Nat->Option dR}{h:Hp}{s:Src}(b:Gc hg F=some s)(i:HC hg o h)(l:∀k,s.us.contains k=true->o.contains k=true):
 gV h (enc F)=some (bs s.os++h,.sl s.tt s.r.w (List.map (bx s.r) s.xs))/\Br hg s.os/\F≠.un:=by
 unfold Gc at b;split at b
 ·simp only[aqg]at b;subst b
  exact⟨rfl,λk a c=>(by cases c),by intro e;cases e⟩
 ·simp only[aqg]at b;subst b
  exact⟨rfl,λk a c=>(by cases c),by intro e;cases e⟩
 ·rename_i j
  split at b
  ·rename_i t r g wr f
   simp only[aqg]at b;subst b;obtain⟨p,m⟩:=i j (l j (by simp)) t r g wr f;refine⟨?_,?_,by intro e;cases e⟩
   ·simp only[enc,gV,m];rfl
   ·intro k a c
    simp only[aqB,aqx]at c;obtain⟨rfl,rfl⟩:=c;exact⟨t,r,g,wr,f,rfl⟩
  ·cases b
 ·cases b
def jf{α:Type}(xs:List α)(l h:Int):Option (List α):=if 0<=l/\l<=h/\h<=xs.length then some ((xs.take h.toNat).drop l.toNat)else none
def KL{α:Type}(xs:List α)(l h m:Int):Option (List α):=if 0<=l/\l<=h/\h<=m/\m<=xs.length then some ((xs.take h.toNat).drop l.toNat)else none
def qG(ev:Nat->EV)(x:Operand):Option Int:=match ep ev x with
 |.sc (.i _) i=>some i
 |_=>none
def jr{ev:Nat->EV}{x:Operand}(h:qG ev x=some G)(a:Sk ev A):∃k,A.ev x=.v (.int k G):=by
 unfold qG at h;split at h
 ·rename_i k c b
  cases h;exact⟨k,a.is b (by intro e;cases e)⟩
 ·cases h
def C5:Operand->Operand->Bool
 |.tmp i,.tmp j=>Nat.beq i j
 |.const (.int _ a),.const (.int _ b)=>decide (a=b)
 |_,_=>false
def aii:Option Operand->Operand->Bool
 |some x,y=>C5 x y
 |none,_=>false
def zg{ev:Nat->EV}(h:C5 b g=true)(c:qG ev b=some G)(a:qG ev g=some W):G=W:=by
 unfold C5 at h;split at h
 ·have:=aqj h
  subst this;rw[c]at a;exact aql a
 ·simp[qG,ep,cvE]at c a h
  rw[<-c,<-a,h]
 ·cases h
def loE(ev:Nat->EV):Option Operand->Option Int
 |none=>some 0
 |some x=>qG ev x
def hiE(ev:Nat->EV)(n:Nat):Option Operand->Option Int
 |none=>some (n:Int)
 |some x=>qG ev x
def Zq{ev:Nat->EV}(h:loE ev J=some G)(c:Sk ev A)(a:0<=G):qz A 0 J=some G.toNat:=by
 cases J with
 |none=>simp only[loE,aqg]at h;subst h;rfl
 |some x=>
  obtain⟨k,b⟩:=jr (x:=x) h c;simp only[qz,b,a,aqP]
def Zr{ev:Nat->EV}{n:Nat}(h:hiE ev n J=some G)(c:Sk ev A)(a:0<=G):qz A n J=some G.toNat:=by
 cases J with
 |none=>simp only[hiE,aqg]at h;subst h;simp[qz]
 |some x=>
  obtain⟨k,b⟩:=jr (x:=x) h c;simp only[qz,b,a,aqP]
def Im(T:TypeId->bj)(ev:Nat->EV)(hg:Nat->Option dR)(t:TypeId)(x:Operand)(lo hi mx:Option Operand){R:Type}(k:EV->eF->List Nat->Option R):Option R:=
 match Gc hg (ep ev x)with
 |some s=>match(T t).el with
  |some (_,sz,_,_)=>cond (Nat.beq sz s.r.w) (match loE ev lo with
   |some l=>match hiE ev s.xs.length hi with
    |some h=>match mx with
     |none=>aW (jf s.xs l h) λys=>k (cond (s.tt && hi.isNone) (.ts s.r ys) (.sc (.sl s.r) ys)) s.os s.us
     |some m=>cond (aii hi m) (match qG ev m with
      |some _=>aW (jf s.xs l h) λys=>k (.ts s.r ys) s.os s.us
      |none=>none) (match hi with
      |none=>none
      |some _=>match qG ev m with
       |some mm=>aW (KL s.xs l h mm) λys=>cond (decide (h=mm)) (k (.ts s.r ys) s.os s.us) none
       |none=>none)
    |none=>none
   |none=>none) none
  |none=>none
 |none=>none
section
variable{P:Program}{T:TypeId->bj}{ev:Nat->EV}{hg:Nat->Option dR}{n d:Nat}{ty:TypeId}{pos:String}{af:Array Edge}{gd:Option (Nat×Bool)}
def SS.lB{c a b:St}(h:SS P R c λs=>s=a)(e:bX P a b):SS P R c λs=>s=b:=h.mono λs f=>by subst f;exact⟨_,e,rfl⟩
def PB(Q:f_ P T){R:Type}{k:EV->eF->List Nat->Option R}{r:R}{F t x:Option Operand}(w:d<n)(h:Im T ev hg a b F t x k=some r):
 ∃c J L,FS P ⟨some d,.slice a b F t x,ty,pos,af,gd⟩ n ev hg c J L .no/\k c J L=some r:=by
 unfold Im at h;split at h
 ·rename_i s Z
  split at h
  ·rename_i e sz a0 z S
   obtain⟨I,u⟩:=aX h;clear h;have hw:=aqj I;clear I;subst hw;have h:=u;clear u;split at h
   ·rename_i l U
    split at h
    ·rename_i j B
     have G:∀(m:Option Int) (A:List s.r.cQ) (c:EV),(0<=l/\l<=j/\j<=s.xs.length)->A=(s.xs.take j.toNat).drop l.toNat->(∀i,m=some i->j<=i/\i<=s.xs.length)->(∀st,Sk ev st->mxA st x=some (m.map Int.toNat))->(x.isSome=true->t.isSome=true)->
      Wk (uY s.tt (List.map (bx s.r) s.xs) s.r.w l.toNat j.toNat (m.map Int.toNat)) (enc c)->FS P ⟨some d,.slice a b F t x,ty,pos,af,gd⟩ n ev hg c s.os s.us .no:=by
      intro m A c q g V Y X E st hn p O hf;obtain⟨M,h2,N⟩:=v8 Z O.hc λ_ h=>h;have hx:=p.is rfl N;have:=SS.slice (P:=P) (ty:=ty) (pos:=pos) (af:=af) (gd:=gd) (d:=d) (h':=bs s.os++st.h) (tt:=s.tt) (rows:=List.map (bx s.r) s.xs) (l:=l.toNat) (h:=j.toNat) (m:=m.map Int.toNat) (K:=λs'=>s'=⟨st.n,(d,uY s.tt (List.map (bx s.r) s.xs) s.r.w l.toNat j.toNat (m.map Int.toNat))::st.t,bs s.os++st.h⟩)
       (Q.el _ _ S) (by rw[hx];exact M) (Zq U p q.1) (by rw[aqn];exact Zr B p (by omega)) (Y st p) X (by omega) (by rw[aqn];omega) (by
        intro y hy;obtain⟨i,v,rfl⟩:=aqL.1 hy;have:=V i v;rw[aqn];omega) (by omega) rfl
      exact this.lB (bX.wkT E)
     have H:∀f:Bool,AV.sl f s.r.w (((List.map (bx s.r) s.xs).take j.toNat).drop l.toNat)=.sl f s.r.w (List.map (bx s.r) ((s.xs.take j.toNat).drop l.toNat)):=λf=>by
      rw[<-asD,<-asY]
     split at h
     ·obtain⟨A,g,o⟩:=bf h
      unfold jf at g;split at g
      ·rename_i q
       cases g;refine⟨_,_,_,G none _ _ q rfl (by simp) (λst p=>rfl) (by simp) ?_,o⟩;unfold uY;rw[H];simp only[asa,uX,aqn];cases a2:s.tt with
       |false=>
        simp only[Bool.false_and];exact Wk.refl _
       |true=>
        cases t with
        |none=>
         simp only[hiE,aqg]at B;subst B;simp only[aqo,atN,Bool.true_and,Option.isNone_none];exact Wk.refl _
        |some y=>
         simp only[Bool.true_and,Option.isNone_some];cases a1:j.toNat==s.xs.length with
         |true=>exact Wk.tight
         |false=>exact Wk.refl _
      ·cases g
     ·rename_i m
      rcases bD h with⟨C,h⟩|⟨C,h⟩
      ·split at h
       ·rename_i i v
        obtain⟨A,g,o⟩:=bf h;unfold jf at g;split at g
        ·rename_i q
         cases g;have W:i=j:=by
          cases t with
          |none=>cases C
          |some y=>exact(zg C B v).symm
         subst W;refine⟨_,_,_,G (some i) _ _ q rfl (by rintro y ⟨⟩;omega) (λst p=>?_) (λ_=>by cases t with|none=>cases C|some y=>rfl) ?_,o⟩
         ·obtain⟨kk,D⟩:=jr v p
          have u:0<=i:=by omega
          simp[mxA,qz,D,u]
         ·unfold uY
          rw[H];simp only[art,uX,atN];exact Wk.refl _
        ·cases g
       ·cases h
      ·split at h
       ·cases h
       ·rename_i y
        split at h
        ·rename_i i v
         obtain⟨A,g,o⟩:=bf h;unfold KL at g;split at g
         ·rename_i q
          cases g;have mk:=λc E=>G (some i) _ c ⟨q.1,q.2.1,by omega⟩ rfl (by rintro y ⟨⟩;omega) (λst p=>by
           obtain⟨kk,D⟩:=jr v p;have u:0<=i:=by omega
           simp[mxA,qz,D,u]) (λ_=>rfl) E
          rcases bD o with⟨w,o⟩|⟨w,o⟩
          ·refine⟨_,_,_,mk (.ts s.r _) ?_,o⟩
           have w:j=i:=by simpa using w
           subst w;unfold uY;rw[H];simp only[art,uX,atN];exact Wk.refl _
          ·cases o
         ·cases g
        ·cases h
    ·cases h
   ·cases h
  ·cases h
 ·cases h
end
def qS.x{d:Nat}{a:St}(b:qS (.one d) a)(x:Operand):(a.ev x).fX (λk=>k==d)=true:=by
 cases x with
 |tmp i=>exact b.t i
 |const v=>show(lj v).fX _=true;unfold lj;split<;>rfl
 |global g=>show(gA g).fX _=true;unfold gA;split<;>rfl
 |func f=>rfl
def KM(h:cellsOf y=some k)(a:y.fX Y=true):AV.lT Y k=true:=by
 cases y with
 |ag l=>simp only[cellsOf,aqg]at h;subst h;simpa[AV.fX]using a
 |_=>
  simp only[cellsOf]at h;split at h
  ·simp only[aqg]at h;subst h;simp[AV.lT,a]
  ·cases h
def oX{d:Nat}:∀{a:List AV},AV.lT (λk=>k==d) a=true->a.map (AV.kill d)=a
 |[],_=>rfl
 |c::a,h=>by
  simp only[AV.lT,aqe]at h;rw[aqz,nQ h.1,oX h.2]
def qW{hg:Nat->Option dR}(d:Nat):∀{os:eF} {h:Hp},Br hg os->bh d (bs os++h)=bs os++bh d h
 |[],h,_=>rfl
 |(k,o)::os,h,a=>by
  obtain⟨t,r,f,wr,e,rfl⟩:=a k o (by simp);have c:=qW d (os:=os) (h:=h) λk o b=>a k o (by simp[b]);simp only[bs,arw,bh,c];rfl
def ae9(p:Nat->Bool)(v:Value):(lj v).fX p=true:=by unfold lj;split<;>rfl
def KN(p:Nat->Bool):∀z:List Value,AV.lT p (z.map lj)=true
 |[]=>rfl
 |v::z=>by simp only[aqz,AV.lT,ae9,KN p z];rfl
def qI(a:Int)(b:Nat):Option Nat:=if 0<=a/\b*a.toNat<=140737488355328/\a.toNat<=maxLen then some a.toNat else none
def eC{α:Type}(b:Nat)(xs ys:List α):Option (List α):=if(xs.length+ys.length)*b<=140737488355328/\xs.length+ys.length<=maxLen then some (xs++ys)else none
def oY{α:Type}:List α->Bool
 |[]=>true
 |_::_=>false
def zh(ev:Nat->EV)(hg:Nat->Option dR)(r:Sc):Nat->List (Nat×Operand)->Option (List r.cQ×eF×List Nat)
 |_,[]=>some ([],[],[])
 |j,(i,x)::ps=>cond (Nat.beq i j) (match nU hg r (ep ev x)with
  |some (v,os,us)=>match zh ev hg r (j+1) ps with
   |some (vs,os2,us2)=>some (v::vs,os2++os,us++us2)
   |none=>none
  |none=>none) none
def Zs(T:TypeId->bj)(ev:Nat->EV)(hg:Nat->Option dR)(d:Nat)(t:TypeId)(len:Nat)(parts:List (Nat×Operand)){R:Type}(k:EV->eF->List Nat->Fr->Option R):Option R:=
 match len with
 |0=>match parts with
  |[]=>match(T t).el with
   |some (_,sz,_,_)=>cond (Nat.blt 0 sz) (k .nil [] [] .no) none
   |none=>none
  |_=>none
 |m+1=>match(T t).el with
  |some (e,sz,_,_)=>match(T t).co with
   |some r=>match zh ev hg r 0 parts with
    |some (vs,os,us)=>cond (Nat.beq sz r.w && Nat.beq vs.length (m+1) && Nat.ble ((m+1)*sz) 16777216 && Nat.blt 0 sz) (k (.ow d) ((d,some (.arr e r vs true))::os) us (.one d)) none
    |none=>none
   |none=>none
  |none=>none
def PC(T:TypeId->bj)(ev:Nat->EV)(hg:Nat->Option dR)(d:Nat)(t:TypeId)(len:Nat)(parts:List (Nat×Operand)){R:Type}(k:EV->eF->List Nat->Fr->Option R):Option R:=
 match len with
 |0=>none
 |m+1=>match(T t).el with
  |some (e,sz,_,_)=>match(T t).co with
   |some r=>match zh ev hg r 0 parts with
    |some (vs,os,us)=>cond (Nat.beq sz r.w && Nat.beq vs.length (m+1) && Nat.ble ((m+1)*sz) 16777216 && Nat.blt 0 sz) (k (.ts r vs) os us .no) none
    |none=>none
   |none=>none
  |none=>none
def C6(T:TypeId->bj)(ev:Nat->EV)(hg:Nat->Option dR)(d:Nat)(t:TypeId)(x y:Operand){R:Type}(k:EV->eF->List Nat->Fr->Option R):Option R:=
 match(T t).el with
 |some (e,sz,b,_)=>match Gc hg (ep ev y)with
  |some s=>cond (Nat.beq sz s.r.w && Nat.blt 0 sz) (match ep ev x with
   |.nil=>aW (eC b [] s.xs) λzs=>k (.ow d) ((d,some (.arr e s.r zs true))::s.os) s.us (.one d)
   |.ts r xs=>match ec (.sl r) (.sl s.r) xs with
    |some xs'=>cond (oY s.xs) none (aW (eC b (show List s.r.cQ from xs') s.xs) λzs=>k (.ow d) ((d,some (.arr e s.r zs true))::s.os) s.us (.one d))
    |none=>none
   |.ow j=>match hg j with
    |some (.arr e' r xs wr)=>match ec (.sl r) (.sl s.r) xs with
     |some xs'=>cond (Nat.beq e e' && !(s.us.contains j) && !(Nat.beq d j)) (aW (eC b (show List s.r.cQ from xs') s.xs) λzs=>k (.ow d) ((d,some (.arr e s.r zs wr))::(j,none)::s.os) (j::s.us) (.one d)) none
     |none=>none
    |_=>none
   |_=>none) none
  |none=>none
 |none=>none
def WJ(s:Sc)(c:EV):Option s.cQ:=match s with
 |.i k=>match c with
  |.sc s' x=>ec s' (.i k) x
  |_=>none
 |.b=>match c with
  |.sc s' x=>ec s' .b x
  |_=>none
 |.pr a b2=>match c with
  |.ag cs=>cond (Sc.key (.pr a b2)) (match Ps (.pr a b2) cs with
   |some (x,[])=>some x
   |_=>none) none
  |_=>none
 |_=>none
def RP{x:M.cQ}(h:WJ M F=some x):enc F=enc (iL M x)/\(enc F).fz=false\/enc F=enc (iL M x)/\(enc F).fz=true:=by
 have:enc F=enc (iL M x):=by
  unfold WJ at h;split at h
  ·split at h
   ·obtain⟨rfl,rfl⟩:=c8 h;rfl
   ·cases h
  ·split at h
   ·obtain⟨rfl,rfl⟩:=c8 h;rfl
   ·cases h
  ·split at h
   ·obtain⟨e,a⟩:=aX h
    split at a
    ·rename_i j f
     cases a;obtain⟨g,b,c⟩:=zf _ f e;rw[aqV]at b;subst b;simp only[enc,iL,c,gi]
    ·cases a
   ·cases h
  ·cases h
 cases i:(enc F).fz with
 |true=>exact .inr ⟨this,rfl⟩
 |false=>exact .inl ⟨this,rfl⟩
def Ge{h:Hp}:∀{cs:List AV},(∀c∈cs,c.fz=true)->iA h cs=some (h,cs)
 |[],_=>rfl
 |c::cs,a=>by
  have e:=Ge (h:=h) (cs:=cs) λc b=>a c (by simp[b]);simp only[iA,C2 (a c (by simp)),e]
def C7{h:Hp}(s:Sc)(x:s.cQ):jm h (enc (iL s x))=some (h,enc (iL s x)):=by
 cases s with
 |pr a b=>
  simp only[iL,enc,gi,jm,Ge (H9 (.pr a b) x)]
 |u=>rfl
 |_=>rfl
def qX(hg:Nat->Option dR)(c:EV):(r:Sc)->r.cQ->Nat->Nat->Option (r.cQ×eF×List Nat)
 |.pr a b2,x,o,m=>cond (Nat.beq o 0 && Nat.beq m (a.w+b2.w)) (nU hg (.pr a b2) c) (cond (Nat.blt o a.w) (match qX hg c a x.1 o m with
  |some (y,os,us)=>some ((y,x.2),os,us)
  |none=>none) (match qX hg c b2 x.2 (o - a.w) m with
  |some (y,os,us)=>some ((x.1,y),os,us)
  |none=>none))
 |.i k,_,o,m=>cond (Nat.beq o 0 && Nat.beq m 1) (nU hg (.i k) c) none
 |.b,_,o,m=>cond (Nat.beq o 0 && Nat.beq m 1) (nU hg .b c) none
 |.sl r,_,o,m=>cond (Nat.beq o 0 && Nat.beq m 1) (nU hg (.sl r) c) none
 |.u,_,_,_=>none
def gY:∀(xs a b:List AV) (o:Nat),o+xs.length<=a.length->setCells (a++b) o xs=setCells a o xs++b
 |[],a,b,o,h=>rfl
 |x::xs,a,b,o,h=>by
  simp only[aqC]at h;simp only[setCells];rw[avb _ _ (by omega)];exact gY xs _ b (o+1) (by simp;omega)
def fc:∀(c a b:List AV) (o:Nat),a.length<=o->setCells (a++b) o c=a++setCells b (o - a.length) c
 |[],a,b,o,h=>rfl
 |x::c,a,b,o,h=>by
  simp only[setCells];rw[atM _ _ h,fc c a _ (o+1) (by omega)];congr 2;omega
def oZ:∀(b a:List AV),b.length=a.length->setCells a 0 b=b
 |[],[],_=>rfl
 |x::b,y::a,h=>by
  simp only[setCells,atm];have:=fc b [x] a 1 (by simp);simp only[arM,aso,atO,aqN]at this⊢;rw[this,oZ b a (by simpa using h)]
def afa{hg:Nat->Option dR}{h:Hp}(K:HC hg o h):∀(r:Sc) (x:r.cQ) (c m:Nat) {y:r.cQ} {l:eF} {s:List Nat},qX hg F r x c m=some (y,l,s)->(∀k,s.contains k=true->o.contains k=true)->
 (∃q f,jm h (enc F)=some (bs l++h,q)/\cellsOf q=some f/\f.all AV.one=true/\f.length=m/\c+m<=r.w/\nk (setCells (bx r x) c f) (bx r y))/\Br hg l:=by
 have B:∀(r:Sc) (x:r.cQ) (c m:Nat) {y:r.cQ} {l:eF} {s:List Nat},Nat.beq c 0=true->Nat.beq m r.w=true->nU hg r F=some (y,l,s)->(∀k,s.contains k=true->o.contains k=true)->
  (∃q f,jm h (enc F)=some (bs l++h,q)/\cellsOf q=some f/\f.all AV.one=true/\f.length=m/\c+m<=r.w/\nk (setCells (bx r x) c f) (bx r y))/\Br hg l:=by
  intro r x c m y l s e g L p;have e:=aqj e;have g:=aqj g;subst e g;obtain⟨⟨q,f,w,z,v,A⟩,D⟩:=Ae L K p;have J:f.length=r.w:=by rw[<-v.len,eH]
  refine⟨⟨q,f,w,z,A,J,by omega,?_⟩,D⟩;rw[oZ f _ (by rw[eH];exact J)];exact v
 intro r
 induction r with
 |pr a U N O=>
  intro x c m y l s j p;simp only[qX]at j;rcases bD j with⟨e,g⟩|⟨e,g⟩
  ·simp only[aqe]at e
   exact B _ x c m e.1 e.2 g p
  ·rcases bD g with⟨H,t⟩|⟨H,t⟩
   ·split at t
    ·rename_i S Q R I
     simp only[aqg,aqx]at t;obtain⟨rfl,rfl,rfl⟩:=t;obtain⟨⟨q,f,w,z,v,A,D,E⟩,G⟩:=N x.1 c m I p;refine⟨⟨q,f,w,z,v,A,by simp only[Sc.w];omega,?_⟩,G⟩;simp only[bx];rw[gY _ _ _ _ (by rw[eH];omega)];exact E.append (nk.refl _)
    ·cases t
   ·split at t
    ·rename_i S Q R I
     simp only[aqg,aqx]at t;obtain⟨rfl,rfl,rfl⟩:=t;have V:a.w<=c:=by
      cases C:Nat.blt c a.w with
      |true=>rw[C]at H;cases H
      |false=>
       have:¬c<a.w:=λM=>by
        have:=auz M;rw[show Nat.blt c a.w=Nat.ble (c+1) a.w from rfl]at C;rw[this]at C;cases C
       omega
     obtain⟨⟨q,f,w,z,v,A,D,E⟩,G⟩:=O x.2 (c - a.w) m I p;refine⟨⟨q,f,w,z,v,A,by simp only[Sc.w];omega,?_⟩,G⟩;simp only[bx];rw[fc _ _ _ _ (by rw[eH];omega),eH];exact(nk.refl _).append E
    ·cases t
 |i k=>
  intro x c m y l s j p;simp only[qX]at j;obtain⟨e,g⟩:=aX j;simp only[aqe]at e;exact B _ x c m e.1 e.2 g p
 |b=>
  intro x c m y l s j p;simp only[qX]at j;obtain⟨e,g⟩:=aX j;simp only[aqe]at e;exact B _ x c m e.1 e.2 g p
 |sl r W=>
  intro x c m y l s j p;simp only[qX]at j;obtain⟨e,g⟩:=aX j;simp only[aqe]at e;exact B _ x c m e.1 e.2 g p
 |u=>
  intro x c m y l s j p;simp[qX]at j
def Zt:Option (Int×Option Nat)->Int->Bool
 |none,_=>true
 |some (i0,_),i=>decide (i.toNat=i0.toNat)
def Io(T:TypeId->bj)(ev:Nat->EV)(hg:Nat->Option dR)(t:TypeId)(x y:Operand){R:Type}(k:eF->List Nat->Option R):Option R:=
 match(T t).ty with
 |some (_,m)=>match ep ev x with
  |.pt j o=>match hg j with
   |some (.box bt cs)=>match nq (ep ev y)with
    |some xs=>cond (!(Nat.beq bt CC) && Nat.beq xs.length m && Nat.ble (o+m) cs.length && (bO xs).all AV.one && owE hg (ep ev y) && xs.all (owE hg)) (k [(j,some (.box bt (nV cs o xs)))] (j::owU (ep ev y)++xs.flatMap owU)) none
    |none=>none
   |_=>none
  |.pe j i sz o=>match hg j with
   |some (.arr bt r xs true)=>cond (Nat.beq sz r.w) (aW (aZ xs i) λa=>match qX hg (ep ev y) r a o m with
    |some (a',os,us)=>cond (us.contains j) none (k ((j,some (.arr bt r (xs.set i.toNat a') true))::os) (j::us))
    |none=>none) none
   |some (.nr bt r xs ho)=>cond (Nat.beq sz 1 && Nat.beq o 0 && Nat.beq m 1) (match ep ev y with
    |.ow p=>match hg p with
     |some (.arr _ _ _ _)=>cond (Zt ho i) (aW (aZ xs i) λ_=>k [(j,some (.nr bt r xs (some (i,some p))))] [j,p]) none
     |_=>none
    |_=>none) none
   |_=>none
  |_=>none
 |none=>none
def v_(T:TypeId->bj)(ev:Nat->EV)(hg:Nat->Option dR)(t:TypeId)(x y v:Operand){R:Type}(k:eF->List Nat->Option R):Option R:=
 match ep ev x with
 |.mp j=>match hg j with
  |some (.mp d kc vc es)=>match(T t).mp with
   |some (td,_)=>match Ij kc (ep ev y)with
    |some a=>match WJ vc (ep ev v)with
     |some b=>cond (kC d kc && kC td kc) (k [(j,some (.mp d kc vc (dI kc es a b)))] [j]) none
     |none=>none
    |none=>none
   |none=>none
  |_=>none
 |_=>none
def aij:List Value->Bool
 |[.slice none 0 0]=>true
 |_=>false
def C8(T:TypeId->bj)(ev:Nat->EV)(d:Nat)(t:TypeId)(x y:Operand){R:Type}(k:EV->eF->List Nat->Fr->Option R):Option R:=
 match(T t).el with
 |some (e,sz,b,z)=>match(T t).co with
  |some (.sl r)=>cond (Nat.beq sz 1 && C5 x y && aij z) (match qG ev x with
   |some a=>match qG ev y with
    |some _=>aW (qI a b) λm=>k (.ow d) [(d,some (.nr e r (List.replicate m ([]:List r.cQ)) none))] [] (.one d)
    |none=>none
   |none=>none) none
  |_=>none
 |none=>none
def Zu(T:TypeId->bj)(ev:Nat->EV)(hg:Nat->Option dR)(t:TypeId)(j o:Nat)(lo hi mx:Option Operand){R:Type}(k:EV->List Nat->Option R):Option R:=
 match(T t).ar with
 |some (n,_,sz)=>match hg j with
  |some (.arr _ r xs _)=>cond (Nat.beq o 0 && Nat.beq sz r.w && mx.isNone && Nat.ble n 1000000) (match loE ev lo with
   |some l=>match hiE ev n hi with
    |some h=>aW (jf (List.replicate n ()) l h) λ_=>k (.sw j l (h - l) sz) [j]
    |none=>none
   |none=>none) none
  |_=>none
 |none=>none
def WK(r:Sc):Nat->List Value->Bool
 |0,z=>z.isEmpty
 |n+1,z=>match qF r z with
  |some z'=>WK r n z'
  |none=>false
def exM(T:TypeId->bj)(ev:Nat->EV)(hg:Nat->Option dR)(d:Nat)(op:Op){R:Type}(k:EV->eF->List Nat->Fr->Option R):Option R:=
 match op with
 |.box t x=>match nq (ep ev x)with
  |some cs=>cond (!(Nat.beq t CC) && owE hg (ep ev x)) (k (.pt d 0) [(d,some (.box t cs))] (owU (ep ev x)) (.one d)) none
  |none=>none
 |.alloc t=>cond (!(Nat.beq t CC)) (match(T t).ze with
  |some z=>match(T t).ar with
   |some (n,_,sz)=>cond (Nat.ble n 3) (k (.pt d 0) [(d,some (.box t (z.map cvE)))] [] (.one d)) (match(T t).co with
    |some r=>cond (Nat.beq sz r.w && WK r n z && Nat.ble n 1000000) (k (.pt d 0) [(d,some (.arr t r (List.replicate n (zeroV r)) true))] [] (.one d)) none
    |none=>none)
   |none=>k (.pt d 0) [(d,some (.box t (z.map cvE)))] [] (.one d)
  |none=>none) none
 |.makeSlice t x y=>match(T t).el with
  |some (e,sz,b,z)=>match(T t).co with
   |some r=>cond (Nat.beq sz r.w && Nat.blt 0 sz && C5 x y) (match qF r z with
    |some []=>match qG ev x with
     |some a=>match qG ev y with
      |some _=>aW (qI a b) λm=>k (.ow d) [(d,some (.arr e r (List.replicate m (zeroV r)) true))] [] (.one d)
      |none=>none
     |none=>none
    |_=>none) none
   |none=>none
  |none=>none
 |.makeMap t none=>match(T t).mp with
  |some (td,_)=>match(T t).kv with
   |some (kc,vc)=>cond (kC td kc) (k (.mp d) [(d,some (.mp td kc vc []))] [] (.one d)) none
   |none=>none
  |none=>none
 |.slice t x lo hi mx=>match ep ev x with
  |.pt j o=>Zu T ev hg t j o lo hi mx λc us=>k c [] us .no
  |_=>Im T ev hg t x lo hi mx λc os us=>k c os us .no
 |.buildSlice t len parts=>Zs T ev hg d t len parts.toList k
 |.call ⟨.builtin .append,⟨[x,y]⟩,⟨[t,t']⟩⟩=>cond (Nat.beq t t') (C6 T ev hg d t x y k) none
 |_=>none
section
variable{P:Program}{T:TypeId->bj}{ev:Nat->EV}{hg:Nat->Option dR}{n d:Nat}{ty:TypeId}{pos:String}{af:Array Edge}{gd:Option (Nat×Bool)}
def FS.box{t:TypeId}{x:Operand}{b:List EV}(o:t≠CC)(p:d<n)(c:nq (ep ev x)=some b)(l:owE hg (ep ev x)=true):
 FS P ⟨some d,.box t x,ty,pos,af,gd⟩ n ev hg (.pt d 0) [(d,some (.box t b))] (owU (ep ev x)) (.one d):=by
 intro a q m j g;have i:a.ev x=enc (ep ev x):=m.is rfl (λe=>by rw[e]at c;simp[nq,enc,AV.one]at c);have f:=zd c;rw[<-i]at f;have k:=oX (KM f (g.x x));have:=SS.box (P:=P) (t:=t) (ty:=ty) (pos:=pos) (af:=af) (gd:=gd) (d:=d) (K:=λs=>s=⟨a.n,jq (some d) (.pt d 0) (cP d a.t),bs [(d,some (.box t b))]++bh d a.h⟩) o f (by rw[i];exact Ih l j λ_ h=>h) (by omega) (by rw[k];rfl);exact SS.fresh g.t g.h this
def FS.alloc(c:f_ P T){t:TypeId}{z:List Value}(f:t≠CC)(i:d<n)(g:(T t).ze=some z):
 FS P ⟨some d,.alloc t,ty,pos,af,gd⟩ n ev hg (.pt d 0) [(d,some (.box t (z.map cvE)))] [] (.one d):=by
 intro a j l h b;have e:=oX (KN (λk=>k==d) z);have:=SS.alloc (P:=P) (st:=a) (t:=t) (ty:=ty) (pos:=pos) (af:=af) (gd:=gd) (d:=d) (K:=λs=>s=⟨a.n,jq (some d) (.pt d 0) (cP d a.t),bs [(d,some (.box t (z.map cvE)))]++bh d a.h⟩) f (c.ze _ _ g) (by omega) (by rw[e];simp only[bs,Option.map,bS,KE];rfl);exact SS.fresh b.t b.h this
def oT.rep{a c:List AV}(h:nk a c):∀m,oT (List.replicate m a) (List.replicate m c)
 |0=>.nil
 |m+1=>.cons h (oT.rep h m)
def eD(r:Sc)(e:List r.cQ):∀c∈(List.map (bx r) e).flatten,c.one=true:=by
 intro c a;obtain⟨l,b,a⟩:=ase.1 a;obtain⟨x,_,rfl⟩:=aqq.1 b;exact nS r x c a
def FS.make(w:f_ P T){t e:TypeId}{x y:Operand}{g b:Nat}{z:List Value}{r:Sc}{a:Int}{m:Nat}(J:d<n)(A:(T t).el=some (e,g,b,z))(B:g=r.w)(v:0<g)(F:qF r z=some [])(D:qG ev x=some a)(E:qG ev y=some a)(c:qI a b=some m):
 FS P ⟨some d,.makeSlice t x y,ty,pos,af,gd⟩ n ev hg (.ow d) [(d,some (.arr e r (List.replicate m (zeroV r)) true))] [] (.one d):=by
 intro f L o I l;unfold qI at c;split at c
 ·rename_i k
  cases c;obtain⟨O,i,p,q,u⟩:=mH r F;rw[aqV]at i;subst i;obtain⟨M,G⟩:=jr D o;obtain⟨N,H⟩:=jr E o;have j:((a.toNat:Nat):Int)=a:=by omega
  have:=SS.make (P:=P) (t:=t) (ty:=ty) (pos:=pos) (af:=af) (gd:=gd) (d:=d) (n:=a.toNat) (K:=λs=>s=⟨f.n,jq (some d) (.ow d) (cP d f.t),[(d,some (.arr e g (List.replicate a.toNat (z.map lj)) true))]++bh d f.h⟩) (w.el _ _ A) (by rw[j];exact G) (by rw[j];exact H) k.2.1 k.2.2 q u v (by omega) rfl;refine(SS.fresh l.t l.h this).lB ?_;subst B;have C:=oT.rep p a.toNat;refine bX.vZ (h:=f.h) (rows':=List.map (bx r) (List.replicate a.toNat (zeroV r))) ?_ (eD r _);rw[auA];exact C
 ·cases c
def wa(c:AV):∀m:Nat,(List.replicate m [c]).flatten=List.replicate m c
 |0=>rfl
 |m+1=>by rw[arK,aqR,wa c m];rfl
def afc(h:aij s=true):s=[.slice none 0 0]:=by
 unfold aij at h;split at h
 ·rfl
 ·cases h
def KQ(F:f_ P T){R:Type}{k:EV->eF->List Nat->Fr->Option R}{r:R}(S:d<n)(h:C8 T ev d a b g k=some r):
 ∃e B C q,FS P ⟨some d,.makeSlice a b g,ty,pos,af,gd⟩ n ev hg e B C q/\k e B C q=some r:=by
 unfold C8 at h;split at h
 ·rename_i e X f z G
  split at h
  ·rename_i M Q
   obtain⟨t,i⟩:=aX h;simp only[aqe]at t;obtain⟨⟨o,D⟩,p⟩:=t;have o:=aqj o;have p:=afc p;subst o;subst p;split at i
   ·rename_i c u
    split at i
    ·rename_i N v
     obtain⟨m,j,H⟩:=bf i;obtain rfl:=zg D u v;refine⟨_,_,_,_,λl U A O y=>?_,H⟩;unfold qI at j;split at j
     ·rename_i x
      cases j;obtain⟨V,J⟩:=jr u A;obtain⟨W,L⟩:=jr v A;have w:((c.toNat:Nat):Int)=c:=by omega
      have:=SS.make (P:=P) (t:=a) (ty:=ty) (pos:=pos) (af:=af) (gd:=gd) (d:=d) (n:=c.toNat) (K:=λs=>s=⟨l.n,jq (some d) (.ow d) (cP d l.t),[(d,some (.arr e 1 (List.replicate c.toNat ([Value.slice none 0 0].map lj)) true))]++bh d l.h⟩) (F.el _ _ G) (by rw[w];exact J) (by rw[w];exact L) x.2.1 x.2.2 rfl rfl (by omega) (by omega) rfl;refine(SS.fresh y.t y.h this).lB ?_;refine bX.ae8 (h:=l.h) λRd e0 Y I=>?_;have:=I.aia;have E:(List.replicate c.toNat ([Value.slice none 0 0].map lj)).flatten=u9 M (List.replicate c.toNat []) none:=by
       show(List.replicate c.toNat [AV.sl true 0 []]).flatten=_;rw[wa,u9,auA];rfl
      rw[E]at this;exact this
     ·cases j
    ·cases i
   ·cases i
  ·cases h
 ·cases h
def RQ{r:Sc}:∀{n:Nat} {z:List Value},WK r n z=true->∃a:List (List Value),a.length=n/\a.flatten=z/\oT (a.map (List.map lj)) (List.replicate n (bx r (zeroV r)))/\∀y∈a,y.all (λv=>(lj v).one)=true
 |0,z,h=>by
  have:z=[]:=by simpa[WK]using h
  subst this;exact⟨[],rfl,rfl,.nil,λy b=>(by cases b)⟩
 |n+1,z,h=>by
  simp only[WK]at h;split at h
  ·rename_i o k
   obtain⟨l,rfl,c,m,e⟩:=mH r k;obtain⟨a,f,g,i,j⟩:=RQ h;refine⟨l::a,by simp[f],by simp[g],?_,λy b=>?_⟩
   ·rw[aqz,arK]
    exact .cons c i
   ·rcases aqG.1 b with rfl|b
    ·exact e
    ·exact j y b
  ·cases h
def FS.CZ(A:f_ P T){t:TypeId}{z:List Value}{m e:Nat}{r:Sc}(Q:d<n)(L:(T t).ze=some z)(o:e=r.w)(B:WK r m z=true)(R:m<=1000000):
 FS P ⟨some d,.alloc t,ty,pos,af,gd⟩ n ev hg (.pt d 0) [(d,some (.arr t r (List.replicate m (zeroV r)) true))] [] (.one d):=by
 intro g S I O l;obtain⟨i,p,u,k,w⟩:=RQ B;have E:(i.map (List.map lj)).flatten=z.map lj:=by rw[<-u,List.map_flatten]
 have F:∀q∈i.map (List.map lj),q.length=e:=by
  have N:∀{a c:List (List AV)},oT a c->(∀x∈c,x.length=e)->∀x∈a,x.length=e:=by
   intro a c C
   induction C with
   |nil=>intro _ x b;cases b
   |cons h I M=>
    intro f x b;rcases aqG.1 b with rfl|b
    ·rw[<-h.len];exact f _ (by simp)
    ·exact M (λy j=>f y (by simp[j])) x b
  refine N k λx b=>?_;rw[au3 b,eH,o]
 have G:∀c∈(i.map (List.map lj)).flatten,c.one=true:=by
  intro c f;obtain⟨q,H,D⟩:=ase.1 f;obtain⟨y,j,rfl⟩:=aqq.1 H;obtain⟨v,J,rfl⟩:=aqq.1 D;exact aqD.1 (w y j) v J
 have:=SS.CZ (P:=P) (t:=t) (ty:=ty) (pos:=pos) (af:=af) (gd:=gd) (d:=d) (K:=λs=>s=⟨g.n,jq (some d) (.pt d 0) (cP d g.t),[(d,some (.arr t e (i.map (List.map lj)) true))]++bh d g.h⟩) (A.ze _ _ L) F (by rw[aqn,p]) E G (by unfold maxLen;omega) (by omega) rfl;refine(SS.fresh l.t l.h this).lB ?_;subst o;refine bX.vZ (h:=g.h) (rows':=List.map (bx r) (List.replicate m (zeroV r))) ?_ (eD r _);rw[auA];exact k
def Zv(B:f_ P T){R:Type}{k:EV->List Nat->Option R}{r:R}{y x s:Option Operand}(G:ep ev b=.pt e t)(h:Zu T ev hg a e t y x s k=some r):
 ∃c z,O5 P (.slice a b y x s) ev hg c z/\k c z=some r:=by
 unfold Zu at h;split at h
 ·rename_i n f N F
  split at h
  ·rename_i I M O wr L
   obtain⟨w,g⟩:=aX h;clear h;simp only[aqe]at w;obtain⟨⟨⟨i,J⟩,j⟩,u⟩:=w;have i:=aqj i;subst i;have j:s=none:=by simpa using j
   subst j;have u:=aqk u;split at g
   ·rename_i l E
    split at g
    ·rename_i m C
     obtain⟨q,o,D⟩:=bf g;refine⟨_,_,λH d ty pos af gd p K=>?_,D⟩;unfold jf at o;split at o
     ·rename_i v
      rw[atn]at v;have:=RS.ah_ (P:=P) (st:=H) (dd:=d) (ty:=ty) (pos:=pos) (af:=af) (gd:=gd) (B.ar _ _ F) (p.is G (by intro f;cases f)) (Zq E p v.1) (Zr C p (by omega)) (l:=l.toNat) (h:=m.toNat) (by omega) (by omega) (by unfold maxLen;omega);have A:(m - l).toNat=m.toNat - l.toNat:=by omega
      simp only[enc,A];exact this
     ·cases o
    ·cases g
   ·cases g
  ·cases h
 ·cases h
def FS.makeMap(e:f_ P T){t:TypeId}{b:TypeDesc}{z:Value}{g h:Sc}(j:d<n)(f:(T t).mp=some (b,z)):
 FS P ⟨some d,.makeMap t none,ty,pos,af,gd⟩ n ev hg (.mp d) [(d,some (.mp b g h []))] [] (.one d):=by
 intro a k l i c;have:=SS.makeMap (P:=P) (t:=t) (ty:=ty) (pos:=pos) (af:=af) (gd:=gd) (d:=d) (K:=λs=>s=⟨a.n,jq (some d) (.mp d) (cP d a.t),[(d,some (.mp b []))]++bh d a.h⟩) (e.mp _ _ f) (by omega) rfl;exact SS.fresh c.t c.h this
def zi{α:Type}{a ys c:List α}(h:eC e a ys=some c):(a.length+ys.length)*e<=140737488355328/\a.length+ys.length<=maxLen/\c=a++ys:=by
 unfold eC at h;split at h
 ·rename_i b
  cases h;exact⟨b.1,b.2,rfl⟩
 ·cases h
def KS(S:f_ P T){R:Type}{k:EV->eF->List Nat->Fr->Option R}{r:R}(hd:d<n)(h:C6 T ev hg d a b g k=some r):
 ∃c Z us W,FS P ⟨some d,.call ⟨.builtin .append, #[b,g], #[a,a]⟩,ty,pos,af,gd⟩ n ev hg c Z us W/\k c Z us W=some r:=by
 unfold C6 at h;split at h
 ·rename_i e M i z U
  split at h
  ·rename_i s J
   obtain⟨Q,o⟩:=aX h;clear h;simp only[aqe]at Q;have x:=aqj Q.1;have O:0<M:=aqk Q.2;split at o
   ·rename_i G
    obtain⟨zs,H,v⟩:=bf o;obtain⟨B,C,rfl⟩:=zi H;refine⟨_,_,_,_,?_,v⟩;intro st X w y u;obtain⟨D,E,F⟩:=v8 J y.hc λ_ h=>h;have:=SS.F5 (P:=P) (t:=a) (x:=b) (y:=g) (ty:=ty) (pos:=pos) (af:=af) (gd:=gd) (d:=d) (K:=λI=>I=⟨st.n,jq (some d) (.ow d) (cP d st.t),((d,some (.arr e M (List.map (bx s.r) s.xs) true))::bs s.os)++bh d st.h⟩)
     (S.el _ _ U) (w.is G (by intro e;cases e)) (by rw[w.is rfl F,x];exact D) O (by rw[aqn];simpa using C) (by rw[aqn];simpa using B) (by omega) (by rw[qW d E];rfl)
    have m:=SS.fresh u.t u.h this;rw[x]at m;exact m
   ·rename_i r' A G
    split at o
    ·rename_i a7 l
     obtain⟨N,rfl⟩:=c8 l;cases N;rcases bD o with⟨_,m⟩|⟨Y,m⟩
     ·cases m
     obtain⟨zs,H,v⟩:=bf m;obtain⟨B,C,rfl⟩:=zi H;refine⟨_,_,_,_,?_,v⟩;intro st X w y u;obtain⟨D,E,F⟩:=v8 J y.hc λ_ h=>h;have a1:0<s.xs.length:=by
      cases a5:s.xs with
      |nil=>rw[a5]at Y;cases Y
      |cons f aS=>simp
     have:=SS.Kz (P:=P) (t:=a) (x:=b) (y:=g) (ty:=ty) (pos:=pos) (af:=af) (gd:=gd) (d:=d) (rows:=List.map (bx s.r) A) (K:=λI=>I=⟨st.n,jq (some d) (.ow d) (cP d st.t),((d,some (.arr e M (List.map (bx s.r) A++List.map (bx s.r) s.xs) true))::bs s.os)++bh d st.h⟩)
      (S.el _ _ U) (by rw[w.is G (by intro e;cases e),x];rfl) (by rw[w.is rfl F,x];exact D) (by rw[aqn];exact a1) O (by simp only[aqn];exact C) (by simp only[aqn];exact B) (by omega) (by rw[qW d E];rfl)
     have m:=SS.fresh u.t u.h this;rw[x,<-aq4]at m;exact m
    ·cases o
   ·rename_i j G
    split at o
    ·rename_i e' r' A wr hj
     split at o
     ·rename_i a7 l
      obtain⟨N,rfl⟩:=c8 l;cases N;obtain⟨q,m⟩:=aX o;simp only[aqe,arq]at q;obtain⟨⟨V,q2⟩,L⟩:=q;have V:=aqj V;subst V;have L:d≠j:=λe=>by rw[e,aqM]at L;cases L
      obtain⟨zs,H,v⟩:=bf m;obtain⟨B,C,rfl⟩:=zi H;refine⟨_,_,_,_,?_,v⟩;intro st X w y u;have a4:∀k,s.us.contains k=true->(j::s.us).contains k=true:=λk v=>by simp at v⊢;exact .inr v
      obtain⟨D,E,F⟩:=v8 J y.hc a4;have a0:aY (bs s.os++st.h) j=some (.arr e s.r.w (List.map (bx s.r) A) wr):=by
       rw[dZ,BK];have a2:s.os.any (λp=>p.1==j)=false:=by
        have a6:∀c,Gc hg c=some s->∀p∈s.os,s.us.contains p.1=true:=by
         intro c l p t;unfold Gc at l;split at l
         ·simp only[aqg]at l;rw[<-l]at t;cases t
         ·simp only[aqg]at l;rw[<-l]at t;cases t
         ·split at l
          ·simp only[aqg]at l
           rw[<-l]at t⊢;simp at t;simp[t]
          ·cases l
         ·cases l
        cases ha:s.os.any (λp=>p.1==j)with
        |false=>rfl
        |true=>
         obtain⟨p,t,a3⟩:=arW.1 ha;have:=a6 _ J p t;rw[show p.1=j by simpa using a3]at this;rw[this]at q2;cases q2
       rw[a2];exact y.at (by simp) hj
      have:=SS.Ky (P:=P) (t:=a) (x:=b) (y:=g) (ty:=ty) (pos:=pos) (af:=af) (gd:=gd) (d:=d) (k:=j) (rows:=List.map (bx s.r) A) (wr:=wr) (K:=λI=>I=⟨st.n,jq (some d) (.ow d) (cP d st.t),((d,some (.arr e M (List.map (bx s.r) A++List.map (bx s.r) s.xs) wr))::(j,none)::bs s.os)++bh d st.h⟩)
       (S.el _ _ U) (w.is G (by intro e;cases e)) (by rw[w.is rfl F,x];exact D) (by rw[x];exact a0) L O (by simp only[aqn];exact C) (by simp only[aqn];exact B) (by omega) (by rw[qW d E];rfl)
      have m:=SS.fresh u.t u.h this;rw[x,<-aq4]at m;exact m
     ·cases o
    ·cases o
   ·cases o
  ·cases h
 ·cases h
def KT{h c e:Hp}(a:jm h y=some (c,V))(b:mZ c k=some (e,C)):mZ h (y::k)=some (e,V::C):=by
 simp only[mZ,a,b]
def zj{r:Sc}:∀{t:List (Nat×Operand)} {j:Nat} {m:List r.cQ} {l:eF} {u w:List Nat} {st:St} {h:Hp},zh ev hg r j t=some (m,l,u)->Sk ev st->HC hg w h->(∀k,u.contains k=true->w.contains k=true)->
 ∃s f,mZ h (t.map λp=>st.ev p.2)=some (bs l++h,s)/\kV (t.map (·.1)) s=some f/\Br hg l/\f.length=m.length/\oT (f.map (·.2)) (List.map (bx r) m)/\(∀q∈f,q.2.all AV.one=true)/\∀i q,f[i]? =some q->q.1=j+i
 |[],j,m,l,u,w,st,h,a,A,y,B=>by
  simp only[zh,aqg,aqx]at a;obtain⟨rfl,rfl,rfl⟩:=a;exact⟨[],[],rfl,rfl,λk o c=>(by cases c),rfl,.nil,λq b=>(by cases b),λi q b=>(by simp at b)⟩
 |(i,x)::t,j,m,l,u,w,st,h,a,A,y,B=>by
  simp only[zh]at a;obtain⟨z,a⟩:=aX a;have z:=aqj z;split at a
  ·rename_i v W Y C
   split at a
   ·rename_i a0 X Z K
    simp only[aqg,aqx]at a;obtain⟨rfl,rfl,rfl⟩:=a;obtain⟨⟨F,V,G,H,I,J⟩,E⟩:=Ae C y (λk g=>B k (by simp at g⊢;exact .inl g));obtain⟨s,f,M,N,O,Q,R,S,U⟩:=zj (st:=st) K A (y.put E λk h=>h) (λk g=>B k (by simp at g⊢;exact .inr g));have L:st.ev x=enc (ep ev x):=A.is rfl (λe=>by
     rw[e]at C;cases r<;>simp[nU,mG,F9]at C)
    refine⟨F::s,(i,V)::f,?_,?_,λk o c=>?_,by simp[Q],.cons I R,?_,?_⟩
    ·rw[aqz,fu,aqJ]
     exact KT (by rw[L];exact G) M
    ·simp only[aqz,kV,H,N]
    ·rcases aqp.1 c with c|c
     ·exact O k o c
     ·exact E k o c
    ·intro q b
     rcases aqG.1 b with rfl|b
     ·exact J
     ·exact S q b
    ·intro D q b
     cases D with
     |zero=>simp at b;subst b;simpa using z
     |succ D=>
      have:=U D q (by simpa using b);omega
   ·cases a
  ·cases a
def zk{sz:Nat}:∀(a:List (Nat×List AV)) (b:List AV) (j:Nat),b.length=j*sz->(∀i q,a[i]? =some q->q.1=j+i/\q.2.length=sz)->
 fZ (λi=>some (i*sz,sz)) (b++List.replicate (a.length*sz) .un) a=some (b++(a.map (·.2)).flatten)
 |[],b,j,e,f=>by simp[fZ]
 |(i,xs)::a,b,j,e,f=>by
  obtain⟨g,c⟩:=f 0 (i,xs) rfl;simp only[arG]at g;subst g;have k:List.replicate ((a.length+1)*sz) AV.un=List.replicate sz .un++List.replicate (a.length*sz) .un:=by
   rw[List.replicate_append_replicate];congr 1;rw[aqS];omega
  have l:setCells (b++List.replicate ((a.length+1)*sz) AV.un) (i*sz) xs=(b++xs)++List.replicate (a.length*sz) .un:=by
   rw[k,fc _ _ _ _ (by omega),e,atO,gY _ _ _ _ (by simp only[atn];simp only at c;omega),oZ _ _ (by simp only[atn];simp only at c;omega),aqJ]
  simp only[aqC,fZ];rw[aqd ⟨c,by simp only[aqy,atn,e,aqS];omega⟩,l];have:=zk (sz:=sz) a (b++xs) (i+1) (by simp only at c;simp only[aqy,e,c,aqS];omega) (λm q h=>by
   have:=f (m+1) q (by simpa using h);exact⟨by omega,this.2⟩)
  rw[this];simp
def vd{sz:Nat}:∀(a:List (List AV)),(∀r∈a,r.length=sz)->chunk sz a.length a.flatten=a
 |[],_=>rfl
 |r::a,h=>by
  have b:=h r (by simp);simp only[aqC,chunk,aqR];rw[as7 b,List.drop_left' b,vd a λx c=>h x (by simp[c])]
def Zw(N:f_ P T){R:Type}{k:EV->eF->List Nat->Fr->Option R}{r:R}(hd:d<n)(h:Zs T ev hg d a e Q.toList k=some r):
 ∃c t J L,FS P ⟨some d,.buildSlice a e Q,ty,pos,af,gd⟩ n ev hg c t J L/\k c t J L=some r:=by
 unfold Zs at h;split at h
 ·split at h
  ·rename_i S
   split at h
   ·rename_i g o b z E
    obtain⟨v,D⟩:=aX h;refine⟨_,_,_,_,λst hn G M w=>?_,D⟩;have Y:0<o:=aqk v;have:=SS.buildSlice (P:=P) (t:=a) (len:=0) (parts:=Q) (ty:=ty) (pos:=pos) (af:=af) (gd:=gd) (d:=d) (h':=st.h) (aS:=[]) (qs:=[]) (cs:=[]) (K:=λI=>I=⟨st.n,(d,.sl true o [])::st.t,st.h⟩) (N.el _ _ E) (by rw[S];rfl) (by rw[S];rfl) (by simp[fZ]) rfl (by simp) Y (by omega) rfl;exact this.lB (bX.wkT Wk.Pn)
   ·cases h
  ·cases h
 ·rename_i m
  split at h
  ·rename_i g o b z E
   split at h
   ·rename_i W a5
    split at h
    ·rename_i vs t J hv
     obtain⟨v,D⟩:=aX h;simp only[aqe]at v;obtain⟨⟨⟨u,A⟩,B⟩,C⟩:=v;have u:=aqj u;have A:=aqj A;have B:=aqk B;have C:0<o:=aqk C;refine⟨_,_,_,_,λst hn G M w=>?_,D⟩;obtain⟨X,p,q1,q2,q3,q4,H,q6,q7⟩:=zj (st:=st) hv G M.hc λ_ h=>h;have V:∀q∈p,q.2.length=o:=λq s=>by
      obtain⟨i,hi,rfl⟩:=aqY s;have w:=H.flat;have:∀(f c:List (List AV)),oT f c->(∀x∈c,x.length=o)->∀x∈f,x.length=o:=by
       intro f c Z
       induction Z with
       |nil=>simp
       |cons h G ih=>
        intro O x j;rcases aqG.1 j with rfl|j
        ·rw[<-h.len];exact O _ (by simp)
        ·exact ih (λy hy=>O y (by simp[hy])) x j
      exact this _ _ H (λx j=>by obtain⟨y,_,rfl⟩:=aqq.1 j;rw[eH,u]) _ (aqq.2 ⟨_,asH hi,rfl⟩)
     have F:=zk (sz:=o) p [] 0 (by simp) (λi q s=>⟨q7 i q s,V q (aqw s)⟩);simp only[aqZ]at F;have U:p.length=m+1:=by rw[q4,A]
     rw[U]at F;have a0:chunk o (m+1) (p.map (·.2)).flatten=p.map (·.2):=by
      have:=vd (sz:=o) (p.map (·.2)) (λx j=>by obtain⟨q,s,rfl⟩:=aqq.1 j;exact V q s);rw[aqn,U]at this;exact this
     have:=SS.vX (P:=P) (t:=a) (len:=m+1) (parts:=Q) (ty:=ty) (pos:=pos) (af:=af) (gd:=gd) (d:=d) (h':=bs t++st.h) (aS:=X) (qs:=p) (cs:=(p.map (·.2)).flatten) (K:=λI=>I=⟨st.n,jq (some d) (.ow d) (cP d st.t),((d,some (.arr g o (p.map (·.2)) true))::bs t)++bh d st.h⟩) (N.el _ _ E) q1 q2 F (by
      rw[aqD];intro x j;obtain⟨l,hl,j⟩:=ase.1 j;obtain⟨q,s,rfl⟩:=aqq.1 hl;exact aqD.1 (q6 q s) x j) B C (by omega) (by rw[a0,qW d q3];rfl)
     refine(SS.fresh w.t w.h this).lB ?_;subst u;exact bX.vZ (h:=bs t++st.h) (rows':=List.map (bx W) vs) H (eD W _)
    ·cases h
   ·cases h
  ·cases h
def WL(O:f_ P T){R:Type}{k:EV->eF->List Nat->Fr->Option R}{r:R}(hd:d<n)(h:PC T ev hg d a e Q.toList k=some r):
 ∃c t D E,FS P ⟨some d,.buildSlice a e Q,ty,pos,af,gd⟩ n ev hg c t D E/\k c t D E=some r:=by
 unfold PC at h;split at h
 ·cases h
 ·rename_i m
  split at h
  ·rename_i g s b z V
   split at h
   ·rename_i rc a0
    split at h
    ·rename_i vs t D Z
     obtain⟨F,M⟩:=aX h;simp only[aqe]at F;obtain⟨⟨⟨u,v⟩,w⟩,A⟩:=F;have u:=aqj u;have v:=aqj v;have w:=aqk w;have A:0<s:=aqk A;refine⟨_,_,_,_,λst hn I N W=>?_,M⟩;obtain⟨L,o,q1,q2,q3,q4,C,q6,q7⟩:=zj (st:=st) Z I N.hc λ_ h=>h;have J:∀q∈o,q.2.length=s:=λq p=>by
      obtain⟨i,X,rfl⟩:=aqY p;have W:=C.flat;have:∀(f c:List (List AV)),oT f c->(∀x∈c,x.length=s)->∀x∈f,x.length=s:=by
       intro f c S
       induction S with
       |nil=>simp
       |cons h I ih=>
        intro G x j;rcases aqG.1 j with rfl|j
        ·rw[<-h.len];exact G _ (by simp)
        ·exact ih (λy hy=>G y (by simp[hy])) x j
      exact this _ _ C (λx j=>by obtain⟨y,_,rfl⟩:=aqq.1 j;rw[eH,u]) _ (aqq.2 ⟨_,asH X,rfl⟩)
     have B:=zk (sz:=s) o [] 0 (by simp) (λi q p=>⟨q7 i q p,J q (aqw p)⟩);simp only[aqZ]at B;have H:o.length=m+1:=by rw[q4,v]
     rw[H]at B;have U:chunk s (m+1) (o.map (·.2)).flatten=o.map (·.2):=by
      have:=vd (sz:=s) (o.map (·.2)) (λx j=>by obtain⟨q,p,rfl⟩:=aqq.1 j;exact J q p);rw[aqn,H]at this;exact this
     have:=SS.buildSlice (P:=P) (t:=a) (len:=m+1) (parts:=Q) (ty:=ty) (pos:=pos) (af:=af) (gd:=gd) (d:=d) (h':=bs t++st.h) (aS:=L) (qs:=o) (cs:=(o.map (·.2)).flatten) (K:=λs'=>s'=⟨st.n,(d,.sl true s (o.map (·.2)))::st.t,bs t++st.h⟩) (O.el _ _ V) q1 q2 B (by
      rw[aqD];intro x j;obtain⟨l,Y,j⟩:=ase.1 j;obtain⟨q,p,rfl⟩:=aqq.1 Y;exact aqD.1 (q6 q p) x j) w A (by omega) (by rw[U])
     refine this.lB (bX.wkT ?_);rw[u];exact Wk.rows C (eD rc vs)
    ·cases h
   ·cases h
  ·cases h
def ve(l:f_ P T){y:Op}{R:Type}{k:EV->eF->List Nat->Fr->Option R}{r:R}(i:d<n)(h:exM T ev hg d y k=some r):
 ∃c q p v,FS P ⟨some d,y,ty,pos,af,gd⟩ n ev hg c q p v/\k c q p v=some r:=by
 unfold exM at h;split at h
 ·split at h
  ·rename_i I s
   obtain⟨g,f⟩:=aX h;simp only[aqe]at g;exact⟨_,_,_,_,FS.box (zc g.1) i s g.2,f⟩
  ·cases h
 ·obtain⟨u,h⟩:=aX h
  have u:=zc u;split at h
  ·rename_i z t
   split at h
   ·rename_i m e H J
    rcases bD h with⟨_,h⟩|⟨_,h⟩
    ·exact⟨_,_,_,_,FS.alloc l u i t,h⟩
    ·split at h
     ·rename_i G L
      obtain⟨g,f⟩:=aX h;simp only[aqe]at g;exact⟨_,_,_,_,FS.CZ l i t (aqj g.1.1) g.1.2 (aqk g.2),f⟩
     ·cases h
   ·exact⟨_,_,_,_,FS.alloc l u i t,h⟩
  ·cases h
 ·split at h
  ·rename_i e H b z D
   split at h
   ·rename_i G s
    obtain⟨g,f⟩:=aX h;clear h;simp only[aqe]at g;obtain⟨⟨A,B⟩,C⟩:=g;split at f
    ·rename_i t
     split at f
     ·rename_i a x
      split at f
      ·rename_i c s
       obtain⟨m,w,E⟩:=bf f;have:=zg C x s;subst this;exact⟨_,_,_,_,FS.make l i D (aqj A) (aqk B) t x s w,E⟩
      ·cases f
     ·cases f
    ·cases f
   ·cases h
  ·cases h
 ·split at h
  ·rename_i N z w
   split at h
   ·rename_i M O K
    obtain⟨g,f⟩:=aX h;exact⟨_,_,_,_,FS.makeMap l i w,f⟩
   ·cases h
  ·cases h
 ·split at h
  ·rename_i j o F
   obtain⟨c,p,g,f⟩:=Zv l F h;exact⟨c,_,p,_,FS.read g i,f⟩
  ·obtain⟨c,q,p,g,f⟩:=PB l i h
   exact⟨c,q,p,_,g,f⟩
 ·obtain⟨c,q,p,v,g,f⟩:=Zw l i h
  exact⟨c,q,p,_,g,f⟩
 ·obtain⟨g,f⟩:=aX h
  have:=aqj g;subst this;exact KS l i f
 ·cases h
def oT.set(a:Nat)(h:nk k C):oT (i.set a k) (i.set a C):=by
 induction i generalizing a with
 |nil=>exact .nil
 |cons r i b=>
  cases a with
  |zero=>exact .cons h (oT.refl i)
  |succ a=>exact .cons (nk.refl r) (b a)
def n_{hg:Nat->Option dR}{x:M.cQ}{b:eF}(h:mG hg M F=some (x,b,o)):∀p∈b,o.contains p.1=true:=by
 unfold mG at h;split at h
 ·split at h
  ·split at h
   ·simp only[aqg,aqx]at h
    obtain⟨_,rfl,rfl⟩:=h;intro p a;simp at a;simp[a]
   ·cases h
  ·cases h
 ·split at h
  ·simp only[aqg,aqx]at h
   obtain⟨_,rfl,rfl⟩:=h;intro p a;cases a
  ·cases h
def wb{hg:Nat->Option dR}:∀(s:Sc) {j f:List EV} {x:s.cQ} {b:eF} {e:List Nat},ig hg s j=some (x,f,b,e)->∀p∈b,e.contains p.1=true
 |.pr a c,j,f,x,b,e,h=>by
  simp only[ig]at h;split at h
  ·rename_i g
   split at h
   ·rename_i l
    simp only[aqg,aqx]at h;obtain⟨_,_,rfl,rfl⟩:=h;intro p i;simp only[atP,aqp,ard];rcases aqp.1 i with i|i
    ·have:=wb c l p i;simp at this;exact .inr this
    ·have:=wb a g p i;simp at this;exact .inl this
   ·cases h
  ·cases h
 |.u,j,f,x,b,e,h=>by
  simp only[ig,aqg,aqx]at h;obtain⟨_,_,rfl,rfl⟩:=h;intro p i;cases i
 |.i k,[],f,x,b,e,h=>by simp[ig]at h
 |.b,[],f,x,b,e,h=>by simp[ig]at h
 |.sl r,[],f,x,b,e,h=>by simp[ig]at h
 |.i k,c::j,f,x,b,e,h=>by
  simp only[ig]at h;split at h
  ·rename_i g
   simp only[aqg,aqx]at h;obtain⟨_,_,rfl,rfl⟩:=h;exact n_ g
  ·cases h
 |.b,c::j,f,x,b,e,h=>by
  simp only[ig]at h;split at h
  ·rename_i g
   simp only[aqg,aqx]at h;obtain⟨_,_,rfl,rfl⟩:=h;exact n_ g
  ·cases h
 |.sl r,c::j,f,x,b,e,h=>by
  simp only[ig]at h;split at h
  ·rename_i g
   simp only[aqg,aqx]at h;obtain⟨_,_,rfl,rfl⟩:=h;exact n_ g
  ·cases h
def KU{hg:Nat->Option dR}{x:M.cQ}{b:eF}(h:nU hg M F=some (x,b,o)):∀p∈b,o.contains p.1=true:=by
 unfold nU at h;split at h
 ·split at h
  ·split at h
   ·rename_i a
    simp only[aqg,aqx]at h;obtain⟨_,rfl,rfl⟩:=h;exact wb _ a
   ·cases h
  ·split at h
   ·rename_i a
    simp only[aqg,aqx]at h;obtain⟨_,rfl,rfl⟩:=h;exact wb _ a
   ·cases h
  ·cases h
 ·split at h
  ·cases h
  ·cases h
  ·exact n_ h
  ·exact n_ h
  ·exact n_ h
def afd{hg:Nat->Option dR}:∀(r:Sc) (x:r.cQ) (o m:Nat) (y:r.cQ) (b:eF) (c:List Nat),qX hg F r x o m=some (y,b,c)->∀p∈b,c.contains p.1=true:=by
 intro r
 induction r with
 |pr a i f g=>
  intro x o m y b c h;simp only[qX]at h;rcases bD h with⟨_,h⟩|⟨_,h⟩
  ·exact KU h
  ·rcases bD h with⟨_,h⟩|⟨_,h⟩
   ·split at h
    ·rename_i e
     simp only[aqg,aqx]at h;obtain⟨_,rfl,rfl⟩:=h;exact f _ _ _ _ _ _ e
    ·cases h
   ·split at h
    ·rename_i e
     simp only[aqg,aqx]at h;obtain⟨_,rfl,rfl⟩:=h;exact g _ _ _ _ _ _ e
    ·cases h
 |u=>intro x o m y b c h;simp[qX]at h
 |_=>
  intro x o m y b c h;simp only[qX]at h;obtain⟨_,h⟩:=aX h;exact KU h
def PE(J:f_ P T){R:Type}{k:eF->List Nat->Option R}{r:R}(h:Io T ev hg a b g k=some r):
 ∃u z,FS P ⟨none,.store a b g,ty,pos,af,gd⟩ n ev hg .un u z .no/\k u z=some r:=by
 unfold Io at h;split at h
 ·rename_i ag m M
  split at h
  ·rename_i j o G
   split at h
   ·rename_i F Q B
    split at h
    ·rename_i v N
     obtain⟨w,x⟩:=aX h;simp only[aqe]at w;obtain⟨⟨⟨⟨⟨a0,E⟩,H⟩,I⟩,a4⟩,a5⟩:=w;refine⟨_,_,λst Z y t X=>?_,x⟩;have D:st.ev g=enc (ep ev g):=y.is rfl (λe=>by rw[e]at N;simp[nq,enc,AV.one]at N);have U:=zd N;rw[<-D]at U;refine SS.nK (zc a0) (y.is G (by intro e;cases e)) (t.at (by simp) B) (J.ty _ _ M) U (by rw[fq];exact aqj E) I (by rw[D];exact Ih a4 t (λk l=>by simp at l⊢;exact .inr (.inl l))) ?_ (by rw[fq];exact aqk H) ?_
     ·rw[aqD]
      intro c V;rw[dH]at V;obtain⟨O,W,rfl⟩:=aqq.1 V;refine Ih (aqD.1 a5 O W) t λk l=>?_;simp only[atP,aqG,aqp,arz,ard]at l⊢;exact .inr ⟨O,W,l⟩
     ·simp only[bs,Option.map,bS,oV];rfl
    ·cases h
   ·cases h
  ·rename_i j i sz o G
   split at h
   ·rename_i F s v B
    obtain⟨w,x⟩:=aX h;have E:=aqj w;obtain⟨f,A,l⟩:=bf x;obtain⟨i0,A⟩:=eo A;split at l
    ·rename_i a' u z C
     rcases bD l with⟨_,l⟩|⟨a6,l⟩
     ·cases l
     refine⟨_,_,λst Z y t X=>?_,l⟩;have aj:∀k,z.contains k=true->(j::z).contains k=true:=λk l=>by simp at l⊢;exact .inr l
     obtain⟨⟨c1,Q,S,g2,g3,g4,g5,g6⟩,g7⟩:=afa t.hc s f o m C aj;have D:st.ev g=enc (ep ev g):=y.is rfl (λe=>by
      rw[e]at S;have ad:∀(r:Sc) (b:r.cQ) (o m:Nat),qX hg .un r b o m=none:=by
       intro r
       induction r with
       |pr f b2 ak al=>
        intro b o m;simp only[qX,ak,al,nU,Bool.cond_self]
       |_=>intro b o m;simp[qX,nU,mG,F9]
      rw[e,ad]at C;cases C)
     have aa:aY (bs u++st.h) j=some (.arr F s.w (List.map (bx s) v) true):=by
      have hb:=(t.hc.put g7 λk h=>h) j (by simp) _ _ _ _ B;rw[dZ,BK];cases a9:u.any (λp=>p.1==j)with
      |false=>exact t.at (by simp) B
      |true=>
       exfalso;obtain⟨p,ae,ah⟩:=arW.1 a9;have am:∀(r:Sc) (b:r.cQ) (o m:Nat) (y':r.cQ) (u:eF) (z:List Nat),qX hg (ep ev g) r b o m=some (y',u,z)->∀p∈u,z.contains p.1=true:=afd;have:=am _ _ _ _ _ _ _ C p ae;rw[show p.1=j by simpa using ah]at this;rw[this]at a6;cases a6
     have ai:(List.map (bx s) v)[i.toNat]? =some (bx s f):=by rw[aqA,A];rfl
     subst E;have:=SS.Zp (P:=P) (t:=a) (x:=b) (y:=g) (ty:=ty) (pos:=pos) (af:=af) (gd:=gd) (K:=λs'=>s'=⟨st.n,st.t,(j,some (.arr F s.w ((List.map (bx s) v).set i.toNat (setCells (bx s f) o Q)) true))::(bs u++st.h)⟩)
      (y.is G (by intro e;cases e)) (by rw[D];exact S) aa ai (J.ty _ _ M) g2 g4 g3 g5 rfl
     refine this.lB ?_;refine bX.vZ (h:=bs u++st.h) ?_ (eD s _);rw[asb];exact oT.set _ g6
    ·cases l
   ·rename_i F s v L B
    obtain⟨w,x⟩:=aX h;simp only[aqe]at w;have E:=aqj w.1.1;have H:=aqj w.1.2;have I:=aqj w.2;subst E;subst H;subst I;split at x
    ·rename_i p D
     split at x
     ·rename_i t2 r2 ys wr2 C
      obtain⟨Y,h3⟩:=aX x;obtain⟨f,A,l⟩:=bf h3;obtain⟨i0,A⟩:=eo A;refine⟨_,_,λst Z y t X=>?_,l⟩;have a7:aY st.h p=some (bS (.arr t2 r2 ys wr2)):=t.at (by simp) C;have ac:i.toNat<v.length:=(aqh.1 A).1;have a8:st.ev g=.ow p:=y.is D (by intro e;cases e);have ab:(u9 s v L).length=v.length:=by
       unfold u9;split<;>simp
      refine SS.H8 (y.is G (by intro e;cases e)) (t.at (by simp) B) (J.ty _ _ M) (by rw[a8];rfl) rfl (by rw[a8];simp only[nL,a7,bS]) (by simp only[nL,a7,bS]) (by rw[ab];exact ac) ?_;have:(u9 s v L).set i.toNat (.ow p)=u9 s v (some (i,some p)):=by
       unfold Zt at Y;cases L with
       |none=>rfl
       |some q=>
        obtain⟨i1,q⟩:=q;have:i.toNat=i1.toNat:=aq7 Y;simp only[u9,<-this,auy,nrH]
      simp only[bs,Option.map,bS,this];rfl
     ·cases x
    ·cases x
   ·cases h
  ·cases h
 ·cases h
def Af(A:f_ P T){x y v:Operand}{R:Type}{k:eF->List Nat->Option R}{r:R}(h:v_ T ev hg a x y v k=some r):
 ∃q s,FS P ⟨none,.mapUpdate a x y v,ty,pos,af,gd⟩ n ev hg .un q s .no/\k q s=some r:=by
 unfold v_ at h;split at h
 ·rename_i j F
  split at h
  ·rename_i K J i L C
   split at h
   ·rename_i O z D
    split at h
    ·rename_i f l
     split at h
     ·rename_i b m
      obtain⟨g,u⟩:=aX h;simp only[aqe]at g;have B:=nZ g.1 g.2;subst B;obtain⟨H,I⟩:=qU g.1 f;refine⟨_,_,λp N o w M=>?_,u⟩;have t:enc (ep ev v)=enc (iL i b):=by rcases RP m with h|h<;>exact h.1
      have E:p.ev v=enc (ep ev v):=o.is rfl (λe=>by rw[e]at m;cases i<;>simp[WJ]at m);have G:p.ev y=enc (ep ev y):=o.is rfl (λe=>by rw[e]at l;cases J<;>simp[Ij,F9]at l);refine SS.mapUpdate (A.mp _ _ D) (o.is F (by intro e;cases e)) (h1:=p.h) (c:=enc (iL i b)) (by rw[E,t];exact C7 i b) (w.at (by simp) C) (by rw[G];exact vY g.1 l) H ?_;simp only[bs,Option.map,bS];rw[C1 I];rfl
     ·cases h
    ·cases h
   ·cases h
  ·cases h
 ·cases h
end
section
open Go Go.RowKit MapKept
section
def KV{α:Type}(rows:List α)(l m:Nat)(z:α):List α:=rows.take l++(List.replicate m z++rows.drop (l+m))
def KW{α:Type}(a:List α)(l:Nat)(z:α):KV a l 0 z=a:=by simp[KV]
def Zx{α:Type}{a:List α}{l m:Nat}{z:α}(h:l<a.length):KV (a.set l z) (l+1) m z=KV a l (m+1) z:=by
 unfold KV;have b:(a.set l z).take (l+1)=a.take l++[z]:=by
  rw[List.take_succ_eq_append_getElem (by simpa using h)];rw[atA,List.getElem_set_self,List.set_eq_of_length_le (by rw[aq0];exact Nat.min_le_left _ _)]
 have c:(a.set l z).drop (l+1+m)=a.drop (l+(m+1)):=by
  rw[List.drop_set_of_lt (by omega),show l+1+m=l+(m+1) by omega]
 rw[b,c,arK];simp
def Ag{α:Type}:∀(xs A B:List α),xs.length=B.length->setCells (A++B) A.length xs=A++xs
 |[],A,B,h=>by
  have:B=[]:=arh h.symm;subst this;rfl
 |x::xs,A,[],h=>by simp at h
 |x::xs,A,y::B,h=>by
  have e:(A++y::B).set A.length x=(A++[x])++B:=by rw[atM _ _ (aqf _)];simp
  rw[setCells,e,show A.length+1=(A++[x]).length by simp,Ag xs (A++[x]) B (by simpa using h)];simp
def KX{α:Type}{a B:List α}(h:a.length=B.length):setCells B 0 a=a:=Ag a [] B h
section
variable{P:Program}
def jP{a:Addr}{b:World}:∀{us vs:List Value} {i:Nat} {w:World},(storeCells a us i).run P w=.ok () b->(storeCells a (us++vs) i).run P w=(storeCells a vs (i+us.length)).run P b
 |[],vs,i,w,h=>by
  have:w=b:=by simpa[storeCells]using h
  subst this;rfl
 |u::us,vs,i,w,h=>by
  simp only[storeCells,arw,aqs]at h⊢;cases c:(store (a.add i) u).run P w with
  |ok x e=>
   rw[c]at h;simp only[aqt]at h⊢;rw[jP h,aqC,show i+1+us.length=i+(us.length+1) by omega]
  |_=>rw[c]at h;cases h
def Ga.clear{x:Bs}{s:Nat->Nat->Value->Prop}{k b:Nat}{t:TypeId}{r:Nat}{zs:List Value}(D:zs.all (λv=>(lj v).one)=true)(p:zs.length=r):∀(m l:Nat) {st:St} {e:Env} {a:Act} {w:World} {f:List (List AV)} (h:Ga x s e st a w) (n:aY st.h k=some (.arr t r f true)) (o:e.bJ k=some b)
 (z:l+m<=f.length) (q g:Nat) (B:g+q=l*r),
 ∃H F u,(storeCells ⟨b,g,none⟩ (List.replicate m zs).flatten q).run P w=.ok () F/\Ga x s H ⟨st.n,st.t,u⟩ a F/\aY u k=some (.arr t r (KV f l m (zs.map lj)) true)/\∀j,j≠k->aY u j=aY st.h j
 |0,l,st,e,a,w,f,h,n,o,z,q,g,B=>⟨e,w,st.h,rfl,h,by rw[KW];exact n,λ_ _=>rfl⟩
 |m+1,l,st,e,a,w,f,h,n,o,z,q,g,B=>by
  have A:l<f.length:=by omega
  have C:f[l]? =some f[l]:=aqm A;have R:=(h.sr.ob _ _ n).1 _ (aqw C);have O:LR (VR (bF x s e st.h w) none) (zs.map lj) zs:=vP zs;obtain⟨Z,w1,h1,W,J,E,U,G⟩:=Ga.qL (P:=P) (i:=l) (zs.map lj) zs 0 h n o C O (λc N=>by
   obtain⟨v,Q,rfl⟩:=aqq.1 N;exact aqD.1 D v Q) (by simp[p]) q g (by omega)
  rw[KX (by simp[p,R])]at E;obtain⟨I,Y,M,X,L,S,V⟩:=Ga.clear D p m (l+1) J E (by rw[G];exact o) (by simp;omega) (q+zs.length) g (by rw[p,aqS,asj];omega);refine⟨I,Y,M,?_,L,?_,λj y=>by rw[V j y,U j y]⟩
  ·rw[arK,aqR,jP W];exact X
  ·rw[S,Zx A]
variable{st:St}{d:Nat}{ty:TypeId}{pos:String}{af:Array Edge}{gd:Option (Nat×Bool)}{K:St->Prop}
def KY{α:Type}(z:List α):∀(m j:Nat),0<z.length->j<m*z.length->(List.replicate m z).flatten[j]? =z[j % z.length]?
 |0,j,b,a=>by simp at a
 |m+1,j,b,a=>by
  rw[arK,aqR];by_cases h:j<z.length
  ·rw[aq2 h,asz h]
  ·rw[arx (by omega),KY z m (j - z.length) b (by rw[aqS,asj]at a;omega),<-aum (by omega)]
def SS.clear{t E s:TypeId}{x:Operand}{k l m g G:Nat}{z:List Value}{r:List (List AV)}(Y:Ft P t=some (E,g,G,z))(Z:st.ev x=.sw k l m g)(B:aY st.h k=some (.arr s g r true))(S:l+m<=r.length)(W:0<g)
 (a0:z.all (λv=>(lj v).one)=true) (p:K ⟨st.n,st.t,(k,some (.arr s g (KV r l m (z.map lj)) true))::st.h⟩):
 SS P ⟨none,.call ⟨.builtin .clear, #[x], #[t]⟩,ty,pos,af,gd⟩ st K:=by
 intro w0 a1 e a w next Q h C
 obtain⟨i,c,p2,p3,p4,F,rfl,_,rfl⟩:=cK Y;have y:(#[x]:Array Operand).map a.eval= #[a.eval x]:=by simp only[asC,aqz,aro]
 have q:=h.ev x;rw[Z]at q;generalize A:a.eval x=u at q;cases q with
 | @sw _ _ _ _ _ b o a2 I V h1 h2=>
  cases m with
  |zero=>
   rw[KW]at p;refine dY (v:=undef) (w':=w) ?_ (C _ p _ _ _ (h.ky λj=>?_))
   ·simp[execOp,resolve,y,A,invoke,builtin,Builtin.clear_,aqF p2,undef]
   ·by_cases f:j=k
    ·subst f;rw[bc];exact B.symm
    ·rw[a_ f]
  |succ m=>
   obtain⟨e',w',h',D,M,R,N⟩:=Ga.clear (P:=P) a0 (by simpa using F) (m+1) l h B I S 0 o (by rw[V (by omega)];rfl);have L:(Builtin.zeroCells c.cells (m+1)).toList=(List.replicate (m+1) c.cells.toList).flatten:=by
    have n:0<c.cells.size:=by rw[F];exact W
    refine arZ λj=>?_;have X:(Builtin.zeroCells c.cells (m+1)).toList.length=(m+1)*c.cells.size:=by simp[arR]
    have J:((List.replicate (m+1) c.cells.toList).flatten).length=(m+1)*c.cells.size:=by simp
    by_cases f:j<(m+1)*c.cells.size
    ·rw[KY c.cells.toList (m+1) j (by simpa using n) (by simpa using f)]
     have a3:j % c.cells.toList.length<c.cells.size:=by simpa using asA j n
     have O:j<(m+1)*c.cells.size:=f;rw[arC,arC];have H:j % c.cells.toList.length=j % c.cells.size:=by simp
     rw[H];have U:j % c.cells.size<c.cells.size:=asA j n;simp[Builtin.zeroCells,O,U]
    ·rw[aq1 (by rw[X];omega),aq1 (by rw[J];omega)]
   rw[<-L]at D;refine dY (v:=undef) (w':=w') ?_ (C _ p _ _ _ (M.ky λj=>?_))
   ·simp[execOp,resolve,y,A,invoke,builtin,Builtin.clear_,aqF p2,undef,zeroValue,typeInfo,p3,p4,D]
   ·by_cases f:j=k
    ·subst f;rw[bc];exact R.symm
    ·rw[a_ f,N j f]
open Classical in
def FL{α:Type}:List (Value×α)->Value->Nat
 |[],_=>0
 |(k,_)::es,x=>if k=x then 0 else FL es x+1
def Gf{α:Type}:∀{a:List (Value×α)} {x:Value},eW a x=none->FL a x=a.length
 |[],_,_=>rfl
 |(k,c)::a,x,h=>by
  rw[eW]at h;by_cases b:k=x
  ·rw[aqd b]at h;cases h
  ·rw[aqc b]at h
   rw[FL,aqc b,Gf h];rfl
def RR{α:Type}:∀{a:List (Value×α)} {x:Value} {j:Nat} {c:α},a[j]? =some (x,c)->(∀(i:Nat) p,i<j->a[i]? =some p->p.1≠x)->FL a x=j
 |[],_,_,_,h,_=>by simp at h
 |(k,e)::a,x,j,c,h,b=>by
  cases j with
  |zero=>simp at h;rw[FL,aqd h.1]
  |succ j=>
   rw[FL,aqc (b 0 (k,e) (by omega) rfl),RR (j:=j) (c:=c) (by simpa using h) λi p g f=>b (i+1) p (by omega) (by simpa using f)]
def SS.mapEntry{t:TypeId}{x y:Operand}{k:Nat}{I:TypeDesc}{z f:Value}{r:List (Value×AV)}(ht:mapA P t=some (I,z))(hx:st.ev x=.mp k)
 (S:aY st.h k=some (.mp I r)) (hy:∀(Rd:Nat->Nat->Value->Prop) E u,VR Rd E (st.ev y) u->u=f) (B:ku I f) (hd:d<st.n)
 (hK:K ⟨st.n,(d,.tu [(eW r f).getD (Kc z),.v (.int .i64 (FL r f:Nat))])::st.t,(k,some (.mp I (ni r f ((eW r f).getD (Kc z)))))::st.h⟩):SS P ⟨some d,.mapEntry t x y,ty,pos,af,gd⟩ st K:=by
 intro N O e a w next Q A hn
 obtain⟨kt,et,i,p1,p2,p3,p4⟩:=gX ht;obtain⟨b,g,D,a6,L,ah,s,C⟩:=A.F8 hx S;have ar:=hy _ _ _ (A.ev y);have X:=A.sr.base _ _ _ S L;obtain⟨c,v,j,n,o,hc,a9,H,ao,ak⟩:∃c v j n o,(eW r f).getD (Kc z)=c/\VR (bF N O e st.h w) none c v/\FL r f=j/\
  (Instr.mapEntry t (.map (some b)) f).run P w=.ok (.tuple #[v,.int .i64 (j:Nat)]) {w with heap:=w.heap.setIfInBounds b (.map n o)}/\MR (bF N O e st.h w) I (ni r f c) n o:=by
  rcases C.find (P:=P) B p2 with⟨J,F,G,f4⟩|⟨j,m,c,J,F,G,f4,f5,f6,f7⟩
  ·obtain⟨n,o,M,Y⟩:=Fs.put (P:=P) C (λ_ _ h=>h) B p1 p2 (H7 z) s
   have a0:(Instr.mapUpdate t (.map (some b)) f z).run P w=.ok () {w with heap:=w.heap.setIfInBounds b (.map (g.push {key:=f,val:=z,born:=D}) (D+1))}:=by
    simp[Instr.mapUpdate,aqF p1,ark s,p2.Bq _ _ _ B,J,arL _ s,Result.andThen]
   rw[a0]at M;have hw:({w with heap:=w.heap.setIfInBounds b (.map (g.push {key:=f,val:=z,born:=D}) (D+1))}:World)={w with heap:=w.heap.setIfInBounds b (.map n o)}:=by
    injection M
   refine⟨_,z,r.length,n,o,rfl,by rw[G];exact H7 z,Gf G,?_,by rw[G];exact Y⟩;rw[<-hw];have a8:D=r.length:=by rw[C.clk,C.len]
   simp[Instr.mapEntry,aqF p1,ark s,p2.Bq _ _ _ B,J,arL _ s,zeroValue,typeInfo,p3,p4,goInt,a8]
  ·obtain⟨n,o,M,Y⟩:=Fs.put (P:=P) (R':=VR (bF N O e st.h w) none) C (λ_ _ h=>h) B p1 p2 f5 s
   have av:∀R,g[j]? =some R->({R with key:=f,val:=m.val}:MapEntry)=R:=λR a3=>by rw[F]at a3;cases a3;cases m;subst G;rfl
   have aj:g.modify j (λe=>{e with key:=f})=g.modify j (λe=>{e with key:=f,val:=m.val}):=by
    apply Array.ext_getElem?;intro q;rw[arY,arY];by_cases Z:j=q
    ·subst Z;rw[aqd rfl,aqd rfl,F];cases m;rfl
    ·rw[aqc Z,aqc Z]
   have a0:(Instr.mapUpdate t (.map (some b)) f m.val).run P w=.ok () {w with heap:=w.heap.setIfInBounds b (.map (g.modify j λe=>{e with key:=f,val:=m.val}) D)}:=by
    simp[Instr.mapUpdate,aqF p1,ark s,p2.Bq _ _ _ B,J,F,G,p2.stay _ _ B,arL _ s,Result.andThen]
   rw[a0]at M;have hw:({w with heap:=w.heap.setIfInBounds b (.map (g.modify j λe=>{e with key:=f,val:=m.val}) D)}:World)={w with heap:=w.heap.setIfInBounds b (.map n o)}:=by
    injection M
   have ab:∀(i:Nat) p,i<j->r[i]? =some p->p.1≠f:=λi p ad hp an=>by
    have ag:∃U,g[i]? =some U/\U.key=p.1:=by
     have hi:i<g.size:=by rw[C.len];exact(aqh.1 hp).1
     exact⟨g[i],aqX hi,(C.key i p _ hp (aqX hi)).1⟩
    obtain⟨U,a4,ai⟩:=ag;have ac:i<g.toList.length:=by have:=(aqU.1 a4).1;simpa using this
    have ae:j<g.toList.length:=by have:=(aqU.1 F).1;simpa using this
    have a5:=atH.1 ((aus g D).1 C.jN).2.2 i j ac ae ad;have e1:g.toList[i]=U:=by
     have:=(aqU.1 a4).2;simpa using this
    have e2:g.toList[j]=m:=by
     have:=(aqU.1 F).2;simpa using this
    rw[e1,e2]at a5;exact a5 (by rw[ai,an,G])
   refine⟨c,m.val,j,n,o,by rw[f4];rfl,f5,RR f6 ab,?_,Y⟩;rw[<-hw,<-aj];have a7:m.born=j:=C.O3 j m F;simp[Instr.mapEntry,aqF p1,ark s,p2.Bq _ _ _ B,J,F,G,p2.stay _ _ B,arL _ s,goInt,a7]
 have a1:=atk (o':=.map n o) s;have aa:Bx N {w with heap:=w.heap.setIfInBounds b (.map n o)}:=
  A.sr.ext.step rfl rfl rfl (by simp) λj H _=>a1.2 j λe=>H (by rw[e];exact X.1)
 obtain⟨ap,a2⟩:=A.sr.tM (w':={w with heap:=w.heap.setIfInBounds b (.map n o)}) k (some b) (e.sv k) 0 (some (.mp I (ni r f c))) aa (.inr ⟨L.symm,rfl⟩) (by simp)
  (λV W al=>a1.2 V λhh=>al _ S (by rw[L];exact aqr some hh.symm))
  (λV W _=>by obtain rfl:=aql W;exact⟨X.1,by simpa using X.2,.inl ⟨_,S,L⟩⟩)
  (λV o' u' ob ho W aw au=>by have:e.cA k=0:=ah;omega)
  (λRd hR _ ax am=>by
   obtain rfl:=aql am;exact⟨Env.bN,b,n,o,Env.bL,a1.1,MR.mono hR ak⟩)
 rw[hc,H]at hK;have aq:=(A.tr.mono a2).ic (e':=e.cz k (some b) (e.sv k) 0) (λj=>by by_cases H:j=k<;>simp[Env.cz,H,L]) (λj=>by by_cases H:j=k<;>simp[Env.cz,H]);have l:=LR.cons ((a9.mono a2).cJ (E:=some (e.cz k (some b) (e.sv k) 0))) (LR.cons (VR.v (Rd:=bF N O (e.cz k (some b) (e.sv k) 0) ((k,some (.mp I (ni r f c)))::st.h) {w with heap:=w.heap.setIfInBounds b (.map n o)}) (x:=.int .i64 (j:Nat))) LR.nil);refine dY (v:=.tuple #[v,.int .i64 (j:Nat)]) (w':={w with heap:=w.heap.setIfInBounds b (.map n o)}) ?_ (hn _ hK _ _ _ ⟨by simpa[Act.put]using A.n,A.d,ap,TR.put aq (by rw[A.n.1];exact hd) (.tu _ l.1 l.2)⟩);simp[execOp,a6,ar,ao]
def SS.entryStore{t:TypeId}{x y v:Operand}{k i:Nat}{s:TypeDesc}{z kv:Value}{n:List (Value×AV)}{ki:IntKind}{h1:Hp}{c c0:AV}(ht:mapA P t=some (s,z))(hx:st.ev x=.mp k)(hy:st.ev y=.v (.int ki (i:Nat)))(hl:jm st.h (st.ev v)=some (h1,c))
 (B:aY h1 k=some (.mp s n)) (J:n[i]? =some (kv,c0)) (U:K ⟨st.n,st.t,(k,some (.mp s (n.set i (kv,c))))::h1⟩):SS P ⟨none,.entryStore t x y v,ty,pos,af,gd⟩ st K:=by
 intro R S e a w next Q u hn
 obtain⟨F,a6,hv⟩:=qN u.sr (u.ev v) hl;have l:=u.cA a6;have o:(⟨st.n,st.t,h1⟩:St).ev x=.mp k:=by rw[<-hx];cases x<;>rfl
 obtain⟨b,h,m,X,p,a0,I,g⟩:=l.F8 o B;have C:=u.ev y;rw[hy]at C;have C:=C.bE;have H:=l.sr.base _ _ _ B p;have A:i<h.size:=by rw[g.len];exact(aqh.1 J).1
 have Z:h.findIdx? (λe=>(e.born:Int)==(i:Int))=some i:=by
  rw[avc];refine⟨A,?_,λq O=>?_⟩
  ·rw[g.O3 i _ (aqX A)];simp
  ·rw[g.O3 q _ (aqX (by omega))];simp;omega
 have a2:MR (bF R S F h1 w) s (n.set i (kv,c)) (h.modify i λe=>{e with val:=a.eval v}) m:=by
  refine⟨by simp[g.len],λq x' D o f=>?_,λD f=>?_,aut g.jN _ _ (λ_ _=>rfl) (λ_ _ _=>rfl),λq D f=>?_,by rw[g.clk];simp⟩
  ·rw[arY]at f
   by_cases L:i=q
   ·subst L
    rw[aqd rfl,aqX A]at f;have N:i<n.length:=(aqh.1 J).1;simp[N]at o f;subst o f;exact⟨(g.key i _ _ J (aqX A)).1,hv⟩
   ·rw[aqc L]at f
    rw[atJ L]at o;exact g.key q x' D o f
  ·obtain⟨q,O,rfl⟩:=aqY f
   have a8:q<h.size:=by simpa using O
   have:=g.isk h[q] (by simp);rw[atj,atI];split
   ·exact this
   ·exact this
  ·rw[arY]at f
   split at f
   ·obtain⟨m0,a1,rfl⟩:=aqL.1 f
    exact g.O3 q m0 a1
   ·exact g.O3 q D f
 have M:=atk (o':=.map (h.modify i λe=>{e with val:=a.eval v}) m) I;have Y:Bx R {w with heap:=w.heap.setIfInBounds b (.map (h.modify i λe=>{e with val:=a.eval v}) m)}:=
  l.sr.ext.step rfl rfl rfl (by simp) λj r _=>M.2 j λe=>r (by rw[e];exact H.1)
 obtain⟨a5,W⟩:=l.sr.tM (w':={w with heap:=w.heap.setIfInBounds b (.map (h.modify i λe=>{e with val:=a.eval v}) m)}) k (some b) (F.sv k) 0 (some (.mp s (n.set i (kv,c)))) Y (.inr ⟨p.symm,rfl⟩) (by simp)
  (λE G a3=>M.2 E λhh=>a3 _ B (by rw[p];exact aqr some hh.symm))
  (λE G _=>by obtain rfl:=aql G;exact⟨H.1,by simpa using H.2,.inl ⟨_,B,p⟩⟩)
  (λE o' u' ob ho G N a7=>by have:F.cA k=0:=a0;omega)
  (λRd V _ a9 a4=>by
   obtain rfl:=aql a4;exact⟨Env.bN,b,_,m,Env.bL,M.1,MR.mono V a2⟩)
 refine sL (w':={w with heap:=w.heap.setIfInBounds b (.map (h.modify i λe=>{e with val:=a.eval v}) m)}) ?_ (hn _ U _ _ _ ⟨l.n,l.d,a5,(l.tr.mono W).ic (λj=>by by_cases r:j=k<;>simp[Env.cz,r,p]) (λj=>by by_cases r:j=k<;>simp[Env.cz,r])⟩);simp[execOp,Instr.entryStore,X,C,ark I,asInt,asIntOf,Z,arL _ I]
