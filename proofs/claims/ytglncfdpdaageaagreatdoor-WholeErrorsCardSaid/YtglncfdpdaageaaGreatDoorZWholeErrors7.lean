/- part 7 -/
import Derived.Test.YtglncfdpdaageaaGreatDoorZWholeErrors6
set_option linter.all false
noncomputable section
open Go Go.RowKit
open IntKind (wrap)
set_option maxRecDepth 100000
open List (replicate)
open Nat (beq)
namespace Go.Proofs.YtglncfdpdaageaaGreatDoor
variable{A:Int×Int}{u:Int×Int->Prop}{d:Do cA}{a:Nat}{e:Type}{j:bh}
section
open Go Go.RowKit Go.Sort
def Qr{s:Sc}(g:s.key=true)(c d:s.c9)(v:e):∀b:Do (s.c9×e),(c=d->bO s (dW s b c v) d=some v)/\(c≠d->bO s (dW s b c v) d=bO s b d):=by
 have i:∀{x y:s.c9},x≠y->iP s x y=false:=λ{x y} h=>by
  cases j:iP s x y with
  |false=>rfl
  |true=>exact absurd ((fy s _ _ g).1 j) h
 intro b
 induction b with
 |nil=>
  simp only[dW,bO];exact⟨λa=>by rw[(fy s _ _ g).2 a];rfl,λa=>by rw[i a];rfl⟩
 |cons p b k=>
  simp only[dW];by_cases h:p.1=c
  ·rw[(fy s _ _ g).2 h]
   simp only[auQ,bO];exact⟨λa=>by rw[(fy s _ _ g).2 (h.trans a)];rfl,λa=>by rw[i λf=>a (h.symm.trans f)];rfl⟩
  ·rw[i h]
   simp only[auv,bO];by_cases f:p.1=d
   ·rw[(fy s _ _ g).2 f];exact⟨λa=>absurd (f.trans a.symm) h,λ_=>rfl⟩
   ·rw[i f];exact k
def Ya{f:e->e->In}(g:SWO f){l:Do e}(j:jR f l)(n:l.length<1099511627776):∃r,Kv f l=some r/\r.Perm l/\r.Pairwise λx y=>f x y=true:=by
 have k:=ayH l λx y=> !f y x;have o:=aza (le:=λx y=> !f y x) (λa b c i d=>by
  simp only[avC]at i d⊢;exact g.ntrans _ _ _ d i) (λa b=>by
  simp only[avm,avC];cases h:f b a with
  |false=>exact .inl rfl
  |true=>
   refine .inr ?_;cases d:f a b with
   |false=>rfl
   |true=>have:=g.trans _ _ _ h d;rw[g.irrefl]at this;cases this) l
 refine⟨_,auo ⟨j,n⟩,k,?_⟩;have m:=jR.perm j k.symm;refine(List.pairwise_and_iff.2 ⟨o,m⟩).imp λ{x y} h=>?_;rcases h.2 with d|d
 ·exact d
 ·have:=h.1;rw[d]at this;cases this
def dC(e:Int×Int):Int×Int:=(min e.1 e.2,max e.1 e.2)
def Gz(e:Int×Int):(if e.2<e.1 then e.2 else e.1)=(dC e).1/\(if e.2>e.1 then e.2 else e.1)=(dC e).2:=by
 unfold dC;constructor<;>simp only<;>split<;>omega
def eLt(a b:Int×Int):Prop:=a.1<b.1\/a.1=b.1/\a.2<b.2
abbrev xh:Sc:=.pr (.i .i64) (.i .i64)
def Mk(m:D6)(p:Int×Int->Prop):Prop:=∀e,(p e->(bO xh m e).getD 0=1)/\(¬p e->(bO xh m e).getD 0=0)
def Mk.put{m:D6}(h:Mk m u)(x:Int×Int):Mk (dW xh m x (1:Int)) λe=>u e\/e=x:=λe=>by
 have d:=Qr (s:=xh) rfl x e (1:Int) m;by_cases c:x=e
 ·refine⟨λ_=>?_,λb=>absurd (.inr c.symm) b⟩
  have:=d.1 c;rw[this];rfl
 ·have:=d.2 c
  refine⟨λa=>?_,λb=>?_⟩
  ·rw[this]
   rcases a with a|a
   ·exact(h e).1 a
   ·exact absurd a.symm c
  ·rw[this];exact(h e).2 λa=>b (.inl a)
def Mk.imp{m:D6}{p q:Int×Int->Prop}(h:Mk m p)(a:∀e,p e↔q e):Mk m q:=λe=>⟨λd=>(h e).1 ((a e).2 d),λb=>(h e).2 λc=>b ((a e).1 c)⟩
def af9:A∈cU d↔∃t∈d,(t.1,t.2.1)=A:=by simp[cU]
def Yb(h:∀t∈d,nT a t):∀e∈cU d,0<=e.1/\e.1<e.2/\e.2<(a:Int):=λe b=>by
 obtain⟨t,c,rfl⟩:=af9.1 b;have:=h t c;exact⟨this.1,this.2.1,this.2.2.1⟩
def GA(h:d.Pairwise Hs):(cU d).Pairwise eLt:=axr.2 h
def uO(h:j.Pairwise eLt):j.Nodup:=h.imp λ{a b} h e=>by
 subst e;unfold eLt at h;omega
def ann{a b:Int×Int}(h:ltOf pf a b=true):eLt a b:=mo.1 (avo h)
def aaJ(h:j.Nodup):jR (ltOf pf) j:=h.imp λ{a b} h=>by
 by_cases c:eLt a b
 ·exact .inl (auU (mo.2 c))
 ·refine .inr (auU (mo.2 ?_))
  have:¬(a.1=b.1/\a.2=b.2):=λe=>h (axk e.1 e.2);unfold eLt at c;omega
structure af_(n:Nat)(ts:List cA)(l jE:bh):Prop where
 srt:jE.Pairwise eLt
 mem:∀e,e∈jE↔e.1<e.2/\e∈l.map dC/\e∉cU ts
 inn:∀x∈l,mU (n:Int) x
 len:jE.length<=l.length
def af_.rng{l b:bh}(h:af_ a d l b):∀e∈b,0<=e.1/\e.1<e.2/\e.2<(a:Int):=λe g=>by
 obtain⟨c,f,_⟩:=(h.mem e).1 g;obtain⟨x,i,rfl⟩:=auD.1 f;have:=h.inn x i;unfold mU at this;refine⟨by simp only[dC];omega,c,by simp only[dC];omega⟩
def aga{N:Nat}(hN:Fu+18<=N)(h:GR a d)(l:bh)(hl:l.length<=100000):
 (AZ N ((a:Int),d,l)=some (10,[])/\¬∀x∈l,mU (a:Int) x)\/∃n,AZ N ((a:Int),d,l)=some (0,n)/\af_ a d l n:=by
 obtain⟨N,rfl⟩:∃M,N=M+1:=⟨N - 1,bv⟩;have hF:=bR;have a1:=h.len;have a0:(cU d).length=d.length:=by simp[cU]
 obtain⟨b1,J,A,rfl,S⟩:=lp (F:=λm k (s:D6)=>za N m (l,(((cU d).length:Nat):Int),(k:Int),(a:Int),d,s,cU d)) (n:=(cU d).length) (Q:=λb=>∃A,b=(l,(a:Int),d,A)/\Mk A λe=>e∈cU d) (I:=λk s=>Mk s λe=>e∈(cU d).take k) (λm k s D o=>by
  obtain⟨x,j⟩:=get_at (xs:=cU d) (i:=k) D;exact .inl ⟨dW xh s x (1:Int),(o.put x).imp λe=>by rw[cR j];simp,by rw[FV,eC bv,bd j,ob,ob,cG bv]⟩) (λm s o=>⟨_,by rw[FV,dT bv],s,rfl,o.imp λe=>by rw[au0 (auq _)]⟩) (m:=N) (i:=0) (s:=[]) bv bv (λe=>⟨λR=>by simp at R,λ_=>rfl⟩)
 obtain⟨b2,C,V⟩:=lp (F:=λm k (s:D6×bh)=>pv N m (l,((l.length:Nat):Int),(k:Int),(a:Int),d,s.1,s.2)) (n:=l.length) (Q:=λb=>(b=.inr 10/\¬∀x∈l,mU (a:Int) x)\/∃n,b=.inl n/\n.Nodup/\(∀e,e∈n↔e.1<e.2/\e∈l.map dC/\e∉cU d)/\(∀x∈l,mU (a:Int) x)/\n.length<=l.length)
  (I:=λk s=>Mk s.1 (λe=>e∈cU d\/e∈s.2)/\s.2.Nodup/\(∀e,e∈s.2↔e.1<e.2/\e∈(l.take k).map dC/\e∉cU d)/\(∀x∈l.take k,mU (a:Int) x)/\s.2.length<=k) (λm k s D o=>by
   obtain⟨x,j⟩:=get_at (xs:=l) (i:=k) D;have L:=auI j;obtain⟨t,G,z,X,i5⟩:=o;rw[FU,eC bv,bd j,ob,(Gz x).1,(Gz x).2,cd];have q:mU (a:Int) x↔¬(dC x).1<0/\¬(a:Int)<=(dC x).2:=by unfold mU dC;omega
   by_cases u:(dC x).1<0
   ·rw[auo u];exact .inr ⟨_,rfl,.inl ⟨rfl,λh=>(q.1 (h x L)).1 u⟩⟩
   rw[aun u,cd];by_cases v:(a:Int)<=(dC x).2
   ·rw[auo v];exact .inr ⟨_,rfl,.inl ⟨rfl,λh=>(q.1 (h x L)).2 v⟩⟩
   rw[aun v,cd];have fC:∀y∈l.take (k+1),mU (a:Int) y:=λy p=>by
    rw[cR j]at p;rcases auC.1 p with p|p
    ·exact X y p
    ·rw[auN.1 p];exact q.2 ⟨u,v⟩
   have E:∀e,e∈(l.take (k+1)).map dC↔e∈(l.take k).map dC\/e=dC x:=λe=>by
    rw[cR j,avh,auC,List.map_singleton,auN]
   by_cases w:(dC x).1<(dC x).2
   ·rw[auo w,cd]
    by_cases g:dC x∈cU d\/dC x∈s.2
    ·have B:(bO xh s.1 (dC x)).getD 0=1:=(t _).1 g
     rw[show(bO xh s.1 ((dC x).1,(dC x).2)).getD 0=1 from B,aun bv,cG bv];refine .inl ⟨s,⟨t,G,λe=>?_,fC,bv⟩,rfl⟩;rw[z e,E];constructor
     ·rintro⟨f,b,c⟩;exact⟨f,.inl b,c⟩
     ·rintro⟨f,b|rfl,c⟩
      ·exact⟨f,b,c⟩
      ·rcases g with g|g
       ·exact absurd g c
       ·exact(z _).1 g
    ·have B:(bO xh s.1 (dC x)).getD 0=0:=(t _).2 g
     rw[show(bO xh s.1 ((dC x).1,(dC x).2)).getD 0=0 from B,auo rfl,cw bv d7,ob,cG bv];refine .inl ⟨(dW xh s.1 (dC x) (1:Int),s.2++[dC x]),⟨(t.put _).imp λe=>by simp[or_assoc],?_,λe=>?_,fC,by simp;omega⟩,rfl⟩
     ·exact avk.2 ⟨G,d5,λf O b P e=>g (.inr (by rw[<-auN.1 P,<-e];exact O))⟩
     ·rw[auC,auN,z e,E]
      constructor
      ·rintro(⟨f,b,c⟩|rfl)
       ·exact⟨f,.inl b,c⟩
       ·exact⟨w,.inr rfl,λh=>g (.inl h)⟩
      ·rintro⟨f,b|rfl,c⟩
       ·exact .inl ⟨f,b,c⟩
       ·exact .inr rfl
   ·rw[aun w,cG bv]
    refine .inl ⟨s,⟨t,G,λe=>?_,fC,bv⟩,rfl⟩;rw[z e,E];constructor
    ·rintro⟨f,b,c⟩;exact⟨f,.inl b,c⟩
    ·rintro⟨f,b|rfl,c⟩
     ·exact⟨f,b,c⟩
     ·exact absurd f w) (λm s o=>⟨_,by rw[FU,dT bv],.inr ⟨s.2,rfl,by have H:=o.2;rw[au0 (auq _)]at H;exact H⟩⟩) (m:=N) (i:=0) (s:=(A,[])) bv bv ⟨S.imp λe=>by simp,d5,λe=>by simp,λx j=>by simp at j,d5⟩
 rw[show((0:Nat):Int)=(0:Int)from rfl]at J C;simp only at C;rw[aab,h.right bv,ob];simp only[auH,auv];rw[Bl bv h,ob,J,ob];simp only;rw[C,ob];rcases V with⟨rfl,U⟩|⟨n,rfl,Y,Z,q3,q4⟩
 ·exact .inl ⟨rfl,U⟩
 ·obtain⟨r,q,K,W⟩:=Ya akA (aaJ Y) bv
  refine .inr ⟨r,?_,W.imp ann,λe=>by rw[K.mem_iff];exact Z e,q3,by rw[K.length_eq];exact q4⟩;simp only;unfold cq;rw[q,ob]
end
section
open Go Go.RowKit Go.Sort
def uP(d:1<=a)(b:Do cA)(c:b.length<=100000000000):W_ a b=some b:=by
 obtain⟨a,rfl⟩:∃m,a=m+1:=⟨a - 1,bv⟩;rw[aeH,cw bv (by simpa using c),avd];cases b with
 |nil=>exact ur.2 ⟨rfl,rfl⟩
 |cons x e=>rfl
def GB(n:Nat):∀(l:bI) (a:bP),(lR n a l).length=l.length
 |[],_=>rfl
 |e::l,a=>by rw[lR,auP,GB n l,auP]
def GC(a:bh)(c:br):Do cA:=List.zipWith (λx b=>(x.1,x.2,(0:Int),b)) a c
def Qs{a:br}(h:a.length=j.length):(GC j a).length=j.length:=by simp[GC,h]
def Qt{a:br}(h:a.length=j.length):cU (GC j a)=j:=by
 unfold GC cU;rw[List.map_zipWith];refine avX λi=>?_;by_cases c:i<j.length
 ·obtain⟨x,e⟩:=get_at (xs:=j) c
  obtain⟨b,d⟩:=get_at (xs:=a) (i:=i) bv;rw[azk,e,d]
 ·rw[au5 (by simp[h];omega),au5 bv]
def Qu(a b:Do cA):cU (a++b)=cU a++cU b:=avh
def aaK{a b:Do cA}(h:a.Perm b):(cU a).Perm (cU b):=h.map _
def Ti(h:(cU d).Nodup):jR (ltOf sx) d:=(axr.1 h).imp λ{a b} h=>by
 by_cases c:Hs a b
 ·exact .inl (auU (mY.2 c))
 ·refine .inr (auU (mY.2 ?_))
  have:¬(a.1=b.1/\a.2.1=b.2.1):=λe=>h (axk e.1 e.2);unfold Hs at c⊢;omega
def Tj{a b:cA}(h:ltOf sx a b=true):Hs a b:=mY.1 (avo h)
structure asQ(n:Nat)(ts jE ts':List cA):Prop where
 perm:ts'.Perm (ts++jE)
 srt:ts'.Pairwise Hs
def ano{a b:Do cA}(d:a.Pairwise Hs)(i:b.Pairwise Hs)(h:a.Perm b):a=b:=by
 have e:∀{l:Do cA},l.Pairwise Hs->l.Pairwise (λx y=>ltOf sx y x=false):=λh=>h.imp λ{x y} h=>auW λc=>by
  have:=mY.1 c;unfold Hs at*;omega
 have j:jR (ltOf sx) a:=d.imp λ{x y} h=>.inl (auU (mY.2 h));exact qk (λx y f g=>by have:=Tj f;have:=Tj g;unfold Hs at*;omega) h j (e d) (e i)
def Bm(n:Nat)(b:Do cA)(a:bh):br:=lR n (C2 n (fY b 0)) (a.map tF)
def w9(n:Nat)(b:Do cA)(a:bh):(Bm n b a).length=a.length:=by rw[Bm,GB,auz]
def add_eq{N:Nat}(L:Fu+20<=N)(h:GR a d)(l:bh)(C:l.length<=100000):
 (oH N ((a:Int),d,l)=some (0,10,(a:Int),d)/\¬∀x∈l,mU (a:Int) x)\/∃jE,af_ a d l jE/\((400<d.length+jE.length/\oH N ((a:Int),d,l)=some (0,2,(a:Int),d))\/
  d.length+jE.length<=400/\∃v,oH N ((a:Int),d,l)=some (((jE.length:Nat):Int),0,(a:Int),v)/\asQ a d (GC jE (Bm a d jE)) v):=by
 obtain⟨N,rfl⟩:∃M,N=M+1:=⟨N - 1,bv⟩;have K:=bR;have R:=h.len;rw[aal];rcases aga (N:=N) bv h l C with⟨p,w⟩|⟨jE,p,j⟩
 ·rw[p,ob];exact .inl ⟨rfl,w⟩
 ·refine .inr ⟨jE,j,?_⟩
  have O:=j.len;rw[p,ob,BE rfl];simp only;obtain⟨M,rfl⟩:∃M,N=M+1:=⟨N - 1,bv⟩;rw[aad,ob,gZ bv bv,Hq];by_cases c:d.length+jE.length<=400
  ·rw[auo bv,Gy bv h,ob]
   simp only;have z:uZ (a:Int) jE=0:=by
    rw[X5 h.lo h.hi,auo λe A=>by have:=j.rng e A;exact⟨⟨bv,bv⟩,bv,bv⟩]
   rw[Te bv (h.LF 0) jE bv,z,ob,auo rfl,uP bv _ bv,ob];simp only;rw[show lR a (C2 a (fY d 0)) (jE.map tF)=Bm a d jE from rfl];have q:=w9 a d jE;generalize Bm a d jE=g at*;have P:=Qs q;have t:=lpv (F:=λm k (s:Do cA)=>zi (M+1) m (((jE.length:Nat):Int),(k:Int),(a:Int),d,(0:Int),jE,g,s)) (n:=jE.length) (b:=((a:Int),d,(0:Int),jE,d++GC jE g)) (I:=λk s=>s=d++(GC jE g).take k) (λm k s B n=>by
    obtain⟨x,u⟩:=get_at (xs:=jE) (i:=k) B;obtain⟨b,o⟩:=get_at (xs:=g) (i:=k) bv;have D:(GC jE g)[k]? =some (x.1,x.2,(0:Int),b):=by unfold GC;rw[azk,u,o]
    have Q:s.length<=100000:=by rw[n,auE,au8];omega
    exact⟨_,by rw[cR D,<-auV,<-n],by rw[F0,eC bv,bd u,ob,ob,bd o,ob,ob,cw bv d7,ob,cG bv]⟩) (λm s n=>by rw[F0,dT bv,n,au0 bv]) (m:=M+1) (i:=0) (s:=d) bv bv d5
   rw[show((0:Nat):Int)=(0:Int)from rfl]at t;rw[t,ob];simp only;have E:(cU (d++GC jE g)).Nodup:=by
    rw[Qu,Qt q];exact avk.2 ⟨uO (GA h.srt),uO j.srt,λf y b o e=>((j.mem b).1 o).2.2 (e▸y)⟩
   obtain⟨r,H,G,J⟩:=Ya aoV (Ti E) (by rw[auE];omega);unfold cN;rw[H,ob];exact .inr ⟨c,r,rfl,G,J.imp Tj⟩
  ·rw[aun bv]
   exact .inl ⟨bv,rfl⟩
end
end Go.Proofs.YtglncfdpdaageaaGreatDoor
namespace Go.Proofs.YtglncfdpdaageaaGreatDoor.Sp
abbrev Tk:=Int×Int×Int×Int
def iz(a:Do Tk)(L:aX)(i:Nat):In:= !(decide ((i:Int)∈L)) && (match a[i]? with
 |some t=>decide (t.2.2.2=0)
 |none=>false)
def w_(a:Do Tk)(L:aX)(j:Int)(i:Nat):In:=(match a[i]? with
 |some t=>decide (t.2.2.1=j)
 |none=>false) && !(iz a L i)
def ks(a:Do Tk)(L:aX)(j:Int):Nat:=(List.range a.length).countP (w_ a L j)
structure Tree(n:Nat)(ts:List Tk)(L:aX)(p:Int):Prop where
 ne:0<ts.length
 sh:∀(i:Nat) t,ts[i]? =some t->0<=t.1/\t.1<t.2.1/\t.2.1<=(n:Int)/\-1<=t.2.2.1/\t.2.2.1<(i:Int)/\(0<i->0<=t.2.2.1)/\0<=t.2.2.2/\t.2.2.2<=2
 nd:L.Nodup
 lv:∀x∈L,∃(i:Nat) (t:Tk),x=(i:Int)/\ts[i]? =some t/\t.2.2.2=0
 ct:∀(j:Nat) t,ts[j]? =some t->t.2.2.2=(ks ts L (j:Int):Int)+(if(j:Int)=p then 1 else 0)
def tJ{p q:Nat->In}{i:Nat}(a:p i=true)(b:q i=false)(h:∀k,k≠i->p k=q k):∀n,i<n->(List.range n).countP p=(List.range n).countP q+1
 |0,d=>by omega
 |n+1,d=>by
  rw[ax3,aw2,aw2];by_cases c:i=n
  ·subst c
   have e:(List.range i).countP p=(List.range i).countP q:=List.countP_congr λk f=>by
    rw[h k (by have:=avr.1 f;omega)]
   simp[e,a,b]
  ·have:=tJ a b h n bv
   rw[this];simp only[ayS,h n (λe=>c e.symm)];omega
def lA{p q:Nat->In}{n:Nat}(h:∀k,k<n->p k=q k):(List.range n).countP p=(List.range n).countP q:=List.countP_congr λk a=>by rw[h k (avr.1 a)]
def kV{a:Do Tk}{L:aX}{i:Nat}{t:Tk}(h:a[i]? =some t):iz a L i=(!(decide ((i:Int)∈L)) && decide (t.2.2.2=0)):=by unfold iz;rw[h]
def fT{a:Do Tk}{L:aX}{j:Int}{i:Nat}{t:Tk}(h:a[i]? =some t):w_ a L j i=(decide (t.2.2.1=j) && !(iz a L i)):=by unfold w_;rw[h]
def cS{α:Type}{l:Do α}{i:Nat}{x:α}(h:l[i]? =some x):i<l.length:=(aus.1 h).1
def Tree.agc{n:Nat}{a:Do Tk}{L:aX}{p:Int}(h:Tree n a L p):∀(k i:Nat),i<=k->i<a.length->iz a L i=false->iz a L 0=false
 |0,i,o,c,b=>by
  obtain rfl:i=0:=bv
  exact b
 |k+1,i,o,c,b=>by
  by_cases g:i=0
  ·subst g;exact b
  obtain⟨t,e⟩:=get_at c;obtain⟨_,_,_,q,r,d,_,_⟩:=h.sh i t e;have d:=d bv;obtain⟨j,m⟩:∃j:Nat,t.2.2.1=(j:Int):=⟨t.2.2.1.toNat,bv⟩;have v:j<i:=bv
  obtain⟨u,f⟩:=get_at (xs:=a) (i:=j) bv;have l:=h.ct j u f;have w:0<ks a L (j:Int):=by
   unfold ks;rw[azl];exact⟨i,avr.2 c,by rw[fT e,m,b];simp⟩
  refine Tree.agc h k j bv bv ?_;rw[kV f];have:¬u.2.2.2=0:=by split at l<;>omega
  simp[this]
def Tree.below{n:Nat}{a:Do Tk}{L:aX}(h:Tree n a L (-1)):∀(k i:Nat),a.length<=i+k->i<a.length->iz a L i=false->L≠[]
 |0,i,q,j,c=>by omega
 |k+1,i,q,j,c=>by
  obtain⟨t,l⟩:=get_at j;rw[kV l]at c;by_cases f:(i:Int)∈L
  ·intro e;rw[e]at f;cases f
  ·have v:¬t.2.2.2=0:=by simpa[f]using c
   have p:=h.ct i t l;rw[aun bv]at p;have g:0<ks a L (i:Int):=bv
   unfold ks at g;rw[azl]at g;obtain⟨o,b,d⟩:=g;have b:=avr.1 b;obtain⟨u,m⟩:=get_at b;rw[fT m]at d;simp only[aup,avn,avC]at d;obtain⟨_,_,_,_,r,_⟩:=h.sh o u m;exact Tree.below h k o bv b d.2
def Tree.over{n:Nat}{a:Do Tk}{L:aX}(h:Tree n a L (-1)):iz a L 0=true↔L=[]:=by
 constructor
 ·intro b
  cases c:L with
  |nil=>rfl
  |cons x l=>
   obtain⟨i,t,rfl,d,g⟩:=h.lv x (by rw[c];simp);have f:iz a L i=false:=by rw[kV d];simp[c]
   have:=h.agc i i (auq _) (cS d) f;rw[this]at b;cases b
 ·intro e
  cases b:iz a L 0 with
  |true=>rfl
  |false=>exact absurd e (h.below a.length 0 bv h.ne b)
def Tl{L M:aX}(a:L.Perm M)(h:L.Nodup):M.Nodup:=a.nodup_iff.1 h
def aaL{a:Do Tk}{L M:aX}(b:L.Perm M)(i:Nat):iz a L i=iz a M i:=by
 unfold iz;rw[av1.2 b.mem_iff]
def Tree.perm{n:Nat}{a:Do Tk}{L M:aX}{p:Int}(h:Tree n a L p)(b:L.Perm M):Tree n a M p:=
 ⟨h.ne,h.sh,Tl b h.nd,λx d=>h.lv x (b.mem_iff.2 d),λj t c=>by
  rw[h.ct j t c];have:ks a L (j:Int)=ks a M (j:Int):=lA λk e=>by
   unfold w_;rw[aaL b]
  rw[this]⟩
def Tree.take{n:Nat}{a:Do Tk}{i:Nat}{L:aX}{t:Tk}(h:Tree n a ((i:Int)::L) (-1))(b:a[i]? =some t):Tree n a L t.2.2.1/\(t.2.2.1= -1->iz a L 0=true):=by
 have o:=avD.1 h.nd;have g:t.2.2.2=0:=by
  obtain⟨k,u,e,d,g⟩:=h.lv (i:Int) d5;obtain rfl:i=k:=bv
  rw[b]at d;cases d;exact g
 have l:iz a L i=true:=by rw[kV b];simp[o.1,g]
 have v:iz a ((i:Int)::L) i=false:=by rw[kV b];simp
 have p:∀k,k≠i->iz a ((i:Int)::L) k=iz a L k:=λk f=>by
  unfold iz;have:¬(k:Int)=(i:Int):=bv
  simp[this]
 have w:=cS b;refine⟨⟨h.ne,h.sh,o.2,λx y=>h.lv x (by simp[y]),λj u d=>?_⟩,λe=>?_⟩
 ·rw[h.ct j u d,aun bv]
  by_cases c:(j:Int)=t.2.2.1
  ·rw[auo c]
   have:ks a ((i:Int)::L) (j:Int)=ks a L (j:Int)+1:=tJ (i:=i) (by rw[fT b,v];simp[c]) (by rw[fT b,l];simp) (λk f=>by unfold w_;rw[p k f]) _ w;omega
  ·rw[aun c]
   have:ks a ((i:Int)::L) (j:Int)=ks a L (j:Int):=lA λk f=>by
    by_cases m:k=i
    ·subst m
     rw[fT b,fT b];have:¬t.2.2.1=(j:Int):=λe=>c e.symm;simp[this]
    ·unfold w_;rw[p k m]
   rw[this]
 ·obtain⟨_,_,_,_,_,r,_⟩:=h.sh i t b
  have:i=0:=by
   by_cases q:i=0
   ·exact q
   ·have:=r bv;omega
  subst this;exact l
def less(a:Do Tk)(j:Nat)(t:Tk):Do Tk:=a.set j (t.1,t.2.1,t.2.2.1,t.2.2.2 - 1)
def jX{a:Do Tk}{j:Nat}{t:Tk}(b:a[j]? =some t)(k:Nat):(less a j t)[k]? =if k=j then some (t.1,t.2.1,t.2.2.1,t.2.2.2 - 1)else a[k]? :=by
 unfold less;rw[avs];by_cases h:k=j
 ·subst h;simp[cS b]
 ·rw[aun (λe=>h e.symm),aun h]
def jY(a:Do Tk)(j:Nat)(t:Tk):(less a j t).length=a.length:=by simp[less]
def Tree.less{n:Nat}{a:Do Tk}{L:aX}{j:Nat}{t:Tk}(h:Tree n a L (j:Int))(c:a[j]? =some t):1<=t.2.2.2/\¬(j:Int)∈L/\
 (t.2.2.2 - 1≠0->Tree n (less a j t) L (-1)/\iz (less a j t) L 0=false)/\(t.2.2.2 - 1=0->Tree n (less a j t) L t.2.2.1/\(t.2.2.1= -1->iz (less a j t) L 0=true)):=by
 have P:=h.ct j t c;rw[auo rfl]at P;have O:1<=t.2.2.2:=bv
 have v:¬(j:Int)∈L:=λR=>by
  obtain⟨k,u,e,b,H⟩:=h.lv _ R;obtain rfl:j=k:=bv
  rw[c]at b;cases b;omega
 have E:=cS c;have F:=h.sh j t c;have D:iz a L j=false:=by
  have U:¬t.2.2.2=0:=bv
  rw[kV c];simp[U]
 have o:(Go.Proofs.YtglncfdpdaageaaGreatDoor.Sp.less a j t)[j]? =some (t.1,t.2.1,t.2.2.1,t.2.2.2 - 1):=by rw[jX c,auo rfl]
 have S:∀k,k≠j->iz (Go.Proofs.YtglncfdpdaageaaGreatDoor.Sp.less a j t) L k=iz a L k:=λk f=>by
  unfold iz;rw[jX c,aun f]
 have w:∀k,k≠j->∀m:Int,w_ (Go.Proofs.YtglncfdpdaageaaGreatDoor.Sp.less a j t) L m k=w_ a L m k:=λk f m=>by
  unfold w_;rw[jX c,aun f,S k f]
 have K:∀(i:Nat) u,(Go.Proofs.YtglncfdpdaageaaGreatDoor.Sp.less a j t)[i]? =some u->0<=u.1/\u.1<u.2.1/\u.2.1<=(n:Int)/\-1<=u.2.2.1/\u.2.2.1<(i:Int)/\(0<i->0<=u.2.2.1)/\0<=u.2.2.2/\u.2.2.2<=2:=λi u b=>by
  rw[jX c]at b;by_cases d:i=j
  ·subst d
   rw[auo rfl]at b;cases b;obtain⟨y,z,A,B,C,q,M,N⟩:=F;exact⟨y,z,A,B,C,q,by show 0<=t.2.2.2 - 1;omega,by show t.2.2.2 - 1<=2;omega⟩
  ·rw[aun d]at b
   exact h.sh i u b
 have J:∀x∈L,∃(i:Nat) (u:Tk),x=(i:Int)/\(Go.Proofs.YtglncfdpdaageaaGreatDoor.Sp.less a j t)[i]? =some u/\u.2.2.2=0:=λx I=>by
  obtain⟨i,u,rfl,b,H⟩:=h.lv x I;have Q:¬i=j:=λe=>v (e▸I);exact⟨i,u,rfl,by rw[jX c,aun Q];exact b,H⟩
 refine⟨O,v,λg=>?_,λg=>?_⟩
 ·have l:iz (Go.Proofs.YtglncfdpdaageaaGreatDoor.Sp.less a j t) L j=false:=by rw[kV o];simp[g]
  have r:∀m:Int,ks (Go.Proofs.YtglncfdpdaageaaGreatDoor.Sp.less a j t) L m=ks a L m:=λm=>by
   unfold ks;rw[jY];refine lA λk f=>?_;by_cases p:k=j
   ·subst p
    rw[fT o,fT c,D,l]
   ·exact w k p m
  have G:Tree n (Go.Proofs.YtglncfdpdaageaaGreatDoor.Sp.less a j t) L (-1):=⟨by rw[jY];exact h.ne,K,h.nd,J,λi u b=>by
   rw[r,aun bv];rw[jX c]at b;by_cases d:i=j
   ·subst d
    rw[auo rfl]at b;cases b;show t.2.2.2 - 1=_;omega
   ·rw[aun d]at b
    have:=h.ct i u b;rw[aun bv]at this;exact this⟩
  exact⟨G,G.agc j j (auq _) (by rw[jY];exact E) l⟩
 ·have l:iz (Go.Proofs.YtglncfdpdaageaaGreatDoor.Sp.less a j t) L j=true:=by rw[kV o];simp[g,v]
  obtain⟨y,z,A,B,C,q,M,N⟩:=F;refine⟨⟨by rw[jY];exact h.ne,K,h.nd,J,λi u b=>?_⟩,λe=>?_⟩
  ·have r:(ks a L (i:Int):Int)=(ks (Go.Proofs.YtglncfdpdaageaaGreatDoor.Sp.less a j t) L (i:Int):Int)+(if(i:Int)=t.2.2.1 then 1 else 0):=by
    by_cases d:(i:Int)=t.2.2.1
    ·rw[auo d]
     have:ks a L (i:Int)=ks (Go.Proofs.YtglncfdpdaageaaGreatDoor.Sp.less a j t) L (i:Int)+1:=by
      unfold ks;rw[jY];exact tJ (i:=j) (by rw[fT c,D];simp[d]) (by rw[fT o,l];simp) (λk f=>(w k f _).symm) _ E
     omega
    ·rw[aun d]
     have:ks a L (i:Int)=ks (Go.Proofs.YtglncfdpdaageaaGreatDoor.Sp.less a j t) L (i:Int):=by
      unfold ks;rw[jY];refine lA λk f=>?_;by_cases p:k=j
      ·subst p
       rw[fT o,fT c];have:¬t.2.2.1=(i:Int):=λe=>d e.symm;simp[this]
      ·exact(w k p _).symm
     omega
   rw[jX c]at b;by_cases d:i=j
   ·subst d
    rw[auo rfl]at b;cases b;rw[aun bv]at r⊢;show t.2.2.2 - 1=_;omega
   ·rw[aun d]at b
    have:=h.ct i u b;rw[aun bv]at this;omega
  ·have:j=0:=by
    by_cases g:j=0
    ·exact g
    ·have:=q bv;omega
   subst this;exact l
def part(a:Do Tk)(i:Nat)(t:Tk)(mid:Int):Do Tk:=(a++[(t.1,mid,(i:Int),0),(mid,t.2.1,(i:Int),0)]).set i (t.1,t.2.1,t.2.2.1,2)
def zX(a:Do Tk)(i:Nat)(t:Tk)(b:Int):(part a i t b).length=a.length+2:=by simp[part]
def zY{a:Do Tk}{i:Nat}{t:Tk}{mid:Int}(j:a[i]? =some t)(k:Nat):(part a i t mid)[k]? =if k=i then some (t.1,t.2.1,t.2.2.1,2)else if k<a.length then a[k]? else if k=a.length then some (t.1,mid,(i:Int),0)else if k=a.length+1 then some (mid,t.2.1,(i:Int),0)else none:=by
 have l:=cS j;unfold part;rw[avs];by_cases h:k=i
 ·subst h;simp;omega
 ·rw[aun (λe=>h e.symm),aun h]
  by_cases b:k<a.length
  ·rw[auo b,au7 b]
  ·rw[aun b,avG bv]
   by_cases c:k=a.length
   ·subst c;simp
   ·rw[aun c]
    by_cases f:k=a.length+1
    ·subst f;simp
    ·rw[aun f]
     obtain⟨d,g⟩:∃d,k - a.length=d+2:=⟨k - a.length - 2,bv⟩;rw[g];rfl
def Tree.part{n:Nat}{c:Do Tk}{i:Nat}{L:aX}{t:Tk}{mid:Int}(h:Tree n c ((i:Int)::L) (-1))(j:c[i]? =some t)(U:t.1<mid)(V:mid<t.2.1):Tree n (part c i t mid) ((c.length:Int)::((c.length+1:Nat):Int)::L) (-1):=by
 have z:=avD.1 h.nd;have X:=cS j;have q:t.2.2.2=0:=by
  obtain⟨k,u,e,b,q⟩:=h.lv (i:Int) d5;obtain rfl:i=k:=bv
  rw[j]at b;cases b;exact q
 obtain⟨E,F,G,H,I,J,R,S⟩:=h.sh i t j;have w:∀x∈L,x<(c.length:Int):=λx f=>by
  obtain⟨k,u,rfl,b,_⟩:=h.lv x (by simp[f]);have:=cS b;omega
 have aZ:=zY (mid:=mid) j;obtain⟨M,l⟩:∃M:aX,M=(c.length:Int)::((c.length+1:Nat):Int)::L:=⟨_,rfl⟩;rw[<-l];have y:∀k,k<c.length->iz (Go.Proofs.YtglncfdpdaageaaGreatDoor.Sp.part c i t mid) M k=iz c ((i:Int)::L) k:=λk d=>by
  by_cases g:k=i
  ·subst g
   rw[kV (by rw[aZ,auo rfl]),kV j];simp
  ·unfold iz
   rw[aZ,aun g,auo d,l];have B:¬(k:Int)=(i:Int):=bv
   have C:¬(k:Int)=(c.length:Int):=bv
   have D:¬(k:Int)=(c.length:Int)+1:=bv
   simp[B,C,D]
 have A:∀k,k=c.length\/k=c.length+1->iz (Go.Proofs.YtglncfdpdaageaaGreatDoor.Sp.part c i t mid) M k=false:=λk d=>by
  unfold iz;have:(k:Int)∈M:=by rw[l];rcases d with rfl|rfl<;>simp
  simp[this]
 have N:∀k,k<c.length->∀m:Int,w_ (Go.Proofs.YtglncfdpdaageaaGreatDoor.Sp.part c i t mid) M m k=w_ c ((i:Int)::L) m k:=λk d m=>by
  by_cases g:k=i
  ·subst g
   rw[fT (by rw[aZ,auo rfl]),fT j,y k d]
  ·unfold w_
   rw[aZ,aun g,auo d,y k d]
 have K:∀m:Int,ks (Go.Proofs.YtglncfdpdaageaaGreatDoor.Sp.part c i t mid) M m=ks c ((i:Int)::L) m+(if m=(i:Int)then 2 else 0):=λm=>by
  unfold ks;rw[zX,ax3,ax3,aw2,aw2,lA (n:=c.length) (λk d=>N k d m)];have P:w_ (Go.Proofs.YtglncfdpdaageaaGreatDoor.Sp.part c i t mid) M m c.length=decide ((i:Int)=m):=by
   rw[fT (t:=(t.1,mid,(i:Int),0)) (by rw[aZ,aun bv,aun bv,auo rfl]),A _ (.inl rfl)];simp
  have Q:w_ (Go.Proofs.YtglncfdpdaageaaGreatDoor.Sp.part c i t mid) M m (c.length+1)=decide ((i:Int)=m):=by
   rw[fT (t:=(mid,t.2.1,(i:Int),0)) (by rw[aZ,aun bv,aun bv,aun bv,auo rfl]),A _ (.inr rfl)];simp
  simp only[ayS,P,Q];by_cases r:m=(i:Int)
  ·subst r;simp
  ·have:¬(i:Int)=m:=λe=>r e.symm
   simp[r,this]
 refine⟨by rw[zX];omega,λk u b=>?_,?_,λx f=>?_,λk u b=>?_⟩
 ·rw[aZ]at b
  by_cases g:k=i
  ·subst g
   rw[auo rfl]at b;cases b;exact⟨E,F,G,H,I,J,by show(0:Int)<=2;omega,by show(2:Int)<=2;omega⟩
  ·rw[aun g]at b
   by_cases d:k<c.length
   ·rw[auo d]at b
    exact h.sh k u b
   ·rw[aun d]at b
    by_cases o:k=c.length
    ·rw[auo o]at b
     cases b;simp only;omega
    ·rw[aun o]at b
     by_cases p:k=c.length+1
     ·rw[auo p]at b
      cases b;simp only;omega
     ·rw[aun p]at b;cases b
 ·rw[l]
  refine avD.2 ⟨λf=>?_,avD.2 ⟨λf=>?_,z.2⟩⟩
  ·rcases auT.1 f with e|f
   ·omega
   ·have:=w _ f;omega
  ·have:=w _ f;omega
 ·rw[l]at f
  rcases auT.1 f with rfl|f
  ·exact⟨c.length,_,rfl,by rw[aZ,aun bv,aun bv,auo rfl],rfl⟩
  ·rcases auT.1 f with rfl|f
   ·exact⟨c.length+1,_,rfl,by rw[aZ,aun bv,aun bv,aun bv,auo rfl],rfl⟩
   ·obtain⟨k,u,rfl,b,q⟩:=h.lv x (by simp[f])
    have g:¬k=i:=λe=>z.1 (e▸f);exact⟨k,u,rfl,by rw[aZ,aun g,auo (cS b)];exact b,q⟩
 ·rw[K,aun (show¬(k:Int)= -1 by omega)]
  rw[aZ]at b;have O:∀m:Nat,c.length<=m->ks c ((i:Int)::L) (m:Int)=0:=λm r=>by
   unfold ks;rw[List.countP_eq_zero];intro a v;have v:=avr.1 v;obtain⟨u,b⟩:=get_at v;obtain⟨_,_,_,_,W,_⟩:=h.sh a u b;rw[fT b];have:¬u.2.2.1=(m:Int):=bv
   simp[this]
  by_cases g:k=i
  ·subst g
   rw[auo rfl]at b;cases b;have:=h.ct k t j;rw[aun bv,q]at this;rw[auo rfl];show(2:Int)=_;omega
  ·rw[aun g]at b
   rw[aun (show¬(k:Int)=(i:Int) by omega)];by_cases d:k<c.length
   ·rw[auo d]at b
    have:=h.ct k u b;rw[aun bv]at this;rw[this];omega
   ·rw[O k bv]
    rw[aun d]at b;by_cases o:k=c.length
    ·rw[auo o]at b
     cases b;rfl
    ·rw[aun o]at b
     by_cases p:k=c.length+1
     ·rw[auo p]at b
      cases b;rfl
     ·rw[aun p]at b;cases b
def tn(g u:Nat):Nat:=if h:u<=g\/u<=1 then 1 else 1+tn g (u/2)+tn g (u - u/2)
 termination_by u
 decreasing_by all_goals omega
def Qv{g u:Nat}(h:u<=g):tn g u=1:=by rw[tn,dif_pos (.inl h)]
def Qw{g u:Nat}(a:1<=g)(h:g<u):tn g u=1+tn g (u/2)+tn g (u - u/2):=by rw[tn,dif_neg bv]
def anp(g u:Nat):1<=tn g u:=by
 rw[tn];split<;>omega
def Qx{g:Nat}(a:1<=g):∀(k u:Nat),u<=k->1<=u->tn g u<=2*u - 1
 |0,u,c,h=>by omega
 |k+1,u,c,h=>by
  by_cases b:u<=g
  ·rw[Qv b];omega
  ·rw[Qw a bv]
   have d:=Qx a k (u/2) bv bv;have e:=Qx a k (u - u/2) bv bv;omega
def Ao(a b:Int):aX:=(List.range (b - a).toNat).map λ(k:Nat)=>a+(k:Int)
def LG{a b x:Int}:x∈Ao a b↔a<=x/\x<b:=by
 unfold Ao;rw[auD];constructor
 ·rintro⟨k,c,rfl⟩
  have:=avr.1 c;omega
 ·rintro⟨d,e⟩
  exact⟨(x - a).toNat,avr.2 bv,bv⟩
def Yc{a m b:Int}(c:a<=m)(d:m<=b):Ao a m++Ao m b=Ao a b:=by
 unfold Ao;obtain⟨p,rfl⟩:∃p:Nat,m=a+(p:Int):=⟨(m - a).toNat,bv⟩;obtain⟨q,rfl⟩:∃q:Nat,b=a+(p:Int)+(q:Int):=⟨(b - (a+p)).toNat,bv⟩;rw[show(a+(p:Int) - a).toNat=p by omega,show(a+(p:Int)+(q:Int) - (a+(p:Int))).toNat=q by omega,show(a+(p:Int)+(q:Int) - a).toNat=p+q by omega,List.range_add,avh,avE];refine auA _ (avi λk _=>?_);simp only[Function.comp];omega
def Jz(a:Do Tk)(x:Int):aX:=match a[x.toNat]? with
 |some t=>Ao t.1 t.2.1
 |none=>[]
def szT(g:Nat)(a:Do Tk)(x:Int):Nat:=match a[x.toNat]? with
 |some t=>tn g (t.2.1 - t.1).toNat
 |none=>0
def left(g:Nat)(a:Do Tk)(L:aX):Nat:=(L.map (szT g a)).sum
def mZ{ts:Do Tk}{i:Nat}{t:Tk}(h:ts[i]? =some t):Jz ts (i:Int)=Ao t.1 t.2.1:=by
 unfold Jz;rw[auB,h]
def tK{g:Nat}{ts:Do Tk}{i:Nat}{t:Tk}(h:ts[i]? =some t):szT g ts (i:Int)=tn g (t.2.1 - t.1).toNat:=by
 unfold szT;rw[auB,h]
def jZ(b c:Do Tk):Prop:=c.length=b.length/\∀(k:Nat) (t:Tk),b[k]? =some t->∃a,c[k]? =some a/\a.1=t.1/\a.2.1=t.2.1
def jZ.refl(a:Do Tk):jZ a a:=⟨rfl,λk t h=>⟨t,h,rfl,rfl⟩⟩
def jZ.trans{a b c:Do Tk}(h:jZ a b)(k:jZ b c):jZ a c:=⟨k.1.trans h.1,λi t j=>by
 obtain⟨u,l,d,e⟩:=h.2 i t j;obtain⟨v,m,f,g⟩:=k.2 i u l;exact⟨v,m,f.trans d,g.trans e⟩⟩
def jZ.less{a:Do Tk}{j:Nat}{t:Tk}(c:a[j]? =some t):jZ a (less a j t):=⟨jY a j t,λk u b=>by
 rw[jX c];by_cases h:k=j
 ·subst h
  rw[c]at b;cases b;exact⟨_,auo rfl,rfl,rfl⟩
 ·exact⟨u,by rw[aun h];exact b,rfl,rfl⟩⟩
def jZ.un{a b:Do Tk}(h:jZ a b)(x:Int):Jz b x=Jz a x:=by
 unfold Jz;cases c:a[x.toNat]? with
 |some t=>obtain⟨g,d,e,f⟩:=h.2 _ t c;rw[d];simp only[e,f]
 |none=>
  have:b[x.toNat]? =none:=au5 (by rw[h.1];exact azm.1 c);rw[this]
def jZ.sz{g:Nat}{a b:Do Tk}(h:jZ a b)(x:Int):szT g b x=szT g a x:=by
 unfold szT;cases c:a[x.toNat]? with
 |some t=>obtain⟨i,d,e,f⟩:=h.2 _ t c;rw[d];simp only[e,f]
 |none=>
  have:b[x.toNat]? =none:=au5 (by rw[h.1];exact azm.1 c);rw[this]
def lY(b c:Do Tk):Prop:=∀(k:Nat) (t:Tk),b[k]? =some t->∃a,c[k]? =some a/\a.1=t.1/\a.2.1=t.2.1
def lY.refl(a:Do Tk):lY a a:=λk t h=>⟨t,h,rfl,rfl⟩
def lY.part{b:Do Tk}{i:Nat}{t:Tk}{mid:Int}(c:b[i]? =some t):lY b (part b i t mid):=λk u a=>by
 rw[zY c];by_cases h:k=i
 ·subst h
  rw[c]at a;cases a;exact⟨_,auo rfl,rfl,rfl⟩
 ·exact⟨u,by rw[aun h,auo (cS a)];exact a,rfl,rfl⟩
def lY.un{a c:Do Tk}(h:lY a c){i:Nat}(g:i<a.length):Jz c (i:Int)=Jz a (i:Int):=by
 obtain⟨t,b⟩:=get_at g;obtain⟨j,d,e,f⟩:=h i t b;rw[mZ b,mZ d,e,f]
def lY.sz{g:Nat}{a c:Do Tk}(h:lY a c){i:Nat}(j:i<a.length):szT g c (i:Int)=szT g a (i:Int):=by
 obtain⟨t,b⟩:=get_at j;obtain⟨k,d,e,f⟩:=h i t b;rw[tK b,tK d,e,f]
def tM(n:Nat):aX:=(List.range n).map λ(k:Nat)=>(k:Int)
structure Ap(n g:Nat)(ts:List Tk)(dn:br)(L us:aX):Prop where
 tr:Tree n ts L (-1)
 n1:1<=n
 n2:n<=60
 g1:1<=g
 g2:g<=8
 dl:dn.length=n
 pu:(us++L.flatMap (Jz ts)).Perm (tM n)
 dd:∀k:Nat,k<n->(dn[k]? =some true↔(k:Int)∈us)
 nb:ts.length+left g ts L=tn g n+L.length
def Bn{g:Nat}{a:Do Tk}{L M:aX}(b:L.Perm M):left g a L=left g a M:=(b.map _).sum_nat
def Ap.perm{n g:Nat}{d:Do Tk}{c:br}{L M b:aX}(h:Ap n g d c L b)(a:L.Perm M):Ap n g d c M b:=
 ⟨h.tr.perm a,h.n1,h.n2,h.g1,h.g2,h.dl,((a.flatMap_right _).append_left b).symm.trans h.pu,h.dd,by rw[<-Bn a,<-a.length_eq];exact h.nb⟩
def ajr{n g:Nat}{ts:Do Tk}{L:aX}(h:∀x∈L,∃(i:Nat) (t:Tk),x=(i:Int)/\ts[i]? =some t):L.length<=left g ts L:=by
 induction L with
 |nil=>simp[left]
 |cons x L c=>
  obtain⟨i,t,rfl,a⟩:=h x d5;have:=c λy b=>h y (by simp[b]);have d:=anp g (t.2.1 - t.1).toNat;unfold left at this⊢;rw[auL,aw3,tK a,auP];omega
def Ap.len{n g:Nat}{a:Do Tk}{b:br}{L j:aX}(h:Ap n g a b L j):a.length<=tn g n/\L.length<=left g a L/\a.length<=119:=by
 have c:=ajr (n:=n) (g:=g) (ts:=a) (L:=L) λx f=>by
  obtain⟨i,t,e,d,_⟩:=h.tr.lv x f;exact⟨i,t,e,d⟩
 have k:=h.nb;have l:=Qx h.g1 n n (auq _) h.n1;have:=h.n2;refine⟨bv,c,bv⟩
def Ap.first{n g:Nat}(c:1<=n)(d:n<=60)(e:1<=g)(f:g<=8):Ap n g [((0:Int),(n:Int),(-1:Int),(0:Int))] (replicate n false) [0] []:=by
 have aZ:∀(i:Nat) t,[((0:Int),(n:Int),(-1:Int),(0:Int))][i]? =some t->i=0/\t=((0:Int),(n:Int),(-1:Int),(0:Int)):=λi t h=>by
  cases i with
  |zero=>simp at h;exact⟨rfl,h.symm⟩
  |succ i=>simp at h
 refine⟨⟨d5,λi t a=>?_,d5,λx b=>?_,λj t a=>?_⟩,c,d,e,f,d5,?_,λk l=>?_,?_⟩
 ·obtain⟨rfl,rfl⟩:=aZ i t a
  simp only;omega
 ·simp at b
  subst b;exact⟨0,_,rfl,rfl,rfl⟩
 ·obtain⟨rfl,rfl⟩:=aZ j t a
  simp[ks,w_]
 ·simp only[avd,au1,ax2,au_]
  have:Jz [((0:Int),(n:Int),(-1:Int),(0:Int))] 0=tM n:=by
   have:=mZ (ts:=[((0:Int),(n:Int),(-1:Int),(0:Int))]) (i:=0) rfl;rw[show((0:Nat):Int)=0 from rfl]at this;rw[this];simp only[Ao,tM];rw[show((n:Int) - 0).toNat=n by omega];exact avi λk _=>by omega
  rw[this]
 ·simp[awS,l]
 ·have:=tK (g:=g) (ts:=[((0:Int),(n:Int),(-1:Int),(0:Int))]) (i:=0) rfl
  rw[show((0:Nat):Int)=0 from rfl]at this;simp only[left,auL,avy,aw3,List.sum_nil,this,auP,avg];rw[show((n:Int) - 0).toNat=n by omega];omega
def Ap.did{n g:Nat}{a b:Do Tk}{e c:br}{L o:aX}{i:Nat}{t:Tk}(h:Ap n g a e ((i:Int)::L) o)(m:a[i]? =some t)(v:(t.2.1 - t.1).toNat<=g)(d:jZ a b)(u:Tree n b L (-1))
 (q:c.length=n) (p:∀k:Nat,k<n->(c[k]? =some true↔e[k]? =some true\/(t.1<=(k:Int)/\(k:Int)<t.2.1))):Ap n g b c L (o++Ao t.1 t.2.1)/\left g a ((i:Int)::L)=left g b L+1:=by
 have r:left g b L=left g a L:=by
  unfold left;rw[avi λx _=>d.sz x]
 have l:left g a ((i:Int)::L)=left g b L+1:=by
  rw[r];unfold left;rw[auL,aw3,tK m,Qv v];omega
 refine⟨⟨u,h.n1,h.n2,h.g1,h.g2,q,?_,λk j=>?_,?_⟩,l⟩
 ·have f:=h.pu
  rw[au1,mZ m,<-auV]at f;have:L.flatMap (Jz b)=L.flatMap (Jz a):=by rw[show Jz b=Jz a from funext λx=>d.un x]
  rw[this];exact f
 ·rw[p k j,h.dd k j,auC,LG]
 ·have:=h.nb
  rw[l,auP]at this;rw[d.1];omega
def Ap.anq{n g:Nat}{a:Do Tk}{l:br}{L z:aX}{i:Nat}{t:Tk}{b:Int}(h:Ap n g a l ((i:Int)::L) z)(c:a[i]? =some t)(j:g<(t.2.1 - t.1).toNat)(C:b=t.1+(((t.2.1 - t.1).toNat/2:Nat):Int)):
 Ap n g (part a i t b) l ((a.length:Int)::((a.length+1:Nat):Int)::L) z/\left g a ((i:Int)::L)=left g (part a i t b) ((a.length:Int)::((a.length+1:Nat):Int)::L)+1:=by
 have v:=h.g1;have p:t.1<b:=bv
 have q:b<t.2.1:=bv
 have B:=cS c;have y:=lY.part (mid:=b) c;have r:∀x∈L,∃k:Nat,x=(k:Int)/\k<a.length:=λx d=>by
  obtain⟨k,u,rfl,j,_⟩:=h.tr.lv x (by simp[d]);exact⟨k,rfl,cS j⟩
 have m:(part a i t b)[a.length]? =some (t.1,b,(i:Int),0):=by rw[zY c,aun bv,aun bv,auo rfl]
 have o:(part a i t b)[a.length+1]? =some (b,t.2.1,(i:Int),0):=by rw[zY c,aun bv,aun bv,aun bv,auo rfl]
 have A:L.map (szT g (part a i t b))=L.map (szT g a):=avi λx d=>by
  obtain⟨k,rfl,f⟩:=r x d;exact y.sz f
 have w:left g a ((i:Int)::L)=left g (part a i t b) ((a.length:Int)::((a.length+1:Nat):Int)::L)+1:=by
  unfold left;rw[auL,auL,auL,aw3,aw3,aw3,A,tK c,tK m,tK o,Qw v j];simp only;rw[show(b - t.1).toNat=(t.2.1 - t.1).toNat/2 by omega,show(t.2.1 - b).toNat=(t.2.1 - t.1).toNat - (t.2.1 - t.1).toNat/2 by omega];omega
 refine⟨⟨h.tr.part c p q,h.n1,h.n2,v,h.g2,h.dl,?_,h.dd,?_⟩,w⟩
 ·have e:=h.pu
  rw[au1,mZ c]at e;rw[au1,au1,mZ m,mZ o,<-auV (Ao _ _),Yc (Int.le_of_lt p) (Int.le_of_lt q)];have:L.flatMap (Jz (part a i t b))=L.flatMap (Jz a):=by
   rw[ax4,ax4,avi λx d=>?_];obtain⟨k,rfl,f⟩:=r x d;exact y.un f
  rw[this];exact e
 ·have e:=h.nb
  rw[w,auP]at e;rw[zX,auP,auP];omega
structure aaM(n g:Nat)(ts:List Tk)(dn:br):Prop where
 n1:1<=n
 n2:n<=60
 g1:1<=g
 g2:g<=8
 dl:dn.length=n
 t1:0<ts.length
 t2:ts.length<=200
 sh:∀(i:Nat) t,ts[i]? =some t->0<=t.1/\t.1<t.2.1/\t.2.1<=(n:Int)/\-1<=t.2.2.1/\t.2.2.1<(i:Int)/\(0<i->0<=t.2.2.1)/\0<=t.2.2.2/\t.2.2.2<=2
def Ap.ok{n g:Nat}{b:Do Tk}{a:br}{L c:aX}(h:Ap n g b a L c):aaM n g b a:=
 ⟨h.n1,h.n2,h.g1,h.g2,h.dl,h.tr.ne,by have:=h.len;omega,h.tr.sh⟩
def GD{N:Nat}(e:1<=N){n g:Nat}(a:1<=n)(b:n<=60)(c:1<=g)(d:g<=8):Oc N ((n:Int),(g:Int))=some true:=by
 obtain⟨N,rfl⟩:∃m,N=m+1:=⟨N - 1,bv⟩;rw[adP,eC bv,eC bv,eC bv];simp only[aur,avn];omega
def Cv(N:Nat){n g:Nat}{a:Do Tk}{b:br}(h:aaM n g a b):∀(k i m:Nat),i+k=a.length->k<m->
 yt N m (a,((a.length:Nat):Int),(i:Int),a,(g:Int),b)=some (.inl ())
 |k,i,0,c,d=>by omega
 |0,i,m+1,c,d=>by rw[Fs,dT bv]
 |k+1,i,m+1,c,d=>by
  obtain⟨t,e⟩:=get_at (xs:=a) (i:=i) bv;obtain⟨f,j,l,o,p,q,r,u⟩:=h.sh i t e;have:=h.t2;have:=h.dl;rw[Fs,eC bv,bd e,ob,dT bv,dT bv,dT bv,dT bv,dT bv,dT bv,dT bv,cG bv];exact Cv N h k (i+1) m bv bv
def uL{N:Nat}(d:Fu+2<=N){n g:Nat}{a:Do Tk}{b:br}(h:aaM n g a b):Fq N (a,(g:Int),b)=some true:=by
 obtain⟨N,rfl⟩:∃m,N=m+1:=⟨N - 1,bv⟩;have:=h.t1;have:=h.t2;have c:=bR;rw[ZR,h.dl,GD bv h.n1 h.n2 h.g1 h.g2,ob];simp only[auH,auv];rw[dT bv,dT bv];have:=Cv N h a.length 0 N bv bv;rw[show((0:Nat):Int)=0 from rfl]at this;rw[this];rfl
def GG{N:Nat}(c:Fu+3<=N){n g:Nat}{a:Do Tk}{b:br}(h:aaM n g a b){i:Nat}(d:i<a.length):AT N (a,(g:Int),b,(i:Int))=some 0:=by
 obtain⟨N,rfl⟩:∃m,N=m+1:=⟨N - 1,bv⟩;rw[ZS,uL bv h,ob];simp only[auH,auv];rw[dT bv,dT bv]
def GH{N:Nat}(h:1<=N){a b c d:Int}(e:0<=a)(f:a<=b)(g:b<=60):wS N (a,b,c,d)=some (b - a):=by
 obtain⟨N,rfl⟩:∃m,N=m+1:=⟨N - 1,bv⟩;rw[ZT,gZ bv bv]
def GI{N:Nat}(j:Fu+4<=N){n g:Nat}{b:Do Tk}{c:br}(h:aaM n g b c){i:Nat}{t:Tk}(a:b[i]? =some t):Ft N (b,(g:Int),c,(i:Int))=some (decide ((g:Int)<t.2.1 - t.1)):=by
 obtain⟨N,rfl⟩:∃m,N=m+1:=⟨N - 1,bv⟩;obtain⟨d,e,f,_⟩:=h.sh i t a;have:=h.n2;rw[ZU,GG bv h (cS a),ob,eC rfl,bd a,ob,GH bv d bv bv,ob]
def uP{N:Nat}(c:1<=N)(a:Do Tk)(b:a.length<=100000000000):Oq N a=some a:=by
 obtain⟨N,rfl⟩:∃m,N=m+1:=⟨N - 1,bv⟩;rw[adV,cw bv (by simpa using b),avd];cases a with
 |nil=>exact ur.2 ⟨rfl,rfl⟩
 |cons x d=>rfl
def aaN{N:Nat}(c:1<=N)(a:br)(b:a.length<=100000000000):V1 N a=some a:=by
 obtain⟨N,rfl⟩:∃m,N=m+1:=⟨N - 1,bv⟩;rw[adX,cw bv (by simpa using b),avd];cases a with
 |nil=>exact ur.2 ⟨rfl,rfl⟩
 |cons x d=>rfl
def aaO{N:Nat}(c:1<=N)(a:bP)(b:a.length<=100000000000):VZ N a=some a:=by
 obtain⟨N,rfl⟩:∃m,N=m+1:=⟨N - 1,bv⟩;rw[adT,cw bv (by simpa using b),avd];cases a with
 |nil=>exact ur.2 ⟨rfl,rfl⟩
 |cons x d=>rfl
def ajs{N:Nat}(b:1<=N)(a:aX):V0 N a=some a:=by
 obtain⟨N,rfl⟩:∃m,N=m+1:=⟨N - 1,bv⟩;rw[adW,afG,ob,eC rfl]
def Tm(t:Tk):Int:=t.1+(((t.2.1 - t.1).toNat/2:Nat):Int)
def DX{N:Nat}(p:Fu+4<=N){n g:Nat}{a:Do Tk}{c:br}(h:aaM n g a c){i:Nat}{t:Tk}(b:a[i]? =some t)(r:t.2.2.2=0)(q:(g:Int)<t.2.1 - t.1):
 KX N (a,(g:Int),c,(i:Int))=some (((a.length:Nat):Int),((a.length+1:Nat):Int),0,part a i t (Tm t),(g:Int),c):=by
 obtain⟨N,rfl⟩:∃m,N=m+1:=⟨N - 1,bv⟩;obtain⟨e,l,o,_⟩:=h.sh i t b;have:=h.n2;have:=h.t2;obtain⟨u,d⟩:∃u:Nat,t.2.1 - t.1=(u:Int):=⟨(t.2.1 - t.1).toNat,bv⟩;have j:Int.tdiv (t.2.1 - t.1) 2=((u/2:Nat):Int):=by rw[d];exact zC u 2
 have f:t.1+((u/2:Nat):Int)=Tm t:=by unfold Tm;rw[d,auB]
 rw[ZX,GG bv h (cS b),ob,BE rfl,bd b,ob,GH bv e bv bv,ob,dT bv,dT bv,gZ bv bv,dT bv,ob,uP bv a bv,ob,
  j,gZ (x:=((u/2:Nat):Int)) bv bv,gZ (x:=t.1+((u/2:Nat):Int)) bv bv,f,cw bv d7,ob]
 have k:(a++[(t.1,Tm t,(i:Int),0),(Tm t,t.2.1,(i:Int),0)])[i]? =some t:=by
  rw[au7 (cS b)];exact b
 rw[bd k,ob,ob,cG bv,auB];rfl
def Yd{n g:Nat}{ts ts0:Do Tk}{t:Tk}(u:t.2.1<=(n:Int))(B:n<=60)(w p f:Int)(l o:Int):∀(k:Nat) (x:Int) (a:br),a.length=n->0<=x->x+(k:Int)=t.2.1->
 ∃c:br,c.length=n/\(∀j:Nat,j<n->(c[j]? =some true↔a[j]? =some true\/(x<=(j:Int)/\(j:Int)<t.2.1)))/\∀N m,k<m->yG N m (x,w,p,f,t.2.1,l,o,ts,a)=some (w,p,f,t.2.1,l,o,ts,c)
 |0,x,a,d,C,z=>⟨a,d,λj q=>⟨λh=>.inl h,λh=>h.elim id λh=>by omega⟩,λN m A=>by
  obtain⟨m,rfl⟩:∃e,m=e+1:=⟨m - 1,bv⟩;rw[Fy,dT bv]⟩
 |k+1,x,a,d,C,z=>by
  obtain⟨y,rfl⟩:∃y:Nat,x=(y:Int):=⟨x.toNat,bv⟩;obtain⟨b,v⟩:=get_at (xs:=a) (i:=y) bv;obtain⟨c,D,E,F⟩:=Yd (ts:=ts) (ts0:=ts0) (g:=g) u B w p f l o k ((y:Int)+1) (a.set y true) (by simpa using d) bv bv;refine⟨c,D,λj q=>?_,λN m A=>?_⟩
  ·rw[E j q,avs]
   by_cases r:y=j
   ·subst r
    rw[auo rfl,auo bv];constructor
    ·intro _;exact .inr ⟨bv,bv⟩
    ·intro _;exact .inl rfl
   ·rw[aun r]
    constructor
    ·rintro(h|h)
     ·exact .inl h
     ·exact .inr ⟨bv,h.2⟩
    ·rintro(h|h)
     ·exact .inl h
     ·exact .inr ⟨bv,h.2⟩
  ·obtain⟨m,rfl⟩:∃e,m=e+1:=⟨m - 1,bv⟩
   rw[Fy,eC bv,bd v,ob,ob,gZ bv bv,auB];exact F N m bv
def Cw{n:Nat}{L:aX}:∀(k:Nat) (p:Int) (a:Do Tk),p<(k:Int)->Tree n a L p->-1<=p->p<(a.length:Int)->a.length<=200->(p= -1->iz a L 0=true)->
 ∃(res:In) (d:Do Tk),jZ a d/\Tree n d L (-1)/\(res=true↔iz d L 0=true)/\∀N m,k+1<m->Dz N m (p,a)=some (if res=true then .inl d else .inr (false,d))
 |0,p,a,A,h,w,x,r,f=>by
  obtain rfl:p= -1:=bv
  refine⟨true,a,jZ.refl a,h,⟨λ_=>f rfl,λ_=>rfl⟩,λN m o=>?_⟩;obtain⟨m,rfl⟩:∃c,m=c+1:=⟨m - 1,bv⟩;rw[uF,BE rfl,auo rfl]
 |k+1,p,a,A,h,w,x,r,f=>by
  by_cases B:p= -1
  ·subst B
   refine⟨true,a,jZ.refl a,h,⟨λ_=>f rfl,λ_=>rfl⟩,λN m o=>?_⟩;obtain⟨m,rfl⟩:∃c,m=c+1:=⟨m - 1,bv⟩;rw[uF,BE rfl,auo rfl]
  ·obtain⟨j,rfl⟩:∃j:Nat,p=(j:Int):=⟨p.toNat,bv⟩
   obtain⟨t,b⟩:=get_at (xs:=a) (i:=j) bv;obtain⟨H,G,y,z⟩:=h.less b;obtain⟨_,_,_,_,s5,_,_,s8⟩:=h.sh j t b;have u:a.set j (t.1,t.2.1,t.2.2.1,t.2.2.2 - 1)=less a j t:=rfl;have q:(less a j t)[j]? =some (t.1,t.2.1,t.2.2.1,t.2.2.2 - 1):=by rw[jX b,auo rfl]
   by_cases v:t.2.2.2 - 1=0
   ·obtain⟨l,g⟩:=z v
    obtain⟨res,d,C,D,E,F⟩:=Cw k t.2.2.1 (less a j t) bv l (h.sh j t b).2.2.2.1 (by rw[jY];omega) (by rw[jY];exact r) g;refine⟨res,d,(jZ.less b).trans C,D,E,λN m o=>?_⟩;obtain⟨m,rfl⟩:∃c,m=c+1:=⟨m - 1,bv⟩;rw[uF,cnF bv,bd b,ob,ob,dT bv,ob,ob,auB,gZ bv bv,u,bd q,ob];rw[dT (by show¬(0:Int)<t.2.2.2 - 1;omega),ob];exact F N m bv
   ·obtain⟨l,g⟩:=y v
    refine⟨false,less a j t,jZ.less b,l,⟨λe=>(by cases e),λe=>(by rw[g]at e;cases e)⟩,λN m o=>?_⟩;obtain⟨m,rfl⟩:∃c,m=c+1:=⟨m - 1,bv⟩;rw[uF,cnF bv,bd b,ob,ob,dT bv,ob,ob,auB,gZ bv bv,u,bd q,ob];rw[eC (by show(0:Int)<t.2.2.2 - 1;omega)];simp
def aqs{n g:Nat}{a:Do Tk}{f:br}{L A:aX}{i:Nat}{t:Tk}(h:Ap n g a f ((i:Int)::L) A)(c:a[i]? =some t)(X:t.2.1 - t.1<=(g:Int)):
 ∃(j:In) (d:Do Tk) (l:br),Ap n g d l L (A++Ao t.1 t.2.1)/\left g a ((i:Int)::L)=left g d L+1/\jZ a d/\(j=true↔L=[])/\
  ∀N,Fu+4<=N->KY N (a,(g:Int),f,(i:Int))=some (j,0,d,(g:Int),l):=by
 obtain⟨I,w⟩:=h.tr.take c;obtain⟨q,Q,B,C,R,S,U,V⟩:=h.tr.sh i t c;have Y:=h.len;have M:=h.n2;have K:=cS c;have z:t.2.2.2=0:=by
  obtain⟨k,u,e,o,z⟩:=h.tr.lv (i:Int) d5;obtain rfl:i=k:=bv
  rw[c]at o;cases o;exact z
 obtain⟨j,d,r,v,G,H⟩:=Cw (i+1) t.2.2.1 a bv I C bv bv w;obtain⟨l,D,E,F⟩:=Yd (g:=g) (ts:=a) (ts0:=a) (t:=t) B M (g:Int) 0 t.1 t.2.2.1 t.2.2.2 (t.2.1 - t.1).toNat t.1 f h.dl q bv;obtain⟨j1,j2⟩:=h.did c bv r v D E;refine⟨j,d,l,j1,j2,r,G.trans v.over,λN W=>?_⟩;obtain⟨N,rfl⟩:∃m,N=m+1:=⟨N - 1,bv⟩;have w:=bR;obtain⟨p,y⟩:∃p:Nat,t.1=(p:Int):=⟨t.1.toNat,bv⟩;obtain⟨b,x⟩:=get_at (xs:=f) (i:=p) (by rw[h.dl];omega);have J:b=false:=by
  cases b with
  |false=>rfl
  |true=>
   have o:=(h.dd p bv).1 x;have P:=h.pu;have O:(tM n).Nodup:=by
    unfold tM;rw[azn,axr];exact ayO.imp λh e=>h bv
   have:=P.nodup_iff.2 O;rw[avk]at this;exact absurd rfl (this.2.2 _ o _ (by rw[au1,mZ c,auC,LG];exact .inl ⟨bv,bv⟩))
 subst J;rw[ZY,GG bv h.ok K,ob,BE rfl,bd c,ob,GH bv q bv bv,ob,dT bv,dT bv,y,bd x,ob];simp only[auv];rw[uP bv a bv,ob,aaN bv f (by rw[h.dl];omega),ob,<-y,F N N bv,ob];obtain⟨N,rfl⟩:∃m,N=m+1:=⟨N - 1,bv⟩;simp only;rw[adZ,H N N bv,ob];cases j with
 |_=>rfl
def Tn:∀(g:bh) (c d v:Int),bO (.i .i64) (dW (.i .i64) g c v) d=if c=d then some v else bO (.i .i64) g d
 |[],c,d,v=>by
  by_cases h:c=d
  ·subst h;simp[dW,bO,iP]
  ·have b:iP (.i .i64) c d=false:=by simp[iP,h]
   simp[dW,bO,b,h]
 |(x,y)::g,c,d,v=>by
  rw[dW];by_cases h:x=c
  ·subst h
   by_cases a:x=d
   ·subst a;simp[iP,bO]
   ·have b:iP (.i .i64) x d=false:=by simp[iP,a]
    have f:iP (.i .i64) x x=true:=by simp[iP]
    simp[bO,b,f,a]
  ·have b:iP (.i .i64) x c=false:=by simp[iP,h]
   simp only[b,auv,bO];by_cases a:x=d
   ·subst a
    have f:iP (.i .i64) x x=true:=by simp[iP]
    rw[f,aun (λe=>h e.symm)];rfl
   ·have f:iP (.i .i64) x d=false:=by simp[iP,a]
    rw[f];exact Tn g c d v
def To(n:Nat):(tM n).Nodup:=by
 unfold tM;rw[azn,axr];exact ayO.imp λh e=>h bv
def Ap.fresh{n g:Nat}{j:Do Tk}{c:br}{L o:aX}(h:Ap n g j c L o){x:Int}(f:x∈L):∃(i:Nat) (t:Tk) (a:Nat),x=(i:Int)/\j[i]? =some t/\t.2.2.2=0/\t.1=(a:Int)/\c[a]? =some false:=by
 obtain⟨i,t,rfl,d,m⟩:=h.tr.lv x f;obtain⟨p,q,r,_⟩:=h.tr.sh i t d;obtain⟨a,k⟩:∃a:Nat,t.1=(a:Int):=⟨t.1.toNat,bv⟩;obtain⟨b,e⟩:=get_at (xs:=c) (i:=a) (by rw[h.dl];omega);refine⟨i,t,a,rfl,d,m,k,?_⟩;cases b with
 |false=>exact e
 |true=>
  have l:=(h.dd a bv).1 e;have:=h.pu.nodup_iff.2 (To n);rw[avk]at this;exact absurd rfl (this.2.2 _ l _ (avI.2 ⟨_,f,by rw[mZ d,LG];exact⟨bv,bv⟩⟩))
def agd{N:Nat}(l:Fu+5<=N){n g:Nat}{c:Do Tk}{b:br}{L k:aX}(h:Ap n g c b L k){x:Int}(j:x∈L):KV N (c,(g:Int),b,x)=some true:=by
 obtain⟨N,rfl⟩:∃m,N=m+1:=⟨N - 1,bv⟩;obtain⟨i,t,p,rfl,a,f,e,d⟩:=h.fresh j;have o:=cS a;rw[ZV,eC bv,eC bv,bd a,ob,eC f,GI bv h.ok a,ob,cd];split
 ·rfl
 ·rw[ob,e,bd d];rfl
def Qy{n g:Nat}{B:Do Tk}{r:br}{L Q:aX}(h:Ap n g B r L Q)(d:bP)(a b:Int)(z:In)(A v:Int)(l:aX)(H:l.length<=200):∀(k j:Nat) (c:bh) (seen:aX),j+k=l.length->
 (∀y∈l.drop j,y∈L)->(seen++l.drop j).Nodup->(∀y,bO (.i .i64) c y=if y∈seen then some 1 else none)->
 ∃q,(∀y,bO (.i .i64) q y=if y∈seen++l.drop j then some 1 else none)/\∀N m,Fu+5<=N->k<m->yD N m (d,a,b,l,((l.length:Nat):Int),(j:Int),B,(g:Int),r,d,z,A,v,c)=some (.inl (d,a,b,B,(g:Int),r,d,z,A,v,q))
 |0,j,c,seen,G,p,o,f=>⟨c,by rw[avj bv,au_];exact f,λN m t f=>by
  obtain⟨m,rfl⟩:∃w,m=w+1:=⟨m - 1,bv⟩;rw[Fv,dT bv]⟩
 |k+1,j,c,seen,G,p,o,f=>by
  obtain⟨x,D⟩:=get_at (xs:=l) (i:=j) bv;have C:=dh D;rw[C]at p o;have K:¬x∈seen:=λF=>by
   rw[avk]at o;exact o.2.2 _ F _ d5 rfl
  have J:bO (.i .i64) c x=none:=by rw[f,aun K]
  have I:((seen++[x])++l.drop (j+1)).Nodup:=by rw[auV];exact o
  obtain⟨q,O,P⟩:=Qy h d a b z A v l H k (j+1) (dW (.i .i64) c x 1) (seen++[x]) bv (λy M=>p y (by simp[M])) I (λy=>by
   rw[Tn,f];by_cases u:x=y
   ·subst u;simp
   ·have:¬y=x:=λe=>u e.symm
    simp[u,this])
  refine⟨q,λy=>by rw[O,C];simp,λN m t R=>?_⟩;obtain⟨m,rfl⟩:∃w,m=w+1:=⟨m - 1,bv⟩;have E:wrap .i64 ((Option.getD (bO (.i .i64) c x) (0:Int))+(1:Int))=1:=by rw[J];rfl
  rw[Fv,eC bv,bd D,ob,E,Tn,auo rfl,dT d5,agd t h (p x d5),ob,cG bv];exact P N m t bv
def Qz{n g:Nat}{z:Do Tk}{v:br}{L H:aX}(h:Ap n g z v L H)(a:bP)(E:a.length<=8)(t:In)(u q:Int):∀(k j:Nat) (d:bh) (seen:aX),j+k=a.length->
 (∀y∈(a.drop j).flatten,y∈L)->(∀l∈a,l.length<=200)->(seen++(a.drop j).flatten).Nodup->(∀y,bO (.i .i64) d y=if y∈seen then some 1 else none)->
 ∀N m,Fu+5<=N->k<m->yE N m (a,((a.length:Nat):Int),(j:Int),z,(g:Int),v,a,t,u,q,d)=some (.inl ())
 |0,j,d,seen,B,e,o,b,w,N,m,f,D=>by
  obtain⟨m,rfl⟩:∃r,m=r+1:=⟨m - 1,bv⟩;rw[Fw,dT bv]
 |k+1,j,d,seen,B,e,o,b,w,N,m,f,D=>by
  obtain⟨m,rfl⟩:∃r,m=r+1:=⟨m - 1,bv⟩;obtain⟨l,p⟩:=get_at (xs:=a) (i:=j) bv;have A:=dh p;rw[A,au4]at e b;have C:=o l (auI p);rw[<-auV]at b;obtain⟨F,x,G⟩:=Qy h a ((a.length:Nat):Int) (j:Int) t u q l C l.length 0 d seen bv (λy c=>e y (by simp at c⊢;exact .inl c)) (by rw[ave];exact(avk.1 b).1) w;have I:=bR;rw[Fw,eC bv,bd p,ob];have:=G N N f bv;rw[show((0:Nat):Int)=0 from rfl]at this;rw[this,ob];simp only;rw[cG bv];exact Qz h a E t u q k (j+1) F (seen++l) bv (λy c=>e y (by simp at c⊢;exact .inr c)) o b (by rw[ave]at x;exact x) N m f bv
structure QA(n g P:Nat)(ts:List Tk)(dn:br)(dq:bP)(ov:Bool)(us:aX):Prop where
 job:Ap n g ts dn dq.flatten us
 pl:dq.length=P
 p1:1<=P
 p2:P<=8
 ovr:ov=true↔dq.flatten=[]
def uQ:∀(b:bP) (p:Nat) (l:aX),b[p]? =some l->∃R:aX,b.flatten.Perm (l++R)/\∀c,(b.set p c).flatten.Perm (c++R)
 |[],p,l,h=>by simp at h
 |a::b,0,l,h=>by
  simp at h;subst h;exact⟨b.flatten,by rw[au4],λc=>by rw[axl,au4]⟩
 |a::b,p+1,l,h=>by
  obtain⟨R,d,e⟩:=uQ b p l (by simpa using h);refine⟨a++R,?_,λc=>?_⟩
  ·rw[au4]
   exact(d.append_left a).trans (ayT a l R)
  ·rw[ayz,au4]
   exact((e c).append_left a).trans (ayT a c R)
def Ap.held{n g:Nat}{a:Do Tk}{e:br}{L o:aX}(h:Ap n g a e L o):L.length<=60:=by
 have m:∀M:aX,(∀x∈M,x∈L)->M.length<=(M.flatMap (Jz a)).length:=by
  intro M
  induction M with
  |nil=>intro _;simp
  |cons x M l=>
   intro c;have f:=l λy k=>c y (by simp[k]);obtain⟨i,t,rfl,d,_⟩:=h.tr.lv x (c x d5);obtain⟨p,q,_⟩:=h.tr.sh i t d;have b:1<=(Jz a (i:Int)).length:=by
    rw[mZ d];unfold Ao;rw[auz,List.length_range];omega
   rw[au1,auE,auP];omega
 have f:=m L λx j=>j;have b:=h.pu.length_eq;have r:=h.n2;rw[auE]at b;have:(tM n).length=n:=by simp[tM]
 omega
def QA.short{n g P:Nat}{j:Do Tk}{b:br}{a:bP}{i:In}{k:aX}(h:QA n g P j b a i k):∀l∈a,l.length<=200:=λl e=>by
 obtain⟨p,f⟩:=axY e;obtain⟨R,c,_⟩:=uQ a p l f;have m:=h.job.held;have d:=c.length_eq;rw[auE]at d;omega
def aaP{n g P:Nat}{k:Do Tk}{i:br}{e:bP}{f:In}{r:aX}(h:QA n g P k i e f r){d c:Int}(l:0<=d)(o:d<=100000)(p:0<=c)(q:c<=100000){N:Nat}(u:Fu+6<=N):
 KW N (k,(g:Int),i,e,f,d,c)=some true:=by
 obtain⟨N,rfl⟩:∃m,N=m+1:=⟨N - 1,bv⟩;have v:=h.pl;have w:=h.p1;have z:=h.p2;have t:=bR;have cnt:∀x:Int,0<=x->x<=100000->Og N x=some true:=λx a b=>by
  obtain⟨N,rfl⟩:∃m,N=m+1:=⟨N - 1,bv⟩;rw[adR,eC a];simp[b]
 rw[ZW,uL bv h.job.ok,ob];simp only[auH,auv];rw[dT bv,dT bv,cnt d l o,ob];simp only[auH,auv];rw[cnt c p q,ob];simp only[auH,auv];have:=Qz h.job e bv f d c e.length 0 [] [] bv (λy j=>by rw[ave]at j;exact j) h.short (by rw[ave,avd];exact h.job.tr.nd) (λy=>by simp[bO]) N N bv bv;rw[show((0:Nat):Int)=0 from rfl]at this;rw[this];rfl
def xi(P:Nat)(x:Int):Nat:=((x.tmod (P:Int)+(P:Int)).tmod (P:Int)).toNat
def Tp{P:Nat}(f:1<=P)(x:Int):0<=x.tmod (P:Int)+(P:Int)/\x.tmod (P:Int)+(P:Int)<2*P/\xi P x<P/\(x.tmod (P:Int)+(P:Int)).tmod (P:Int)=((xi P x:Nat):Int):=by
 have b:=ax5 x (show(0:Int)<(P:Int) by omega);have c: -(P:Int)<x.tmod (P:Int):=by
  have:=Int.lt_tmod_of_pos x (show(0:Int)<(P:Int) by omega);omega
 have a:0<=x.tmod (P:Int)+(P:Int):=bv
 have d:=ax5 (x.tmod (P:Int)+(P:Int)) (show(0:Int)<(P:Int) by omega);have e:=ayU (P:Int) a;unfold xi;omega
def agf{P k:Nat}(a:k<P):xi P (k:Int)=k:=by
 unfold xi;rw[Gg,awH a,show((k:Nat):Int)+(P:Int)=((k+P:Nat):Int) by omega,Gg,auB,Nat.add_mod_right,awH a]
def JA{N:Nat}(g:1<=N){P:Nat}(b:1<=P)(i:P<=8)(x:Int)(s:Do Tk)(s2:Int)(s3:br)(s4:In)(s5 s6 s7 s8 s9:Int)(s10:In)(h:bP)(c:h.length=P):
 Oo N (x,s,s2,s3,s4,s5,s6,s7,s8,s9,s10,h)=some (((xi P x:Nat):Int),h,s,s2,s3,s4,s5,s6,s7,s8,s9,s10):=by
 obtain⟨N,rfl⟩:∃m,N=m+1:=⟨N - 1,bv⟩;obtain⟨d,e,f,a⟩:=Tp b x;rw[adU,c,S4 bv,ob,gZ bv bv,S4 bv,ob,a]
def aaQ{α:Type}{a:Do α}{k:Nat}(b:k<=a.length):MO a 0 (k:Int) (k:Int)=some (a.take k):=by
 simp[MO,b]
section
variable(s:Do Tk)(s2:Int)(s3:br)(s4:In)(s5 s6 s7 s8 s9:Int)(s10:In)
def aaR{N:Nat}(g:1<=N){a:bP}{p v:Nat}{A B:aX}{x:Int}(c:a[p]? =some (A++[x]))(d:a[v]? =some B)(f:A.length<=200):
 B9 N ((p:Int),(v:Int),s,s2,s3,s4,s5,s6,s7,s8,s9,s10,a)=some (true,a.set p A,s,s2,s3,s4,s5,s6,s7,(p:Int),x,s10):=by
 obtain⟨N,rfl⟩:∃m,N=m+1:=⟨N - 1,bv⟩;have b:((A++[x]).length:Int) - 1=((A.length:Nat):Int):=by rw[auE,avp];omega
 have e:(A++[x])[A.length]? =some x:=d5
 rw[Fx,bd c,ob,ob,bd d,ob,ob,b,gZ bv bv,eC bv,bd e,ob,aaQ d5,ob,eC rfl,ob,ob,auB];simp
def QB{N:Nat}(f:1<=N){a:bP}{p v:Nat}{B:aX}{x:Int}(c:a[p]? =some [])(d:a[v]? =some (x::B))(e:B.length<=200):
 B9 N ((p:Int),(v:Int),s,s2,s3,s4,s5,s6,s7,s8,s9,s10,a)=some (true,a.set v B,s,s2,s3,s4,s5,s6,s7,(v:Int),x,s10):=by
 obtain⟨N,rfl⟩:∃m,N=m+1:=⟨N - 1,bv⟩;have b:ba (x::B) 0=some x:=rfl;rw[Fx,bd c,ob,ob,bd d,ob,ob];rw[show((([]:aX).length:Nat):Int) - 1= -1 from rfl,gZ bv bv,dT bv,eC (by rw[auP];omega),b,ob,tA bv (by rw[auP];omega),ob,ob,ob,auB];rfl
def Tq{N:Nat}(d:1<=N){a:bP}{p v:Nat}(b:a[p]? =some [])(c:a[v]? =some []):
 B9 N ((p:Int),(v:Int),s,s2,s3,s4,s5,s6,s7,s8,s9,s10,a)=some (false,a,s,s2,s3,s4,s5,s6,s7,s8,s9,s10):=by
 obtain⟨N,rfl⟩:∃m,N=m+1:=⟨N - 1,bv⟩;rw[Fx,bd b,ob,ob,bd c,ob,ob];rw[show((([]:aX).length:Nat):Int) - 1= -1 from rfl,gZ bv bv,dT bv,dT d5]
end
abbrev Ev:=Int×Int×Int×In
def Ts(b:Do Tk)(a:Ev):aX:=if a.2.2.2=true\/a.2.2.1<0 then []else Jz b a.2.2.1
def anr{n g P:Nat}{a:Do Tk}{q:br}{b:bP}{o:aX}{x:Int}(h:Ap n g a q (x::b.flatten) o)(A:b.length=P)(y:1<=P)(z:P<=8){p:Nat}{Q:aX}(C:b[p]? =some Q)(W:Q.length<=200):
 ∃(d:Do Tk) (f:br) (r:bP) (E:In) (F:aX) (par:In),QA n g P d f r E F/\lY a d/\left g a (x::b.flatten)=left g d r.flatten+1/\0<=x/\x<(d.length:Int)/\F=o++(if par=true then []else Jz d x)/\
  ∀(N:Nat) (l k w j:Int),Fu+6<=N->Ow N ((p:Int),a,(g:Int),q,false,l,k,w,j,x,false,b)=some (0,r,d,(g:Int),f,E,l,k,w,j,x,par):=by
 obtain⟨i,t,rfl,c,K⟩:=h.tr.lv x d5;obtain⟨S,U,V,_⟩:=h.tr.sh i t c;have H:=cS c;have X:=h.len;by_cases u:(g:Int)<t.2.1 - t.1
 ·obtain⟨j1,j2⟩:=h.anq c bv (show Tm t=_ from rfl)
  obtain⟨R,M,O⟩:=uQ b p Q C;have v:((a.length:Int)::((a.length+1:Nat):Int)::b.flatten).Perm (b.set p (Q++[((a.length+1:Nat):Int),(a.length:Int)])).flatten:=by
   refine List.Perm.trans ?_ (O _).symm;rw[auV];refine List.Perm.trans ?_ (ayT Q _ R).symm;refine(List.Perm.swap _ _ _).trans ?_;exact(M.cons _).cons _
  have j3:=j1.perm v;refine⟨part a i t (Tm t),q,b.set p (Q++[((a.length+1:Nat):Int),(a.length:Int)]),false,o,true,⟨j3,by rw[avM];exact A,y,z,⟨λe=>(by cases e),λe=>?_⟩⟩,lY.part c,?_,bv,by rw[zX];omega,d5,λN l k w j G=>?_⟩
  ·have:=v.length_eq
   rw[e]at this;simp at this
  ·rw[j2,Bn v]
  ·obtain⟨N,rfl⟩:∃m,N=m+1:=⟨N - 1,bv⟩
   rw[Ox,GI bv h.ok c,ob,eC u,DX bv h.ok c K u,ob,eC rfl,bd C,ob,ob,ajs bv,ob,cw bv d7,ob,ob,ob,auB]
 ·obtain⟨L,d,f,j1,j2,D,I,J⟩:=aqs h c bv
  have B:lY a d:=D.2;refine⟨d,f,b,L,o++Ao t.1 t.2.1,false,⟨j1,A,y,z,I⟩,B,j2,bv,by rw[D.1];omega,?_,λN l k w j G=>?_⟩
  ·rw[aun d5,B.un H,mZ c]
  ·obtain⟨N,rfl⟩:∃m,N=m+1:=⟨N - 1,bv⟩
   rw[Ox,GI bv h.ok c,ob,dT u,J N bv,ob];rfl
def step_eq{n g P:Nat}{d:Do Tk}{l:br}{b:bP}{H:aX}(h:QA n g P d l b false H){st idl:Int}(h1:0<=st)(h2:st<100000)(h3:0<=idl)(h4:idl<100000)(p v:Int):
 ∃(e:Do Tk) (q:br) (k:bP) (o:In) (u:aX) (t:Int) (f:Ev),QA n g P e q k o u/\lY d e/\u=H++Ts e f/\f.2.2.1<(e.length:Int)/\
  ((0<=f.2.2.1/\t=idl/\left g d b.flatten=left g e k.flatten+1)\/(f.2.2.1= -1/\t=idl+1/\e=d/\k=b/\o=false))/\
  (b[xi P p]? ≠some []->0<=f.2.2.1)/\
  ∀N,Fu+8<=N->AW N (d,(g:Int),l,b,false,st,idl,p,v)=some (0,e,(g:Int),q,k,o,st+1,t,f):=by
 have G:=h.pl;have z:=h.p1;have I:=h.p2;obtain⟨_,_,np,_⟩:=Tp z p;obtain⟨_,_,nv,_⟩:=Tp z v;obtain⟨own,r⟩:=get_at (xs:=b) (i:=xi P p) bv;obtain⟨U,C⟩:=get_at (xs:=b) (i:=xi P v) bv;have V:=h.short own (auI r);have a3:=h.short U (auI C);have S:∀N,Fu+7<=N->AW (N+1) (d,(g:Int),l,b,false,st,idl,p,v)=aW (B9 N (((xi P p:Nat):Int),((xi P v:Nat):Int),d,(g:Int),l,false,st+1,idl,((xi P p:Nat):Int),-1,-1,false,b)) λc=>
  cond c.1
   (aW (Ow N (((xi P p:Nat):Int),(c.2.2.1,(c.2.2.2.1,(c.2.2.2.2.1,(c.2.2.2.2.2.1,(c.2.2.2.2.2.2.1,(c.2.2.2.2.2.2.2.1,(c.2.2.2.2.2.2.2.2.1,(c.2.2.2.2.2.2.2.2.2.1,(c.2.2.2.2.2.2.2.2.2.2.1,(c.2.2.2.2.2.2.2.2.2.2.2,c.2.1)))))))))))) λj=>
    cond (!(decide (j.1=(0:Int))))
     (some (j.1,(d,((g:Int),(l,(b,(false,(st,(idl,((0:Int),((0:Int),((0:Int),false))))))))))))
     (some ((0:Int),(j.2.2.1,(j.2.2.2.1,(j.2.2.2.2.1,(j.2.1,(j.2.2.2.2.2.1,(j.2.2.2.2.2.2.1,(j.2.2.2.2.2.2.2.1,(j.2.2.2.2.2.2.2.2.1,(j.2.2.2.2.2.2.2.2.2.1,(j.2.2.2.2.2.2.2.2.2.2.1,j.2.2.2.2.2.2.2.2.2.2.2)))))))))))))
   (cond (decide (c.2.2.2.2.2.2.2.1=(100000:Int)))
    (some ((2:Int),(d,((g:Int),(l,(b,(false,(st,(idl,((0:Int),((0:Int),((0:Int),false))))))))))))
    (some ((0:Int),(c.2.2.1,(c.2.2.2.1,(c.2.2.2.2.1,(c.2.1,(c.2.2.2.2.2.1,(c.2.2.2.2.2.2.1,((wrap .i64 (c.2.2.2.2.2.2.2.1+(1:Int))),(c.2.2.2.2.2.2.2.2.1,(c.2.2.2.2.2.2.2.2.2.1,(c.2.2.2.2.2.2.2.2.2.2.1,c.2.2.2.2.2.2.2.2.2.2.2))))))))))))):=λN F=>by
  rw[ZZ,aaP h h1 bv h3 bv bv,ob];simp only[auH,auv];rw[dT bv,aaO bv b bv,ob,JA bv z I p _ _ _ _ _ _ _ _ _ _ b G,ob,JA bv z I v _ _ _ _ _ _ _ _ _ _ b G,ob];dsimp only;rw[gZ (x:=st+1) bv bv]
 have L:∀(w:bP) (x E:Int),(x::w.flatten).Perm b.flatten->w.length=P->(∀N,Fu+7<=N->B9 N (((xi P p:Nat):Int),((xi P v:Nat):Int),d,(g:Int),l,false,st+1,idl,((xi P p:Nat):Int),-1,-1,false,b)=some (true,w,d,(g:Int),l,false,st+1,idl,((xi P p:Nat):Int),E,x,false))->
  ∃(e:Do Tk) (q:br) (k:bP) (o:In) (u:aX) (t:Int) (f:Ev),QA n g P e q k o u/\lY d e/\u=H++Ts e f/\f.2.2.1<(e.length:Int)/\
  ((0<=f.2.2.1/\t=idl/\left g d b.flatten=left g e k.flatten+1)\/(f.2.2.1= -1/\t=idl+1/\e=d/\k=b/\o=false))/\
  (b[xi P p]? ≠some []->0<=f.2.2.1)/\
  ∀N,Fu+8<=N->AW N (d,(g:Int),l,b,false,st,idl,p,v)=some (0,e,(g:Int),q,k,o,st+1,t,f):=by
  intro w x E J a1 hf;obtain⟨Q,O⟩:=get_at (xs:=w) (i:=xi P p) bv;have a0:Q.length<=200:=by
   obtain⟨R,D,_⟩:=uQ w (xi P p) Q O;have e1:=D.length_eq;have e2:=J.length_eq;have e3:=h.job.held;rw[auE]at e1;rw[auP]at e2;omega
  obtain⟨e,q,k,o,u,par,W,X,Y,M,Z,c6,c7⟩:=anr (h.job.perm J.symm) a1 z I O a0;refine⟨e,q,k,o,u,idl,(((xi P p:Nat):Int),E,x,par),W,X,?_,Z,.inl ⟨M,rfl,by rw[<-Y];exact Bn J.symm⟩,λ_=>M,λN F=>?_⟩
  ·rw[c6]
   unfold Ts;have:¬x<0:=bv
   cases par<;>simp[this]
  ·obtain⟨N,rfl⟩:∃m,N=m+1:=⟨N - 1,bv⟩
   rw[S N bv,hf N bv,ob];simp only[auQ];rw[c7 N (st+1) idl _ E bv,ob,BE rfl]
 rcases azh own with rfl|⟨A,x,rfl⟩
 ·cases U with
  |nil=>
   refine⟨d,l,b,false,H,idl+1,(((xi P p:Nat):Int),-1,-1,false),h,lY.refl d,by simp[Ts],by show(-1:Int)<_;omega,.inr ⟨rfl,rfl,rfl,rfl,rfl⟩,λa2=>absurd r a2,λN F=>?_⟩;obtain⟨N,rfl⟩:∃m,N=m+1:=⟨N - 1,bv⟩;rw[S N bv,Tq _ _ _ _ _ _ _ _ _ _ bv r C,ob];simp only[auv];rw[dT bv,gZ bv bv]
  |cons y B=>
   obtain⟨R,D,K⟩:=uQ b (xi P v) (y::B) C;refine L (b.set (xi P v) B) y ((xi P v:Nat):Int) (((K B).cons y).trans D.symm) (by rw[avM];exact G) λN F=>?_;exact QB _ _ _ _ _ _ _ _ _ _ bv r C (by rw[auP]at a3;omega)
 ·rw[azi]at r V
  obtain⟨R,D,K⟩:=uQ b (xi P p) (A++[x]) r;refine L (b.set (xi P p) A) x ((xi P p:Nat):Int) ?_ (by rw[avM];exact G) λN F=>?_
  ·refine((K A).cons x).trans (List.Perm.trans ?_ D.symm)
   rw[auV];exact(List.perm_middle (a:=x) (l₁:=A) (l₂:=R)).symm
  ·exact aaR _ _ _ _ _ _ _ _ _ _ bv r C (by rw[auE]at V;omega)
structure zZ where
 ts:List Tk
 dn:br
 dq:bP
 ov:Bool
 idl:Int
 rB:List Ev
abbrev DT:=Do Tk×Int×br×bP×In×Int×Int×Do Ev
def zZ.arg(s:zZ)(g:Nat):DT:=(s.ts,(g:Int),s.dn,s.dq,s.ov,((s.rB.length:Nat):Int),s.idl,s.rB)
def QC(b:Do Ev):Nat:=b.countP λa=>decide (0<=a.2.2.1)
structure rC(n g P:Nat)(s:zZ):Prop where
 cr:QA n g P s.ts s.dn s.dq s.ov (s.rB.flatMap (Ts s.ts))
 ev:∀ev∈s.rB,ev.2.2.1<(s.ts.length:Int)
 did:QC s.rB+left g s.ts s.dq.flatten=tn g n
 idl:s.idl=((s.rB.length:Nat):Int) - ((QC s.rB:Nat):Int)
def aju(a:Do Ev):QC a<=a.length:=axA
def agh{b c:Do Tk}(h:lY b c){a:Ev}(e:a.2.2.1<(b.length:Int)):Ts c a=Ts b a:=by
 unfold Ts;split
 ·rfl
 ·rename_i f
  obtain⟨k,d⟩:∃k:Nat,a.2.2.1=(k:Int):=⟨a.2.2.1.toNat,bv⟩;rw[d];exact h.un bv
def ak2{n g P:Nat}{s:zZ}(h:rC n g P s)(F:s.ov=false)(R:s.rB.length<100000)(p v:Int):
 ∃b:zZ,rC n g P b/\b.rB.length=s.rB.length+1/\(left g b.ts b.dq.flatten<left g s.ts s.dq.flatten\/(b.dq=s.dq/\b.ts=s.ts/\b.ov=false/\s.dq[xi P p]? =some []))/\
  ∀N,Fu+9<=N->Oy N (p,v,s.arg g)=some ((0:Int),b.arg g):=by
 obtain⟨q,dn,L,ov,W,f⟩:=s;obtain⟨D,w,O,Q⟩:=h;simp only at F R D w O Q;subst F;have a0:=aju f;obtain⟨x,K,M,Y,Z,X,k,G,z,H,I,r,A,J⟩:=step_eq D (st:=((f.length:Nat):Int)) (idl:=W) bv bv bv bv p v;have V:Z=(f++[k]).flatMap (Ts x):=by
  rw[H,ayV,List.flatMap_singleton];refine auA (·++_) ?_;rw[ax4,ax4,avi λe a=>agh z (w e a)]
 have a1:q.length<=x.length:=by
  by_cases B:q.length=0
  ·omega
  ·obtain⟨t,S⟩:=get_at (xs:=q) (i:=q.length - 1) bv
   obtain⟨t',U,_⟩:=z _ t S;have:=cS U;omega
 have C:QC (f++[k])=QC f+(if 0<=k.2.2.1 then 1 else 0):=by
  unfold QC;rw[aw2,ayS];by_cases B:0<=k.2.2.1<;>simp[B]
 refine⟨⟨x,K,M,Y,X,f++[k]⟩,⟨by simp only;rw[<-V];exact G,λe a=>?_,?_,?_⟩,d5,?_,λN hN=>?_⟩
 ·simp only at a⊢
  rcases auC.1 a with a|a
  ·have:=w e a;omega
  ·rw[auN.1 a];exact I
 ·simp only
  rw[C];rcases r with⟨c,j,d⟩|⟨c,j,d,o,u⟩
  ·rw[auo c];omega
  ·rw[aun bv,d,o];omega
 ·simp only
  rw[C,auE,avp];rcases r with⟨c,j,d⟩|⟨c,j,d,o,u⟩
  ·rw[auo c];omega
  ·rw[aun bv];omega
 ·simp only
  rcases r with⟨c,j,d⟩|⟨c,j,d,o,u⟩
  ·left;omega
  ·right
   refine⟨o,d,u,?_⟩;cases E:L[xi P p]? with
   |none=>
    have:=A (by rw[E];simp);omega
   |some l=>
    cases l with
    |nil=>rfl
    |cons y l=>
     have:=A (by rw[E];simp);omega
 ·obtain⟨N,rfl⟩:∃m,N=m+1:=⟨N - 1,bv⟩
  simp only[zZ.arg];rw[ad1,J N bv,ob,eC rfl,cw bv d7,ob,auE,avp];rfl
def GJ{n g P:Nat}(f:bh)(w:f.length<=200)(a:Int)(b:In)(c d:Int):∀(k i:Nat) (s:zZ),i+k=f.length->rC n g P s->s.rB.length+k<100000->
 ∃p:zZ,rC n g P p/\p.rB.length<=s.rB.length+k/\∀N m,Fu+9<=N->k<m->yI N m (f,((f.length:Nat):Int),(i:Int),a,b,c,d,s.arg g)=some (.inl (a,b,c,d,p.arg g))
 |0,i,s,v,o,u=>⟨s,o,bv,λN m j r=>by
  obtain⟨m,rfl⟩:∃h,m=h+1:=⟨m - 1,bv⟩;simp only[zZ.arg];rw[AX,dT bv]⟩
 |k+1,i,s,v,o,u=>by
  obtain⟨x,t⟩:=get_at (xs:=f) (i:=i) bv;cases l:s.ov with
  |true=>
   refine⟨s,o,bv,λN m j r=>?_⟩;obtain⟨m,rfl⟩:∃h,m=h+1:=⟨m - 1,bv⟩;simp only[zZ.arg];rw[AX,eC bv,bd t,ob,l];rfl
  |false=>
   obtain⟨C,y,D,_,z⟩:=ak2 o l bv x.1 x.2;obtain⟨s2,A,E,B⟩:=GJ f w a b c d k (i+1) C bv y bv;refine⟨s2,A,bv,λN m j r=>?_⟩;obtain⟨m,rfl⟩:∃h,m=h+1:=⟨m - 1,bv⟩;have e:=z N j;have q:=B N m j bv;simp only[zZ.arg]at e q⊢;rw[AX,eC bv,bd t,ob,l];simp only[auv];rw[l]at e;rw[e,ob,BE rfl,cG bv];exact q
def JB(a:bP)(e:a.length<=8)(d:∀l∈a,l.length<=200):∀(k i:Nat) (x:Nat),i+k=a.length->x<=200*i->∀N m,k<m->
 yH N m ((x:Int),a,((a.length:Nat):Int),(i:Int))=some (((x+(a.drop i).flatten.length:Nat)):Int)
 |0,i,x,f,h,N,m,g=>by
  obtain⟨m,rfl⟩:∃c,m=c+1:=⟨m - 1,bv⟩;rw[Fz,dT bv,avj bv];rfl
 |k+1,i,x,f,h,N,m,g=>by
  obtain⟨m,rfl⟩:∃c,m=c+1:=⟨m - 1,bv⟩;obtain⟨l,b⟩:=get_at (xs:=a) (i:=i) bv;have j:=d l (auI b);rw[Fz,eC bv,bd b,ob,gZ bv bv,cG bv,show(x:Int)+((l.length:Nat):Int)=((x+l.length:Nat):Int) by omega,JB a e d k (i+1) (x+l.length) bv bv N m bv,dh b,au4,auE];simp only[aur];omega
def ajv{n g P:Nat}{s:zZ}(h:rC n g P s){N:Nat}(e:Fu+1<=N)(c a:Int)(b:In):KZ N (s.ts,(g:Int),s.dn,s.dq,b,c,a)=some ((s.dq.flatten.length:Nat):Int):=by
 obtain⟨N,rfl⟩:∃m,N=m+1:=⟨N - 1,bv⟩;have d:=bR;have f:=h.cr.pl;have i:=h.cr.p2;have:=JB s.dq bv h.cr.short s.dq.length 0 0 bv bv N N bv;rw[Z0];rw[show((0:Nat):Int)=0 from rfl]at this;rw[this,ob,ave,auZ]
def GK{n g P:Nat}(r:Int)(l:Nat):∀(j k:Nat) (s:zZ),k+j=P->rC n g P s->s.rB.length+j<100000->((∃q,k<=q/\q<P/\s.dq[q]? ≠some [])\/left g s.ts s.dq.flatten<l)->left g s.ts s.dq.flatten<=l->
 ∃b:zZ,rC n g P b/\b.rB.length<=s.rB.length+j/\
  ((b.ov=true/\(s.ov=true->b=s)/\∀N m,Fu+10<=N->j<m->qp N m (r,(P:Int),(k:Int),s.arg g)=some (.inr ((0:Int),b.arg g)))\/
   (left g b.ts b.dq.flatten<l/\(0<j->s.ov=false)/\∀N m,Fu+10<=N->j<m->qp N m (r,(P:Int),(k:Int),s.arg g)=some (.inl (r,b.arg g))))
 |0,k,s,H,d,G,c,A=>⟨s,d,bv,.inr ⟨by
  rcases c with⟨q,B,J,_⟩|c
  ·omega
  ·exact c,λh=>by omega,λN m a w=>by
  obtain⟨m,rfl⟩:∃f,m=f+1:=⟨m - 1,bv⟩;simp only[zZ.arg];rw[po,dT bv]⟩⟩
 |j+1,k,s,H,d,G,c,A=>by
  have R:=d.cr.p2;cases o:s.ov with
  |true=>
   refine⟨s,d,bv,.inl ⟨o,λ_=>rfl,λN m a w=>?_⟩⟩;obtain⟨m,rfl⟩:∃f,m=f+1:=⟨m - 1,bv⟩;simp only[zZ.arg];rw[po,eC bv,o];rfl
  |false=>
   have I:s.dq.flatten≠[]:=λe=>by
    have:=d.cr.ovr.2 e;rw[o]at this;cases this
   have Q:0<s.dq.flatten.length:=av8.2 I;obtain⟨i,B,J,t,K⟩:=ak2 d o bv (k:Int) (wrap .i64 ((wrap .i64 ((k:Int)+(1:Int)))+r));have E:(∃q,k+1<=q/\q<P/\i.dq[q]? ≠some [])\/left g i.ts i.dq.flatten<l:=by
    rcases t with t|⟨p,u,D,v⟩
    ·right;omega
    ·rw[agf bv]at v
     rcases c with⟨q,O,C,z⟩|c
     ·have:q≠k:=λe=>z (e▸v)
      exact .inl ⟨q,bv,C,by rw[p];exact z⟩
     ·right;rw[p,u];exact c
   have F:left g i.ts i.dq.flatten<=l:=by
    rcases t with t|⟨p,u,D,v⟩
    ·omega
    ·rw[p,u];exact A
   have step:∀N m,Fu+10<=N->qp N (m+1) (r,(P:Int),(k:Int),s.arg g)=qp N m (r,(P:Int),((k+1:Nat):Int),i.arg g):=λN m a=>by
    have e:=K N bv;have e0:=ajv d (N:=N) bv ((s.rB.length:Nat):Int) s.idl false;simp only[zZ.arg]at e⊢;rw[o]at e;rw[po,eC bv,o];simp only[auv];rw[e0,ob,dT bv,e,ob,BE rfl,cG bv]
   obtain⟨s2,L,S,M⟩:=GK r l j (k+1) i bv B bv E F;refine⟨s2,L,bv,?_⟩;rcases M with⟨x,_,y⟩|⟨x,_,y⟩
   ·refine .inl ⟨x,λe=>(by cases e),λN m a w=>?_⟩
    obtain⟨m,rfl⟩:∃f,m=f+1:=⟨m - 1,bv⟩;rw[step N m a];exact y N m a bv
   ·refine .inr ⟨x,λ_=>rfl,λN m a w=>?_⟩
    obtain⟨m,rfl⟩:∃f,m=f+1:=⟨m - 1,bv⟩;rw[step N m a];exact y N m a bv
def QD{n g P:Nat}:∀(R:Nat) (r:Int) (s:zZ),rC n g P s->left g s.ts s.dq.flatten<=R->s.rB.length+P*R+P<100000->
 ∃i:zZ,rC n g P i/\i.ov=true/\i.rB.length<=s.rB.length+P*left g s.ts s.dq.flatten/\∀N m,Fu+10<=N->R<m->DA N m (r,s.arg g)=some ((0:Int),i.arg g):=by
 intro R
 induction R with
 |zero=>
  intro r s a z A;have y:s.dq.flatten=[]:=by
   have:=a.cr.job.len.2.1;exact azb.1 bv
  have f:=a.cr.ovr.2 y;have D:=a.cr.p1;have E:=a.cr.p2;refine⟨s,a,f,bv,λN m d k=>?_⟩;obtain⟨m,rfl⟩:∃b,m=b+1:=⟨m - 1,bv⟩;obtain⟨w,rfl⟩:∃b,N=b+1:=⟨N - 1,bv⟩;simp only[zZ.arg];rw[uG,a.cr.pl,po,eC bv,f];rfl
 |succ R H=>
  intro r s a z A;have D:=a.cr.p1;have E:=a.cr.p2;have U:P*(R+1)=P*R+P:=Nat.mul_succ P R;have M:=bR;cases f:s.ov with
  |true=>
   refine⟨s,a,f,bv,λN m d k=>?_⟩;obtain⟨m,rfl⟩:∃b,m=b+1:=⟨m - 1,bv⟩;obtain⟨w,rfl⟩:∃b,N=b+1:=⟨N - 1,bv⟩;simp only[zZ.arg];rw[uG,a.cr.pl,po,eC bv,f];rfl
  |false=>
   have t:s.dq.flatten≠[]:=λe=>by
    have:=a.cr.ovr.2 e;rw[f]at this;cases this
   have h:∃q,0<=q/\q<P/\s.dq[q]? ≠some []:=by
    obtain⟨x,F⟩:=axh _ t;obtain⟨l,C,G⟩:=awn.1 F;obtain⟨q,h⟩:=axY C;refine⟨q,auS _,by rw[<-a.cr.pl];exact cS h,λe=>?_⟩;rw[h]at e;cases e;cases G
   have Q:1<=left g s.ts s.dq.flatten:=by
    have:=a.cr.job.len.2.1;have:=av8.2 t;omega
   obtain⟨j,u,V,I⟩:=GK r (left g s.ts s.dq.flatten) P 0 s bv a bv (.inl h) (auq _);obtain⟨c,B⟩:∃c,left g s.ts s.dq.flatten=c+1:=⟨left g s.ts s.dq.flatten - 1,bv⟩;have S:P*left g s.ts s.dq.flatten=P*c+P:=by rw[B];exact Nat.mul_succ P c
   rcases I with⟨v,_,o⟩|⟨v,_,o⟩
   ·refine⟨j,u,v,bv,λN m d k=>?_⟩
    obtain⟨m,rfl⟩:∃b,m=b+1:=⟨m - 1,bv⟩;have e:=o N N d bv;simp only[zZ.arg]at e⊢;rw[show((0:Nat):Int)=0 from rfl]at e;rw[uG,a.cr.pl,e,ob]
   ·obtain⟨s2,J,K,W,L⟩:=H (wrap .i64 (r+(1:Int))) j u bv bv
    have O:P*left g j.ts j.dq.flatten<=P*c:=awg P bv;refine⟨s2,J,K,bv,λN m d k=>?_⟩;obtain⟨m,rfl⟩:∃b,m=b+1:=⟨m - 1,bv⟩;have e:=o N N d bv;have p:=L N m d bv;simp only[zZ.arg]at e p⊢;rw[show((0:Nat):Int)=0 from rfl]at e;rw[uG,a.cr.pl,e,ob];exact p
def iT(n P:Nat):zZ:=⟨[((0:Int),(n:Int),(-1:Int),(0:Int))],replicate n false,(replicate P ([]:aX)).set 0 [0],false,0,[]⟩
def Tt{P:Nat}(a:1<=P):((replicate P ([]:aX)).set 0 [0]).flatten=[0]:=by
 obtain⟨P,rfl⟩:∃q,P=q+1:=⟨P - 1,bv⟩;rw[avT,axl,au4,List.flatten_replicate_nil];rfl
def Tu{n g P:Nat}(b:1<=n)(c:n<=60)(d:1<=g)(e:g<=8)(f:1<=P)(h:P<=8):rC n g P (iT n P):=by
 have a:=Tt f;refine⟨⟨?_,by simp[iT],f,h,?_⟩,λj i=>(by simp[iT]at i),?_,by simp[iT,QC]⟩
 ·simp only[iT,a,ax2]
  exact Ap.first b c d e
 ·simp only[iT,a];simp
 ·have:=(Ap.first (g:=g) b c d e).nb
  simp only[iT,a,QC,List.countP_nil];simp only[auP,avg]at this;omega
def agi{n g P:Nat}(b:1<=n)(c:n<=60)(d:1<=g)(e:g<=8)(h:1<=P)(i:P<=8){N:Nat}(j:3<=N):
 KU N ((n:Int),(g:Int),(P:Int))=some ((0:Int),(iT n P).ts,(g:Int),(iT n P).dn,(iT n P).dq,false,0,0):=by
 obtain⟨N,rfl⟩:∃m,N=m+1:=⟨N - 1,bv⟩;have f:KT N ((n:Int),(g:Int))=some ((0:Int),[((0:Int),(n:Int),(-1:Int),(0:Int))],(g:Int),replicate n false):=by
  obtain⟨N,rfl⟩:∃m,N=m+1:=⟨N - 1,bv⟩;rw[ZP,GD bv b c d e,ob];simp only[auH,auv];rw[mT bv bv bv,ob,auB]
 have a:ba (replicate P ([]:aX)) 0=some []:=by
  obtain⟨P,rfl⟩:∃q,P=q+1:=⟨P - 1,bv⟩;rfl
 rw[ZQ,dT bv,dT bv,f,ob,BE rfl,mT bv bv bv,ob,auB,a,ob,ob];rfl
def agj{n g P:Nat}(c:1<=n)(j:n<=60)(d:1<=g)(k:g<=8)(l:1<=P)(e:P<=8)(a:bh)(w:a.length<=200):
 ∃s:zZ,rC n g P s/\s.ov=true/\s.rB.length<=a.length+P*tn g n/\∀N,Fu+12<=N->OC N ((n:Int),(g:Int),(P:Int),a)=some ((0:Int),s.arg g):=by
 have z:=bR;have v:=Tu c j d k l e;obtain⟨b,f,x,p⟩:=GJ (g:=g) a w 0 false 0 0 a.length 0 (iT n P) bv v (by simp[iT];omega);have E:=Qx d n n (auq _) c;have o:left g b.ts b.dq.flatten<=tn g n:=by have:=f.did;omega
 have C:P*left g b.ts b.dq.flatten<=P*tn g n:=awg P o;have D:P*tn g n<=8*119:=avZ e bv;have B:(iT n P).rB.length=0:=rfl;obtain⟨s2,q,r,y,t⟩:=QD (tn g n) 0 b f o bv;refine⟨s2,q,r,bv,λN A=>?_⟩;obtain⟨N,rfl⟩:∃m,N=m+1:=⟨N - 1,bv⟩;have h:=p N N bv bv;rw[ad4,agi c j d k l e bv,ob,BE rfl];rw[show((0:Nat):Int)=0 from rfl]at h;have u:yI N N (a,((a.length:Nat):Int),0,0,false,0,0,(iT n P).ts,(g:Int),(iT n P).dn,(iT n P).dq,false,0,0,[])=some (.inl (0,false,0,0,b.arg g)):=h;simp only;rw[u,ob];obtain⟨N,rfl⟩:∃m,N=m+1:=⟨N - 1,bv⟩;have i:=t N N bv bv;simp only[zZ.arg]at i⊢;rw[ad3,i,ob,ob]
def agk{a b:Int}(h:a<b):Ao a b=a::Ao (a+1) b:=by
 rw[<-Yc (a:=a) (m:=a+1) (b:=b) bv bv];have:Ao a (a+1)=[a]:=by
  unfold Ao;rw[show(a+1 - a).toNat=1 by omega];simp
 rw[this];rfl
def ajw{a b:Int}(h:b<=a):Ao a b=[]:=by
 unfold Ao;rw[show(b - a).toNat=0 by omega];rfl
def Ye(a b:Int):(Ao a b).length=(b - a).toNat:=by simp[Ao]
def JC(b:Do Tk)(a:Ev):bh:=if a.2.2.2=true\/a.2.2.1<0 then []else match b[a.2.2.1.toNat]? with
 |some t=>[(t.1,t.2.1)]
 |none=>[]
def aaS(b:Do Tk)(a:Ev):(JC b a).flatMap (λs=>Ao s.1 s.2)=Ts b a:=by
 unfold JC Ts;split
 ·rfl
 ·unfold Jz
  cases c:b[a.2.2.1.toNat]? with
  |some t=>simp
  |none=>rfl
def Cx(c:Do Tk)(g:Int)(n:br)(o:bP)(v:In)(w u:Int)(b:Do Ev)(z:b.length<=100000)(p:∀a∈b,a.2.2.1<(c.length:Int)):∀(k i:Nat) (d:bh),i+k=b.length->d.length<=i->∀N m,k<m->
 qq N m (b,((b.length:Nat):Int),(i:Int),c,g,n,o,v,w,u,d)=some (d++(b.drop i).flatMap (JC c))
 |0,i,d,y,B,N,m,A=>by
  obtain⟨m,rfl⟩:∃l,m=l+1:=⟨m - 1,bv⟩;rw[IM,dT bv,avj bv];simp
 |k+1,i,d,y,B,N,m,A=>by
  obtain⟨m,rfl⟩:∃l,m=l+1:=⟨m - 1,bv⟩;obtain⟨a,h⟩:=get_at (xs:=b) (i:=i) bv;have E:=p a (auI h);have j:=λD C=>Cx c g n o v w u b z p k (i+1) D bv C N m bv;rw[IM,eC bv,bd h,ob,cb,cG bv,dh h,au1];by_cases f:a.2.2.2=true
  ·rw[auo f,j d bv]
   have:JC c a=[]:=by unfold JC;rw[auo (.inl f)]
   rw[this];rfl
  ·rw[aun f,cd]
   by_cases e:a.2.2.1<0
   ·rw[auo e,j d bv]
    have:JC c a=[]:=by unfold JC;rw[auo (.inr e)]
    rw[this];rfl
   ·rw[aun e,dT bv]
    obtain⟨x,r⟩:∃x:Nat,a.2.2.1=(x:Int):=⟨a.2.2.1.toNat,bv⟩;obtain⟨t,q⟩:=get_at (xs:=c) (i:=x) bv;rw[r,bd q,ob,cw bv d7,ob,j _ (by rw[auE,avp];omega)];have:JC c a=[(t.1,t.2.1)]:=by
     unfold JC;rw[aun (by simp[f,e]),r,auB,q]
    rw[this,auV]
def Cy(a b:Int)(l:Do Ev)(s s2:Int)(v:bh)(f:0<=s)(g:s2<=60)(c:Nat)(h:s+(c:Int)=s2):∀(k j:Nat) (d:aX),j+k=c->d.length+k<=1000->∀N m,k<m->
 yJ N m (a,b,(c:Int),(j:Int),l,d,s,s2,v)=some (a,b,l,d++Ao (s+(j:Int)) s2,v)
 |0,j,d,i,o,N,m,n=>by
  obtain⟨m,rfl⟩:∃e,m=e+1:=⟨m - 1,bv⟩;rw[FA,dT bv,ajw bv,au_]
 |k+1,j,d,i,o,N,m,n=>by
  obtain⟨m,rfl⟩:∃e,m=e+1:=⟨m - 1,bv⟩;rw[FA,eC bv,gZ (x:=s+(j:Int)) bv bv,cw bv d7,ob,cG bv,
   Cy a b l s s2 v f g c h k (j+1) _ bv (by rw[auE,avp];omega) N m bv,agk (a:=s+(j:Int)) bv,auV]
  rw[show s+((j+1:Nat):Int)=s+(j:Int)+1 by omega];rfl
def Cz(l:Do Ev)(v:bh)(r:v.length<=100000)(g:∀s∈v,0<=s.1/\s.1<=s.2/\s.2<=60):∀(k i:Nat) (a:aX),i+k=v.length->a.length+((v.drop i).flatMap λs=>Ao s.1 s.2).length<=1000->∀N m,Fu<=N->k<m->
 yK N m (((v.length:Nat):Int),(i:Int),l,a,v)=some (l,a++(v.drop i).flatMap λs=>Ao s.1 s.2)
 |0,i,a,p,h,N,m,f,q=>by
  obtain⟨m,rfl⟩:∃d,m=d+1:=⟨m - 1,bv⟩;rw[FB,dT bv,avj bv];simp
 |k+1,i,a,p,h,N,m,f,q=>by
  obtain⟨m,rfl⟩:∃d,m=d+1:=⟨m - 1,bv⟩;obtain⟨s,b⟩:=get_at (xs:=v) (i:=i) bv;obtain⟨j,t,n⟩:=g s (auI b);rw[dh b,au1,auE,Ye]at h;obtain⟨c,o⟩:∃c:Nat,s.2 - s.1=(c:Int):=⟨(s.2 - s.1).toNat,bv⟩;have u:=bR;have e:=Cy ((v.length:Nat):Int) (i:Int) l s.1 s.2 v j n c bv c 0 a bv bv N N bv;rw[show((0:Nat):Int)=0 from rfl,Int.add_zero]at e;rw[FB,eC bv,bd b,ob,ob,gZ bv bv,o,e,ob];dsimp only;rw[cG bv,Cz l v r g k (i+1) _ bv (by rw[auE,Ye];omega) N m f bv,dh b,au1,auV]
def agl{n g P:Nat}(y:1<=n)(z:n<=60)(A:1<=g)(B:g<=8)(C:1<=P)(D:P<=8){d:bh}(G:d.length<=200){s:zZ}(f:rC n g P s)(o:s.rB.length<=100000)(v:∀N,Fu+12<=N->OC N ((n:Int),(g:Int),(P:Int),d)=some ((0:Int),s.arg g)){N:Nat}(F:Fu+13<=N):
 kL N ((n:Int),(g:Int),(P:Int),d)=some (((s.rB.length:Nat):Int),0,s.rB.flatMap (Ts s.ts)):=by
 obtain⟨N,rfl⟩:∃m,N=m+1:=⟨N - 1,bv⟩;have E:=bR;have l:KS N ((g:Int),(P:Int),d)=some true:=by
  obtain⟨N,rfl⟩:∃m,N=m+1:=⟨N - 1,bv⟩;rw[IK,eC bv,eC bv,eC bv,eC bv];simp only[aur,avn];omega
 have h:Wg N (s.arg g)=some (s.rB.flatMap (JC s.ts)):=by
  obtain⟨N,rfl⟩:∃m,N=m+1:=⟨N - 1,bv⟩;have:=Cx s.ts (g:Int) s.dn s.dq s.ov ((s.rB.length:Nat):Int) s.idl s.rB o f.ev s.rB.length 0 [] bv d5 N N bv;rw[show((0:Nat):Int)=0 from rfl,ave,avd]at this;simp only[zZ.arg];rw[ad5,this,ob]
 have j:(s.rB.flatMap (JC s.ts)).flatMap (λq=>Ao q.1 q.2)=s.rB.flatMap (Ts s.ts):=by
  rw[List.flatMap_assoc];rw[show(λb=>(JC s.ts b).flatMap λq=>Ao q.1 q.2)=Ts s.ts from funext λb=>aaS s.ts b]
 have H:(s.rB.flatMap (Ts s.ts)).length<=60:=by
  have:=f.cr.job.pu.length_eq;rw[auE]at this;have e:(tM n).length=n:=by simp[tM]
  omega
 have r:(s.rB.flatMap (JC s.ts)).length<=100000:=by
  have:∀c:Do Ev,(c.flatMap (JC s.ts)).length<=c.length:=λc=>by
   induction c with
   |nil=>simp
   |cons b c I=>
    have:(JC s.ts b).length<=1:=by
     unfold JC;split
     ·simp
     ·split<;>simp
    rw[au1,auE,auP];omega
  have:=this s.rB;omega
 have p:∀q∈s.rB.flatMap (JC s.ts),0<=q.1/\q.1<=q.2/\q.2<=60:=λq a=>by
  obtain⟨b,_,a⟩:=avI.1 a;unfold JC at a;split at a
  ·cases a
  ·split at a
   ·rename_i t u
    rw[auN.1 a];obtain⟨k,w,x,_⟩:=f.cr.job.tr.sh _ t u;exact⟨k,bv,by show t.2.1<=60;omega⟩
   ·cases a
 have i:=Cz s.rB (s.rB.flatMap (JC s.ts)) r p (s.rB.flatMap (JC s.ts)).length 0 [] bv (by rw[ave,j,avg,auZ];omega) N N bv bv;rw[show((0:Nat):Int)=0 from rfl,ave,avd,j]at i;have e:=v N bv;simp only[zZ.arg]at e h;rw[IN,dT bv,dT bv,l,ob];simp only[auH,auv];rw[dT bv,e,ob,BE rfl,h,ob,i,ob]
end Go.Proofs.YtglncfdpdaageaaGreatDoor.Sp
namespace Go.Proofs.YtglncfdpdaageaaGreatDoor
variable{u:Int×Int->Prop}{d:Do cA}{a h:Nat}{e v:Type}
section
open Go Go.RowKit Go.Sort
def agm{s:Do e}{x:e}(h:a<s.length):(s.set a x).take (a+1)=s.take a++[x]:=by
 rw[axE,List.set_eq_take_append_cons_drop];simp[h,avJ (Nat.le_of_lt h),awE,au8];omega
def set_drop{s:Do e}{x:e}(b:a<h):(s.set a x).drop h=s.drop h:=by
 rw[List.drop_set,auo b]
def z1{α β:Type}{F:Nat->Int->Int->Do α->At β}{keep:α->In}{fin:Int->Do α->β}(p:∀m i j s,F (m+1) i j s=if j<((s.length:Nat):Int)then(aW (ba s j) λx=>if keep x=true then(aW (ba s i) λ_=>F m (wrap .i64 (i+1)) (wrap .i64 (j+1)) (s.set i.toNat x))else F m i (wrap .i64 (j+1)) s)else some (fin i s)){a:Do α}(r:a.length<=100000):
 ∀(d m i j:Nat) (s:Do α),a.length - j<=d->d<m->j<=a.length->i<=j->s.length=a.length->s.take i=(a.take j).filter keep->s.drop j=a.drop j->∃(k:Nat) (g:Do α),F m (i:Int) (j:Int) s=some (fin (k:Int) g)/\k<=g.length/\g.length=a.length/\g.take k=a.filter keep
 |d,0,_,_,_,_,h,_,_,_,_,_=>absurd h bv
 |d,m+1,i,j,s,u,v,w,z,n,o,b=>by
  rw[p];by_cases c:j<a.length
  ·obtain⟨x,e⟩:=get_at (xs:=a) (i:=j) c
   have q:s[j]? =some x:=by
    have:=auA (λl:Do α=>l[0]?) b;simpa[e]using this
   rw[auo bv,bd q,ob];by_cases f:keep x=true
   ·obtain⟨y,t⟩:=get_at (xs:=s) (i:=i) bv
    rw[auo f,bd t,ob,cG bv,cG bv,auB];refine z1 p r (d - 1) m (i+1) (j+1) _ bv bv bv bv (by rw[avM];exact n) ?_ ?_
    ·rw[cR e,awL,<-o,agm bv]
     simp[f]
    ·rw[set_drop bv]
     rw[dh q,dh e]at b;exact(ayN b).2
   ·rw[aun f,cG bv]
    refine z1 p r (d - 1) m i (j+1) s bv bv bv bv n ?_ ?_
    ·rw[cR e,awL,o,List.filter_cons_of_neg f];simp
    ·rw[dh q,dh e]at b
     exact(ayN b).2
  ·rw[aun bv]
   refine⟨i,s,rfl,bv,n,?_⟩;rw[o,au0 bv]
def Yf{s:Do e}(j:a<=s.length)(d:s≠[])(z:e)(g:Do e->At v):cond (((true && true) && true) && (!(mD s))) (aW (iR s (a:Int) ((s.length:Nat):Int)) λ_=>aW (Y8 s (a:Int) (((s.length:Nat):Int) - (a:Int)) z) λf=>aW (iR f (0:Int) (a:Int)) λh=>g h) none=g (s.take a):=by
 have b:mD s=false:=by cases s with
  |nil=>exact absurd rfl d
  |cons x l=>rfl
 have c:(MW s a (((s.length:Nat):Int) - (a:Int)).toNat z).take a=s.take a:=by
  unfold MW;rw[axo (by rw[au8];omega),awE,Nat.min_self]
 have i:a<=(MW s a (((s.length:Nat):Int) - (a:Int)).toNat z).length:=by
  unfold MW;rw[auE,au8];omega
 rw[b];simp only[ayQ,avB,auQ];rw[tA bv bv,ob];unfold Y8;rw[auo ⟨bv,bv,bv⟩,ob,auB,tw bv bv,ob,auB,c]
def QE{F:Nat->Nat->At v}{keep:e->In}{s:Do e}{no:v}{yes:Nat->v}(p:∀m i x,i<s.length->s[i]? =some x->F (m+1) i=if keep x=true then F m (i+1)else some (yes i))(l:∀m,F (m+1) s.length=some no){m:Nat}(q:s.length<m):
 (F m 0=some no/\∀x∈s,keep x=true)\/∃(k:Nat) (x:e),F m 0=some (yes k)/\s[k]? =some x/\keep x=false/\∀y∈s.take k,keep y=true:=by
 obtain⟨b,f,o⟩:=lp (F:=λm k (_:Unit)=>F m k) (n:=s.length) (Q:=λb=>(b=no/\∀x∈s,keep x=true)\/∃(k:Nat) (x:e),b=yes k/\s[k]? =some x/\keep x=false/\∀y∈s.take k,keep y=true) (I:=λk _=>∀y∈s.take k,keep y=true) (λm k _ g c=>by
  obtain⟨x,d⟩:=get_at (xs:=s) (i:=k) g;rw[p m k x g d];cases j:keep x with
  |true=>
   refine .inl ⟨(),λy a=>?_,auo rfl⟩;rw[cR d]at a;rcases auC.1 a with a|a
   ·exact c y a
   ·rw[auN.1 a];exact j
  |false=>exact .inr ⟨_,aun d6,.inr ⟨k,x,rfl,d,j,c⟩⟩) (λm _ c=>⟨_,l m,.inl ⟨rfl,by rw[au0 (auq _)]at c;exact c⟩⟩) (m:=m) (i:=0) (s:=()) bv bv d5
 rcases o with⟨rfl,h⟩|⟨k,x,rfl,h⟩
 ·exact .inl ⟨f,h⟩
 ·exact .inr ⟨k,x,f,h⟩
def CA(h:D6)(e:Int×Int):In:= !(decide ((bO xh h e).getD 0=0))
def ajx(w:Fu+4<=a)(s:bh)(h:D6)(t:s.length<=100000):aiJ a (s,h)=some (s.filter (CA h),h):=by
 obtain⟨a,rfl⟩:∃m,a=m+3:=⟨a - 3,bv⟩;have v:=bR;have l:∀(M:Nat) (x:Int×Int),O6 (M+1) (x.1,x.2,h)=some (!(CA h x),h):=λM x=>by
  rw[aem];unfold CA;rw[Bool.not_not]
 have f:=QE (F:=λm k=>K9 (a+1) m (s,((s.length:Nat):Int),(k:Int),h)) (keep:=CA h) (s:=s) (no:=.inl h) (yes:=λk=>.inr ((k:Int),h)) (λm i x f u=>by
  rw[O7,eC bv,bd u,ob,l,ob];simp only;cases CA h x with
  |true=>rw[auH,auv,cG bv,auo rfl]
  |false=>rw[avB,auQ,aun d6]) (λm=>by rw[O7,dT bv]) (m:=a+1) bv
 rw[show((0:Nat):Int)=(0:Int)from rfl]at f;rw[aiK,aiI];rcases f with⟨d,b⟩|⟨k,x,d,b,q,r⟩
 ·rw[d,ob]
  simp only[ob];rw[eC trivial,ax6.2 b]
 ·have z:=Sp.cS b
  obtain⟨A,B,n,o,g,p⟩:=z1 (F:=λm i j s=>FQ (a+2) m (i,j,s,h)) (keep:=CA h) (fin:=λi s=>(i,s,h)) (λm i j s=>by
   rw[aet,cd];by_cases c:j<((s.length:Nat):Int)
   ·rw[auo c,auo c]
    cases ba s j with
    |none=>rfl
    |some x=>
     rw[ob,ob,ob,l,ob];simp only;cases CA h x with
     |true=>
      rw[auH,avB,auQ,auo rfl];cases ba s i with
      |none=>rfl
      |some y=>rw[ob,ob]
     |false=>rw[avB,auH,auv,aun d6]
   ·rw[aun c,aun c]) t s.length (a+2) k (k+1) s bv bv bv bv rfl (by rw[cR b,awL,ax6.2 r];simp[q]) rfl
  rw[d,ob];simp only[ob];rw[dT bv,cG bv,n,ob];simp only;rw[Yf o (λe=>by rw[e]at g;simp at g;omega) ((0:Int),(0:Int)),p]
def agn{s:Sc}(z v:e)(x:s.c9)(f:s.key=true):∀a:Do (s.c9×e),RX (dW s a x z) ((Kf s a x:Nat):Int) v=some (dW s a x v):=by
 have d:∀(l:Do (s.c9×e)) (k:Nat),RX l (k:Int) v=(l[k]?).map λp=>l.set k (p.1,v):=λl k=>by
  unfold RX;rw[auo bv,auB]
 intro a
 induction a with
 |nil=>rw[d];rfl
 |cons p a b=>
  rw[d]at b⊢;simp only[dW,Kf];cases iP s p.1 x with
  |true=>rfl
  |false=>
   simp only[auv];rw[av_];cases c:(dW s a x z)[Kf s a x]? with
   |none=>rw[c]at b;cases b
   |some q=>
    rw[c]at b;simp only[avz,aur]at b⊢;rw[ayz,b]
def Cn(m:D6)(k:Nat)(p:Int×Int->Prop):Prop:=∀e,0<=(bO xh m e).getD 0/\(bO xh m e).getD 0<=(k:Int)/\((bO xh m e).getD 0=0↔¬p e)
def Cn.put{m:D6}(h:Cn m a u)(q:a<=100000)(x:Int×Int):Cn (dW xh m x (wrap .i64 ((bO xh m x).getD 0+1))) (a+1) λe=>u e\/e=x:=λe=>by
 obtain⟨k,l,n⟩:=h x;rw[gZ bv bv];have g:=Qr (s:=xh) rfl x e ((bO xh m x).getD 0+1) m;by_cases c:x=e
 ·have:=g.1 c
  rw[this];refine⟨by show 0<=_+1;omega,by show _+1<=_;omega,λb=>?_,λb=>absurd (.inr c.symm) b⟩;have p:(bO xh m x).getD 0+1=0:=b;omega
 ·have:=g.2 c
  obtain⟨i,o,f⟩:=h e;rw[this];refine⟨i,bv,λb d=>?_,λb=>f.2 λj=>b (.inl j)⟩;rcases d with d|d
  ·exact f.1 b d
  ·exact c d.symm
def Yg{N:Nat}(P:Fu+18<=N)(h:GR a d)(l:bh)(R:l.length<=10000):
 (AY N ((a:Int),d,l)=some (10,[])/\¬∀x∈l,mU (a:Int) x)\/∃q,AY N ((a:Int),d,l)=some (0,q)/\(∀x∈l,mU (a:Int) x)/\q.Sublist (cU d)/\∀e,e∈q↔e∈cU d/\e∈l.map dC:=by
 obtain⟨N,rfl⟩:∃M,N=M+1:=⟨N - 1,bv⟩;have O:=bR;have S:=h.len;obtain⟨b,u,G⟩:=lp (F:=λm k (s:D6)=>y9 N m (l,((l.length:Nat):Int),(k:Int),(a:Int),d,s)) (n:=l.length) (Q:=λb=>(b=.inr 10/\¬∀x∈l,mU (a:Int) x)\/∃s,b=.inl ((a:Int),d,s)/\(∀x∈l,mU (a:Int) x)/\Cn s l.length λe=>e∈l.map dC)
  (I:=λk s=>Cn s k (λe=>e∈(l.take k).map dC)/\∀x∈l.take k,mU (a:Int) x) (λm k s C p=>by
   obtain⟨x,g⟩:=get_at (xs:=l) (i:=k) C;have v:=auI g;obtain⟨H,J⟩:=p;rw[FR,eC bv,bd g,ob,(Gz x).1,(Gz x).2,cd];have t:mU (a:Int) x↔¬(dC x).1<0/\¬(a:Int)<=(dC x).2:=by unfold mU dC;omega
   by_cases n:(dC x).1<0
   ·rw[auo n];exact .inr ⟨_,rfl,.inl ⟨rfl,λh=>(t.1 (h x v)).1 n⟩⟩
   rw[aun n,cd];by_cases o:(a:Int)<=(dC x).2
   ·rw[auo o];exact .inr ⟨_,rfl,.inl ⟨rfl,λh=>(t.1 (h x v)).2 o⟩⟩
   rw[aun o];refine .inl ⟨dW xh s (dC x) (wrap .i64 ((bO xh s (dC x)).getD 0+1)),⟨?_,λy j=>?_⟩,?_⟩
   ·have E:=H.put bv (dC x)
    intro e;have r:(e∈(l.take k).map dC\/e=dC x)↔e∈(l.take (k+1)).map dC:=by rw[cR g,avh,auC,List.map_singleton,auN]
    obtain⟨w,z,A⟩:=E e;exact⟨w,z,A.trans (not_congr r)⟩
   ·rw[cR g]at j
    rcases auC.1 j with j|j
    ·exact J y j
    ·rw[auN.1 j];exact t.2 ⟨n,o⟩
   ·have r:=agn (s:=xh) ((bO xh s (dC x)).getD 0) (wrap .i64 ((bO xh s (dC x)).getD 0+1)) (dC x) rfl s
    have B:RX (dW xh s ((dC x).1,(dC x).2) ((bO xh s ((dC x).1,(dC x).2)).getD 0)) ((Kf xh s ((dC x).1,(dC x).2):Nat):Int) (wrap .i64 ((bO xh s ((dC x).1,(dC x).2)).getD 0+1))=some (dW xh s (dC x) (wrap .i64 ((bO xh s (dC x)).getD 0+1))):=r;rw[B,ob,cG bv]) (λm s p=>⟨_,by rw[FR,dT bv],.inr ⟨s,rfl,by have f:=p.2;rw[au0 (auq _)]at f;exact f,by have f:=p.1;rw[au0 (auq _)]at f;exact f⟩⟩) (m:=N) (i:=0) (s:=[]) bv bv ⟨λe=>⟨awU _,awU _,λ_ h=>(by simp at h),λ_=>rfl⟩,λx g=>by simp at g⟩
 rw[show((0:Nat):Int)=(0:Int)from rfl]at u;rw[aaa,h.right bv,ob];simp only[auH,auv];rw[u,ob];rcases G with⟨rfl,D⟩|⟨s,rfl,K,L⟩
 ·exact .inl ⟨rfl,D⟩
 ·simp only
  rw[Bl bv h,ob,ajx bv _ _ (by simp[cU];omega),ob];refine .inr ⟨_,rfl,K,List.filter_sublist,λe=>?_⟩;rw[awi];have:=(L e).2.2;unfold CA;rw[avC,decide_eq_false_iff_not];by_cases c:e∈l.map dC
  ·exact⟨λh=>⟨h.1,c⟩,λh=>⟨h.1,λf=>this.1 f c⟩⟩
  ·exact⟨λh=>absurd (this.2 c) h.2,λh=>absurd h.2 c⟩
end
variable{B:Int}{y:bP}
section
open Go Go.RowKit Go.Sort
def aaT(d:1<=a)(b:aX)(c:b.length<=100000000000):Xh a b=some b:=by
 obtain⟨a,rfl⟩:∃m,a=m+1:=⟨a - 1,bv⟩;rw[aeO,cw bv (by simpa using c),avd];cases b with
 |nil=>exact ur.2 ⟨rfl,rfl⟩
 |cons x e=>rfl
def ajy(A:Fu+4<=a)(f:Int)(d:bP)(s:aX)(v:s.length<=100000):aiN a (f,d,s)=some (s.filter λt=>decide (t<f)):=by
 obtain⟨a,rfl⟩:∃m,a=m+3:=⟨a - 3,bv⟩;have z:=bR;have n:∀(M:Nat) (x:Int),Pw (M+1) (x,f,d)=some (!(decide (x<f))):=λM x=>by
  rw[aeP];by_cases c:x<f
  ·rw[auU c,auW bv];rfl
  ·rw[auW c,auU bv];rfl
 have h:=QE (F:=λm k=>DN (a+1) m (s,f,d,((s.length:Nat):Int),(k:Int))) (keep:=λt=>decide (t<f)) (s:=s) (no:=.inl ()) (yes:=λk=>.inr (k:Int)) (λm i x h w=>by
  rw[I8,eC bv,bd w,ob,n,ob];cases decide (x<f)with
  |true=>rw[auH,auv,cG bv,auo rfl]
  |false=>rw[avB,auQ,aun d6]) (λm=>by rw[I8,dT bv]) (m:=a+1) bv
 rw[show((0:Nat):Int)=(0:Int)from rfl]at h;rw[aiO,aeR];rcases h with⟨g,b⟩|⟨k,x,g,b,r,u⟩
 ·rw[g,ob]
  simp only[ob];rw[eC trivial,ax6.2 b]
 ·have B:=Sp.cS b
  obtain⟨C,D,o,p,l,q⟩:=z1 (F:=λm i j s=>F4 (a+2) m (f,d,i,j,s)) (keep:=λt=>decide (t<f)) (fin:=λi s=>(i,s)) (λm i j s=>by
   rw[aeV,cd];by_cases c:j<((s.length:Nat):Int)
   ·rw[auo c,auo c]
    cases ba s j with
    |none=>rfl
    |some x=>
     rw[ob,ob,ob,n,ob];cases decide (x<f)with
     |true=>
      rw[auH,avB,auQ,auo rfl];cases ba s i with
      |none=>rfl
      |some y=>rw[ob,ob]
     |false=>rw[avB,auH,auv,aun d6]
   ·rw[aun c,aun c]) v s.length (a+2) k (k+1) s bv bv bv bv rfl (by rw[cR b,awL,ax6.2 u];simp only[awx,r];simp) rfl
  rw[g,ob];simp only[ob];rw[dT bv,cG bv,o,ob];simp only;rw[Yf p (λe=>by rw[e]at l;simp at l;omega) (0:Int),q]
def LH(n:Nat)(a:bP)(v:Nat):aX:=(vt n (dS a v)).mergeSort λx y=>decide (x<=y)
def ago:B∈LH a y h↔B∈vt a (dS y h):=(ayH _ _).mem_iff
def GL{N:Nat}(i:Fu+12<=N)(b:cn a y)(d:h<a):Px N ((a:Int),y,(h:Int))=some (0,LH a y h):=by
 obtain⟨N,rfl⟩:∃m,N=m+1:=⟨N - 1,bv⟩;have g:=bR;have c:=b.ring d;have j:=b.small.2 _ c.2.2.1;rw[aeW,Bi bv b _ d5,auo (λw f=>by rw[auN.1 f];omega),ob,BE rfl,afZ bv b d,ob,bd c.1,ob,aaT bv _ bv,ob,ajy bv _ _ _ bv,ob];have e:((dS y h).filter λt=>decide (t<(a:Int))).length<1099511627776:=by have:=axz (λt=>decide (t<(a:Int))) (dS y h);omega
 rw[ei,auU e,auQ,ob];rfl
def Yh(b:cn a y)(c:h<a):(h:Int)∈LH a y h:=by
 rw[ago];have:=(b.ring c).2.1;exact(jg c).2 this
def z6(b:cn a y)(c:h<a):(LH a y h).length<=1000:=by
 unfold LH vt;rw[azc];exact avl (axz _ _) (b.small.2 _ (b.ring c).2.2.1)
def Yi(A B:aX)(v:Int):aX:=if v∈A then []else if(if AP (A.length:Int) (B.length:Int)=0 then AP (A.headD 0) (B.headD 0)else AP (A.length:Int) (B.length:Int))<0 then A else B
def QF{N:Nat}(w:Fu+20<=N)(n:Nat)(a:Do cA)(s:a.length<=100000)(u v:Int):
 (∃e:Int,F3 N ((n:Int),a,u,v)=some (0,e)/\(e=1/\¬GR n a\/e=10/\¬mU (n:Int) (u,v)\/e=6/\GR n a/\mU (n:Int) (u,v)))\/
  ∃(k:Nat) (x:cA),F3 N ((n:Int),a,u,v)=some ((k:Int),0)/\GR n a/\mU (n:Int) (u,v)/\a[k]? =some x/\(x.1,x.2.1)=dC (u,v):=by
 obtain⟨N,rfl⟩:∃m,N=m+1:=⟨N - 1,bv⟩;obtain⟨b,p,j⟩:=uN (N:=N) bv (n:Int) a s;rw[auB]at j;rw[Pv,p,ob];cases b with
 |false=>exact .inl ⟨1,rfl,.inl ⟨rfl,λh=>by have:=j.2 ⟨bv,h⟩;cases this⟩⟩
 |true=>
  have h:=(j.1 rfl).2;have g:=Gz (u,v);simp only at g;simp only[auH,auv];rw[g.1,g.2,cd];have f:mU (n:Int) (u,v)↔¬(dC (u,v)).1<0/\¬(n:Int)<=(dC (u,v)).2:=by unfold mU dC;simp only;omega
  by_cases c:(dC (u,v)).1<0
  ·rw[auo c];exact .inl ⟨10,rfl,.inr (.inl ⟨rfl,λh=>(f.1 h).1 c⟩)⟩
  rw[aun c,cd];by_cases d:(n:Int)<=(dC (u,v)).2
  ·rw[auo d];exact .inl ⟨10,rfl,.inr (.inl ⟨rfl,λh=>(f.1 h).2 d⟩)⟩
  rw[aun d];obtain⟨i,q,r⟩:=af8 (N:=N) bv h u v;rw[q,ob,cd];rcases r with rfl|⟨k,x,rfl,t,l,o⟩
  ·rw[auo bv];exact .inl ⟨6,rfl,.inr (.inr ⟨rfl,h,f.2 ⟨c,d⟩⟩)⟩
  ·rw[aun bv];exact .inr ⟨k,x,rfl,h,f.2 ⟨c,d⟩,t,by unfold dC;rw[l,o]⟩
def ajz{N:Nat}(F:Fu+22<=N)(h:GR a d){u v:Nat}(r:u<a)(s:v<a)(n:Int):∃e,F5 N ((a:Int),d,(u:Int),(v:Int),n)=some (e,Yi (LH a (C2 a (fY d n)) u) (LH a (C2 a (fY d n)) v) (v:Int)):=by
 obtain⟨N,rfl⟩:∃m,N=m+1:=⟨N - 1,bv⟩;have E:=bR;have G:=h.len;have l:=h.LF n;have fC:mU (a:Int) ((u:Int),(v:Int)):=⟨by simp;omega,by simp;omega⟩;have g:∃i e:Int,F3 N ((a:Int),d,(u:Int),(v:Int))=some (i,e)/\e≠1/\e≠10:=by
  rcases QF (N:=N) bv a d bv (u:Int) (v:Int)with⟨e,g,j⟩|⟨k,x,g,_⟩
  ·refine⟨0,e,g,?_⟩
   rcases j with⟨_,j⟩|⟨_,j⟩|⟨rfl,_⟩
   ·exact absurd h j
   ·exact absurd fC j
   ·exact⟨d6,d6⟩
  ·exact⟨k,0,g,d6,d6⟩
 obtain⟨i,e,g,j,y⟩:=g;have C:=GL (N:=N) bv l r;have D:=GL (N:=N) bv l s;have t:=Yh l r;have w:=Yh l s;have H:=z6 l r;have I:=z6 l s;rw[I9,g,ob,dT j,dT y,Gy bv h,ob];simp only;rw[C,ob,D,ob];simp only;generalize LH a (C2 a (fY d n)) u=A at*;generalize LH a (C2 a (fY d n)) v=B at*;obtain⟨M,rfl⟩:∃M,N=M+8:=⟨N - 8,bv⟩;rw[has_eq (M+8) bv _ _ bv,ob];unfold Yi;by_cases c:(v:Int)∈A
 ·rw[auU c,auQ,auo c];exact⟨_,rfl⟩
 ·rw[auW c,auv,aun c]
  obtain⟨f,o,rfl⟩:∃f o,A=f::o:=axT λe=>by rw[e]at t;cases t
  obtain⟨b,p,rfl⟩:∃b p,B=b::p:=axT λe=>by rw[e]at w;cases w
  rw[show M+8=(M+5)+3 from rfl,qm,ob,show ba (f::o) 0=some f from rfl,show ba (b::p) 0=some b from rfl,ob,ob,ob,ob,qm,ob,show M+5+3=(M+3)+5 from rfl,Sy,ob,cd];simp only[avY];have z:∀q:Int,∃e:Int,(if q<0 then some ((0:Int),f::o)else some (0,b::p))=some (e,if q<0 then f::o else b::p):=λq=>by
   by_cases c:q<0
   ·rw[auo c,auo c];exact⟨_,rfl⟩
   ·rw[aun c,aun c];exact⟨_,rfl⟩
  exact z _
def aaU{A b:aX}(d:A.length<=a)(e:b.length<=a):(Yi A b B).length<=a:=by
 unfold Yi;have c:∀q:Int,(if q<0 then A else b).length<=a:=λq=>by split<;>assumption
 split
 ·simp
 ·exact c _
def GM{x y:cA}(b:d[a]? =some x)(h:(y.1,y.2.1)=(x.1,x.2.1)):cU (d.set a y)=cU d:=by
 unfold cU;rw[awl,h];refine avX λj=>?_;rw[avs];split
 ·rename_i e
  subst e;have c:=Sp.cS b;rw[auo (by simpa using c),auM,b];rfl
 ·rfl
def iq(a:Do cA):(cU a).length=a.length:=by simp[cU]
def QG{N:Nat}(j:1<=N){x:cA}(i:d[a]? =some x)(s:Int)(b c:In)(e f g h:Int):∃y:cA,Pz N ((a:Int),s,b,c,e,f,g,h,d)=some (s,b,c,e,f,wrap .i64 (g+1),h,d.set a y)/\(y.1,y.2.1)=(x.1,x.2.1):=by
 obtain⟨N,rfl⟩:∃m,N=m+1:=⟨N - 1,bv⟩;rw[aeX,bd i,ob,ob,auB];exact⟨_,rfl,rfl⟩
def aqt(hN:Fu+24<=a)(h1:1<=h)(d:Do cA)(hl:d.length<=100000)(u v:Nat)(Z:u<h)(hv:v<h)(w:Int)(l o:In)(p t G j:Int):
 ∃(b:In) (a0:Do cA) (t2 t3:In) (t4 t5 t6:Int),Xv a ((u:Int),(v:Int),w,(h:Int),l,o,p,t,G,j,d)=some (b,a0,(h:Int),t2,t3,t4,t5,t6,j)/\cU a0=cU d:=by
 obtain⟨a,rfl⟩:∃m,a=m+1:=⟨a - 1,bv⟩;have hF:=bR;obtain⟨e,B,S,a4⟩:∃e B,F5 a ((h:Int),d,(u:Int),(v:Int),w)=some (e,B)/\B.length<=1000:=by
  obtain⟨b,K,P⟩:=uN (N:=a - 2) bv (h:Int) d hl;rw[auB]at P;cases b with
  |true=>
   have c:=(P.1 rfl).2;obtain⟨e,he⟩:=ajz (N:=a) bv c Z hv w;exact⟨e,_,he,aaU (z6 (c.LF w) Z) (z6 (c.LF w) hv)⟩
  |false=>
   obtain⟨M,rfl⟩:∃M,a=M+2:=⟨a - 2,bv⟩;rw[show M+2 - 2=M by omega]at K;exact⟨1,[],by rw[I9,Pv,K,ob];rfl,d5⟩
 obtain⟨b1,L,V,rfl⟩:=lp (F:=λm k (q:bh)=>DO a m (w,((B.length:Nat):Int),(k:Int),(h:Int),l,o,p,t,G,j,B,d,q)) (n:=B.length) (Q:=λb=>∃V,b=(w,(h:Int),l,o,p,t,G,j,d,V)) (I:=λ_ _=>True) (λm k q C _=>by
  obtain⟨x,g⟩:=get_at (xs:=B) (i:=k) C;exact .inl ⟨_,trivial,by rw[Jb,eC bv,bd g,ob,ob,cG bv]⟩) (λm q _=>⟨_,by rw[Jb,dT bv],q,rfl⟩) (m:=a) (i:=0) (s:=[]) bv bv trivial
 obtain⟨M,rfl⟩:∃M,a=M+1:=⟨a - 1,bv⟩;obtain⟨b2,N,X,A,H,W,rfl,R,a1⟩:=lp (F:=λm k (q:Int×aX×Do cA×bh)=>qA (M+1) m (w,((d.length:Nat):Int),(k:Int),(h:Int),l,o,p,t,q.1,j,q.2.1,q.2.2.1,q.2.2.2)) (n:=d.length) (Q:=λb=>∃(X:Int) (A:aX) (H:Do cA) (W:bh),b=((h:Int),l,o,p,t,X,j,A,H,W)/\(A.length<=d.length/\∀x∈A,∃i:Nat,x=(i:Int)/\i<d.length)/\cU H=cU d)
  (I:=λk q=>(q.2.1.length<=k/\∀x∈q.2.1,∃i:Nat,x=(i:Int)/\i<d.length)/\cU q.2.2.1=cU d) (λm k q C D=>by
   obtain⟨⟨i1,E⟩,f⟩:=D;have a2:q.2.2.1.length=d.length:=by rw[<-iq,f,iq]
   obtain⟨x,g⟩:=get_at (xs:=q.2.2.1) (i:=k) bv;rw[Ja,eC bv,bd g,ob,ob,Hq,cG bv];split
   ·rw[ob]
    cases K:x.2.2.2 with
    |false=>
     rw[avB,auQ,cw bv d7,ob];refine .inl ⟨(q.1,q.2.1++[(k:Int)],q.2.2.1,q.2.2.2),⟨⟨by simp;omega,λy n=>?_⟩,f⟩,rfl⟩;rcases auC.1 n with n|n
     ·exact E y n
     ·exact⟨k,auN.1 n,C⟩
    |true=>
     rw[auH,auv,ob,Py,ob];simp only;rw[cd];split
     ·obtain⟨y,n,U⟩:=QG (N:=M+1) bv g (h:Int) l o p t q.1 j
      rw[n,ob];exact .inl ⟨(wrap .i64 (q.1+1),q.2.1,q.2.2.1.set k y,q.2.2.2),⟨⟨ayb i1,E⟩,by rw[GM g U];exact f⟩,rfl⟩
     ·exact .inl ⟨q,⟨⟨bv,E⟩,f⟩,rfl⟩
   ·exact .inl ⟨q,⟨⟨bv,E⟩,f⟩,rfl⟩) (λm q D=>⟨_,by rw[Ja,dT bv],q.1,q.2.1,q.2.2.1,q.2.2.2,rfl,D.1,D.2⟩) (m:=M+1) (i:=0) (s:=(G,[],d,V)) bv bv ⟨⟨d5,λx g=>by cases g⟩,rfl⟩
 obtain⟨b3,O,hq⟩:=lp (F:=λm k (q:Int×Do cA×bh)=>uH (M+1) m (((A.length:Nat):Int),(k:Int),(h:Int),l,o,p,t,q.1,j,A,q.2.1,q.2.2)) (n:=A.length) (Q:=λb=>∃(r:Int) (J:Do cA),cU J=cU d/\(b=.inl ((h:Int),l,o,p,t,r,j,J)\/∃x y,b=.inr (true,(h:Int),l,true,x,y,r,j,J)))
  (I:=λ_ q=>cU q.2.1=cU d) (λm k q C f=>by
   have a2:q.2.1.length=d.length:=by rw[<-iq,f,iq]
   obtain⟨z,hz⟩:=get_at (xs:=A) (i:=k) C;obtain⟨i,rfl,P⟩:=R.2 z (auI hz);obtain⟨x,g⟩:=get_at (xs:=q.2.1) (i:=i) bv;have a3:=R.1;rw[I_,eC bv,bd hz,ob,ob,bd g,ob,Py,ob,cd,cG bv];split
   ·exact .inl ⟨q,f,rfl⟩
   ·rw[cd]
    split
    ·obtain⟨y,n,U⟩:=QG (N:=M+1) bv g (h:Int) l o p t q.1 j
     rw[n,ob];exact .inl ⟨(wrap .i64 (q.1+1),q.2.1.set i y,q.2.2),by rw[GM g U];exact f,rfl⟩
    ·rw[cd]
     split
     ·have S:(q.2.1.set i (x.1,x.2.1,x.2.2.1,true))[i]? =some (x.1,x.2.1,x.2.2.1,true):=by rw[avs,auo rfl,auo bv]
      rw[ob,auB,bd S,ob,ob];exact .inr ⟨_,rfl,q.1,_,by rw[GM g (y:=(x.1,x.2.1,x.2.2.1,true)) rfl];exact f,.inr ⟨_,_,rfl⟩⟩
     ·exact .inl ⟨q,f,rfl⟩) (λm q f=>⟨_,by rw[I_,dT bv],q.1,q.2.1,f,.inl rfl⟩) (m:=M+1) (i:=0) (s:=(X,H,W)) (by have:=R.1;omega) bv a1
 rw[show((0:Nat):Int)=(0:Int)from rfl]at L N O;simp only at L N O;rw[aeY,S,ob];simp only;rw[L,ob];simp only;rw[N,ob];simp only;rw[O,ob];obtain⟨r,J,Y,rfl|⟨x,y,rfl⟩⟩:=hq
 ·exact⟨_,_,_,_,_,_,_,rfl,Y⟩
 ·exact⟨_,_,_,_,_,_,_,rfl,Y⟩
end
variable{A:Int×Int}
section
open Go Go.RowKit Go.Sort
def Tv(j:Fu+3<=a)(c b:Do cA)(k:c.length<=100000)(l:b.length<=100000):Xg a [c,b]=some (c++b):=by
 obtain⟨M,rfl⟩:∃M,a=M+4:=⟨a - 4,by rw[bR]at j;omega⟩;have d:ba ([c,b]:Do (Do cA)) (0:Int)=some c:=rfl;have e:ba ([c,b]:Do (Do cA)) (1:Int)=some b:=rfl;have f:wrap .i64 ((0:Int)+1)=1:=d6
 have g:wrap .i64 ((1:Int)+1)=2:=d6
 have h:DM (M+3) (M+3) ([c,b],0,[c,b],((([c,b]:Do (Do cA)).length:Nat):Int),0)=some ([c,b],((c.length+b.length:Nat):Int)):=by
  rw[A_,eC d5,d,ob,cd,gZ (x:=(0:Int)+((c.length:Nat):Int)) bv bv,aun bv,f,A_,eC d5,e,ob,cd,gZ (x:=(0:Int)+((c.length:Nat):Int)+((b.length:Nat):Int)) bv bv,aun bv,g,A_,dT d5];congr 2;omega
 have i:DL (M+3) (M+3) ([c,b],((([c,b]:Do (Do cA)).length:Nat):Int),0,[])=some (c++b):=by
  rw[A0,eC d5,d,ob,cw bv d7,ob,f,A0,eC d5,e,ob,cw bv d7,ob,g,A0,dT d5];simp
 rw[show M+4=(M+3)+1 from rfl,aeN,h,ob];unfold eN;rw[auU (by simp only;omega)];simp only[auQ,ob];rw[i,ob]
def QH{N:Nat}(A:Fu+24<=N){n:Nat}(z:1<=n){u v:Nat}(B:u<n)(C:v<n)(i:Int)(j k:In)(l o p I:Int)(J:In)(f:Int):∀(d m:Nat) (a:Int) (e:Do cA) (r s:In) (t w x:Int),a+1<=d->-1<=a->a<=100->d<m->e.length<=100000->
 ∃(g:Do cA) (D E:In) (F G H:Int),zn N m (a,i,j,k,l,o,p,(u:Int),(v:Int),I,J,(n:Int),r,s,t,w,x,f,e)=some (i,j,k,l,o,p,(n:Int),D,E,F,G,H,f,g)/\cU g=cU e
 |d,0,_,_,_,_,_,_,_,_,_,_,h,_=>absurd h bv
 |d,m+1,a,e,r,s,t,w,x,V,W,U,X,y=>by
  rw[SL];cases J with
  |false=>exact⟨_,_,_,_,_,_,rfl,rfl⟩
  |true=>
   rw[auQ,cd];by_cases c:0<=a
   ·obtain⟨b,g,O,P,Q,R,S,K,q⟩:=aqt A z e y u v B C a r s t w x f
    rw[auo c,K,ob];cases b with
    |true=>exact⟨_,_,_,_,_,_,rfl,q⟩
    |false=>
     simp only[avB,auQ];rw[gZ bv bv];obtain⟨Y,D,E,F,G,H,L,M⟩:=QH A z B C i j k l o p I true f (d - 1) m (a - 1) g O P Q R S bv bv bv bv (by rw[<-iq,q,iq];exact y);exact⟨_,_,_,_,_,_,L,M.trans q⟩
   ·rw[aun c];exact⟨_,_,_,_,_,_,rfl,rfl⟩
def ajA(n:Nat):Qp n<=6:=by
 unfold Qp
 repeat' split
 all_goals omega
def ans{N:Nat}(C:Fu+26<=N){n:Nat}(ts:Do cA)(y:ts.length<=100000){u v:Nat}(F:u<v):∃(e:Int) (a:Do cA) (o p:In) (q r s:Int),Lc N ((n:Int),ts,(u:Int),(v:Int))=some (e,(n:Int),a,o,p,q,r,s)/\
 ((e≠0/\a=ts)\/e=0/\a.length<=ts.length/\(cU a).Sublist (cU ts)/\((u:Int),(v:Int))∉cU a):=by
 obtain⟨N,rfl⟩:∃m,N=m+1:=⟨N - 1,bv⟩;have B:=bR;rw[aan];rcases QF (N:=N) bv n ts y (u:Int) (v:Int)with⟨e,f,b⟩|⟨k,x,f,h,fC,c,l⟩
 ·rw[f,ob,cnF (by simp only;rcases b with⟨rfl,_⟩|⟨rfl,_⟩|⟨rfl,_⟩<;>decide)]
  exact⟨_,_,_,_,_,_,_,rfl,.inl ⟨by rcases b with⟨rfl,_⟩|⟨rfl,_⟩|⟨rfl,_⟩<;>decide,rfl⟩⟩
 ·have D:=Sp.cS c
  have A:=h.tie x (auI c);unfold nT at A;unfold mU at fC;simp only at fC;have E:=ajA n;have d:x.1=(u:Int)/\x.2.1=(v:Int):=by
   unfold dC at l;simp only[auK]at l;omega
  rw[f,ob,BE rfl];simp only;rw[bd c,ob,tw bv bv,ob,cG bv,tA bv bv,ob,auB,auB,Tv bv _ _ (by rw[au8];omega) (by rw[awb];omega),ob,af6 bv h.lo h.hi,ob,d.1,d.2];have t:(ts.take k++ts.drop (k+1)).length<=100000:=by rw[auE,au8,awb];omega
  obtain⟨a,G,H,I,J,K,b,g⟩:=QH (N:=N) bv h.lo (u:=u) (v:=v) bv bv 0 false false 0 0 0 x.2.2.1 x.2.2.2 (Qp n:Int) (x.2.2.1.toNat+1) N x.2.2.1 _ x.2.2.2 false 0 0 0 bv bv bv bv t;rw[b,ob];have i:cU (ts.take k++ts.drop (k+1))=(cU ts).eraseIdx k:=by
   unfold cU;rw[List.eraseIdx_eq_take_drop_succ,avh,awJ,awZ]
  refine⟨_,_,_,_,_,_,_,rfl,.inr ⟨rfl,?_,?_,λj=>?_⟩⟩
  ·rw[<-iq,g,iq,auE,au8,awb];omega
  ·rw[g,i];exact ayP _ _
  ·rw[g,i]at j
   have w:(cU ts)[k]? =some ((u:Int),(v:Int)):=by
    unfold cU;rw[auM,c,avz,d.1,d.2]
   have z:=(kQ w).nodup_iff.1 (uO (GA h.srt));exact(avD.1 z).1 j
def QI(h:A.1<A.2):dC A=A:=by
 obtain⟨a,b⟩:=A;simp only at h;unfold dC;simp only;exact axk (by simp only;omega) (by simp only;omega)
def drop_eq{N:Nat}(hN:Fu+30<=N)(h:GR a d)(l:bh)(S:l.length<=10000):∃(e:Int) (g:Do cA) (all:Do (In×In×(Int×Int)×Int)),tk N ((a:Int),d,l)=some (e,(a:Int),g,all)/\
 ((e≠0/\g=d)\/e=0/\(cU g).Sublist (cU d)/\(∀x∈cU g,x∉l.map dC)/\(l=[]->g=d)):=by
 obtain⟨N,rfl⟩:∃m,N=m+1:=⟨N - 1,bv⟩;have hF:=bR;have a1:=h.len;rw[aao];rcases Yg (N:=N) bv h l S with⟨r,_⟩|⟨f,r,fC,A,z⟩
 ·rw[r,ob,cnF d5]
  exact⟨_,_,_,rfl,.inl ⟨d6,rfl⟩⟩
 ·have a0:f.length<=400:=by have:=A.length_le;rw[iq]at this;omega
  rw[r,ob,BE rfl];simp only;obtain⟨b,t,V⟩:=lp (F:=λm k (q:Do (In×In×(Int×Int)×Int)×Do cA)=>zo N m (((f.length:Nat):Int),(k:Int),(a:Int),d,(0:Int),q.1,(a:Int),q.2,f)) (n:=f.length) (Q:=λb=>(∃e,b=.inr (e,(a:Int),d)/\e≠0)\/∃all n,b=.inl ((0:Int),all,(a:Int),n)/\(cU n).Sublist (cU d)/\(∀x∈f,x∉cU n)/\(f=[]->n=d))
   (I:=λk q=>q.1.length<=k/\q.2.length<=d.length/\(cU q.2).Sublist (cU d)/\(∀x∈f.take k,x∉cU q.2)/\(f=[]->q.2=d)) (λm k q R o=>by
    obtain⟨i1,i2,X,Y,i5⟩:=o;obtain⟨x,c⟩:=get_at (xs:=f) (i:=k) R;have W:=Yb h.tie x (A.subset (auI c));obtain⟨C,D⟩:=x;simp only at W;obtain⟨u,rfl⟩:∃u:Nat,C=(u:Int):=⟨C.toNat,bv⟩;obtain⟨v,rfl⟩:∃v:Nat,D=(v:Int):=⟨D.toNat,bv⟩;obtain⟨e,g,E,G,H,J,K,L,p⟩:=ans (N:=N) bv (n:=a) q.2 bv (u:=u) (v:=v) bv;rw[F6,eC bv,bd c,ob,ob];simp only;rw[L,ob,Hq];rcases p with⟨p,M⟩|⟨rfl,M,w,O⟩
    ·rw[aun p];exact .inr ⟨_,rfl,.inl ⟨e,rfl,p⟩⟩
    ·rw[auo rfl,cw bv d7,ob,cG bv]
     refine .inl ⟨(q.1++[(E,G,(H,J),K)],g),⟨by simp;omega,by simp only;omega,w.trans X,λy j=>?_,λe=>by rw[e]at c;simp at c⟩,rfl⟩;rw[cR c]at j;rcases auC.1 j with j|j
     ·exactλh=>Y y j (w.subset h)
     ·rw[auN.1 j];exact O) (λm q o=>⟨_,by rw[F6,dT bv],.inr ⟨q.1,q.2,rfl,o.2.2.1,by have:=o.2.2.2.1;rw[au0 (auq _)]at this;exact this,o.2.2.2.2⟩⟩) (m:=N) (i:=0) (s:=([],d)) bv bv ⟨d5,auq _,List.Sublist.refl _,d5,λ_=>rfl⟩
  rw[show((0:Nat):Int)=(0:Int)from rfl]at t;simp only at t;rw[t,ob];rcases V with⟨e,rfl,P⟩|⟨all,n,rfl,B,Z,q3⟩
  ·exact⟨_,_,_,rfl,.inl ⟨P,rfl⟩⟩
  ·refine⟨_,_,_,rfl,.inr ⟨rfl,B,λx c U=>Z x ((z x).2 ⟨B.subset c,U⟩) c,λe=>q3 ?_⟩⟩
   rw[awY];intro x c;have:=((z x).1 c).2;rw[e]at this;simp at this
end
section
open Go Go.RowKit Go.Sort
def aaV(n:Int):Prop:=0<=n/\n<65536
def z7{N:Nat}(c:1<=N)(n:Int):∃b,wQ N n=some b/\(b=true↔aaV n):=by
 obtain⟨N,rfl⟩:∃m,N=m+1:=⟨N - 1,bv⟩;refine⟨_,ZJ N n,?_⟩;have a:wrap .u16 n=n % 65536:=by simp[wrap,IntKind.bits,IntKind.signed]
 rw[avn,a,gZ bv bv];unfold aaV;omega
def Tw(e:Int×Int):Prop:=aaV e.1/\aaV e.2
def Tx(a:Int×Int×Int):Prop:=(1<=a.1/\a.1<=4)/\aaV a.2.1/\aaV a.2.2
def agp{N:Nat}(h:2<=N)(e:Int×Int):∃b,VE N (e.1,e.2)=some b/\(b=false↔Tw e):=by
 obtain⟨N,rfl⟩:∃m,N=m+1:=⟨N - 1,bv⟩;obtain⟨a,f,c⟩:=z7 (N:=N) bv e.1;obtain⟨b,g,d⟩:=z7 (N:=N) bv e.2;rw[adx,f,ob,g];unfold Tw;rw[<-c,<-d];cases a<;>cases b<;>exact⟨_,rfl,d5⟩
def agq{N:Nat}(j:2<=N)(e:Int×Int×Int):∃b,VI N (e.1,e.2.1,e.2.2)=some b/\(b=false↔Tx e):=by
 obtain⟨N,rfl⟩:∃m,N=m+2:=⟨N - 2,bv⟩;obtain⟨a,g,d⟩:=z7 (N:=N+1) bv e.2.1;obtain⟨b,h,f⟩:=z7 (N:=N+1) bv e.2.2;have i:wR (N+1) e.1=some (decide (1<=e.1/\e.1<=4)):=by
  rw[IE,cd];by_cases c:1<=e.1<;>simp[c]
 rw[adC,i,ob,g,h];unfold Tx;rw[<-d,<-f];by_cases c:1<=e.1/\e.1<=4
 ·rw[auU c]
  cases a<;>cases b<;>exact⟨_,rfl,by simp[c]⟩
 ·rw[auW c]
  exact⟨_,rfl,by simp[c]⟩
def ajB{N:Nat}(u:Fu+4<=N)(l:bh)(v:l.length<=100000):∃b,adA N l=some b/\(b=false↔∀e∈l,Tw e):=by
 obtain⟨N,rfl⟩:∃m,N=m+2:=⟨N - 2,bv⟩;have t:=bR;obtain⟨b,g,r⟩:=lp (F:=λm k (_:Unit)=>Du N m (l,((l.length:Nat):Int),(k:Int))) (n:=l.length) (Q:=λb=>(b=.inl ()/\∀e∈l,Tw e)\/∃k:Nat,b=.inr (k:Int)/\¬∀e∈l,Tw e) (I:=λk _=>∀e∈l.take k,Tw e) (λm k s j d=>by
  obtain⟨x,f⟩:=get_at (xs:=l) (i:=k) j;have p:=auI f;obtain⟨o,q,a⟩:=agp (N:=N) bv x;rw[IC,eC bv,bd f,ob,q,ob];cases o with
  |true=>exact .inr ⟨_,rfl,.inr ⟨k,rfl,λh=>by have:=a.2 (h x p);cases this⟩⟩
  |false=>
   refine .inl ⟨(),λe c=>?_,by rw[auv,cG bv]⟩;rw[cR f]at c;rcases auC.1 c with c|c
   ·exact d e c
   ·rw[auN.1 c];exact a.1 rfl) (λm s d=>⟨_,by rw[IC,dT bv],.inl ⟨rfl,by rw[au0 (auq _)]at d;exact d⟩⟩) (m:=N) (i:=0) (s:=()) bv bv d5
 rw[show((0:Nat):Int)=(0:Int)from rfl]at g;rw[aiG,adz,g,ob];rcases r with⟨rfl,h⟩|⟨k,rfl,h⟩
 ·exact⟨_,rfl,λ_=>h,λ_=>rfl⟩
 ·refine⟨_,rfl,λa=>?_,λa=>absurd a h⟩
  have:=aww a;omega
def ajC{N:Nat}(u:Fu+4<=N)(l:fU)(v:l.length<=100000):∃b,adF N l=some b/\(b=false↔∀e∈l,Tx e):=by
 obtain⟨N,rfl⟩:∃m,N=m+2:=⟨N - 2,bv⟩;have t:=bR;obtain⟨b,g,r⟩:=lp (F:=λm k (_:Unit)=>Dv N m (l,((l.length:Nat):Int),(k:Int))) (n:=l.length) (Q:=λb=>(b=.inl ()/\∀e∈l,Tx e)\/∃k:Nat,b=.inr (k:Int)/\¬∀e∈l,Tx e) (I:=λk _=>∀e∈l.take k,Tx e) (λm k s j d=>by
  obtain⟨x,f⟩:=get_at (xs:=l) (i:=k) j;have p:=auI f;obtain⟨o,q,a⟩:=agq (N:=N) bv x;rw[IF,eC bv,bd f,ob,q,ob];cases o with
  |true=>exact .inr ⟨_,rfl,.inr ⟨k,rfl,λh=>by have:=a.2 (h x p);cases this⟩⟩
  |false=>
   refine .inl ⟨(),λe c=>?_,by rw[auv,cG bv]⟩;rw[cR f]at c;rcases auC.1 c with c|c
   ·exact d e c
   ·rw[auN.1 c];exact a.1 rfl) (λm s d=>⟨_,by rw[IF,dT bv],.inl ⟨rfl,by rw[au0 (auq _)]at d;exact d⟩⟩) (m:=N) (i:=0) (s:=()) bv bv d5
 rw[show((0:Nat):Int)=(0:Int)from rfl]at g;rw[aiH,adE,g,ob];rcases r with⟨rfl,h⟩|⟨k,rfl,h⟩
 ·exact⟨_,rfl,λ_=>h,λ_=>rfl⟩
 ·refine⟨_,rfl,λa=>?_,λa=>absurd a h⟩
  have:=aww a;omega
def WR(k:Int)(b:bh)(c:fU):Prop:=
 ((k=1\/k=2)/\c=[]/\b.length<=60/\∀e∈b,Tw e)\/(k=3/\b=[]/\c.length<=60/\∀a∈c,Tx a)
def JD{N:Nat}(z:Fu+6<=N)(k:Int)(a:bh)(d:fU)(u:a.length<=100000)(w:d.length<=100000):∃b,KL N (k,a,d)=some b/\(b=true↔WR k a d):=by
 obtain⟨N,rfl⟩:∃m,N=m+2:=⟨N - 2,bv⟩;obtain⟨q,s,l⟩:=ajB (N:=N+1) bv a u;obtain⟨r,t,n⟩:=ajC (N:=N+1) bv d w;have p:∀b:In,(b=true↔k=1\/k=2)->∃c,(aW (some (k,b,k,a,d)) λe=>cond e.2.1
  (cond (decide ((((List.length e.2.2.2.2):Nat):Int)=(0:Int)))
   (cond (decide ((((List.length e.2.2.2.1):Nat):Int)<=(60:Int)))
    (aW (adA (N+1) e.2.2.2.1) λx=>
     some (!x))
    (some false))
   (some false))
  (cond (decide (e.1=(3:Int)))
   (cond (decide ((((List.length e.2.2.2.1):Nat):Int)=(0:Int)))
    (cond (decide ((((List.length e.2.2.2.2):Nat):Int)<=(60:Int)))
     (aW (adF (N+1) e.2.2.2.2) λy=>
      some (!y))
     (some false))
    (some false))
   (some false)))=some c/\(c=true↔WR k a d):=λb o=>by
   rw[ob];simp only;unfold WR;cases b with
   |true=>
    have g:=o.1 rfl;rw[auQ,cd];by_cases f:d=[]
    ·subst f
     rw[auo d5,cd];by_cases j:a.length<=60
     ·rw[auo bv,s,ob]
      refine⟨_,rfl,?_⟩;cases q
      ·exact⟨λ_=>.inl ⟨g,rfl,j,l.1 rfl⟩,λ_=>rfl⟩
      ·refine⟨λh=>(by cases h),?_⟩
       rintro(⟨_,_,_,h⟩|⟨h,_⟩)
       ·exact absurd (l.2 h) d5
       ·omega
     ·rw[aun bv]
      refine⟨_,rfl,λh=>(by cases h),?_⟩;rintro(⟨_,_,h,_⟩|⟨h,_⟩)<;>omega
    ·have v:d.length≠0:=λh=>f (avq h)
     rw[aun bv];refine⟨_,rfl,λh=>(by cases h),?_⟩;rintro(⟨_,h,_⟩|⟨h,_⟩)
     ·exact absurd h f
     ·omega
   |false=>
    have g:¬(k=1\/k=2):=λh=>by have:=o.2 h;cases this
    rw[auv,cd];by_cases i:k=3
    ·rw[auo i,cd]
     by_cases f:a=[]
     ·subst f
      rw[auo d5,cd];by_cases j:d.length<=60
      ·rw[auo bv,t,ob]
       refine⟨_,rfl,?_⟩;cases r
       ·exact⟨λ_=>.inr ⟨i,rfl,j,n.1 rfl⟩,λ_=>rfl⟩
       ·refine⟨λh=>(by cases h),?_⟩
        rintro(⟨h,_⟩|⟨_,_,_,h⟩)
        ·exact absurd h g
        ·exact absurd (n.2 h) d5
      ·rw[aun bv]
       refine⟨_,rfl,λh=>(by cases h),?_⟩;rintro(⟨h,_⟩|⟨_,_,h,_⟩)
       ·exact absurd h g
       ·omega
     ·have v:a.length≠0:=λh=>f (avq h)
      rw[aun bv];refine⟨_,rfl,λh=>(by cases h),?_⟩;rintro(⟨h,_⟩|⟨_,h,_⟩)
      ·exact absurd h g
      ·exact absurd h f
    ·rw[aun i]
     refine⟨_,rfl,λh=>(by cases h),?_⟩;rintro(⟨h,_⟩|⟨h,_⟩)
     ·exact absurd h g
     ·exact absurd h i
 rw[ZL,SE,cd];by_cases c:k=1
 ·rw[auo c];exact p true (by simp[c])
 ·rw[aun c];exact p (decide (k=2)) (by simp[c])
def tO(a:Int×Int×Int):aX:=if a.1=1 then [a.2.1,a.2.2]else if a.1=2\/a.1=3 then [a.2.1]else []
def GN(a:bh)(qs:fU):aX:=a.flatMap (λe=>[e.1,e.2])++qs.flatMap tO
def GO(a:Int×Int×Int):(tO a).length<=2:=by unfold tO;split<;>(try split)<;>simp
def agr(c:1<=a)(b:Int×Int×Int):VM a (b.1,b.2.1,b.2.2)=some (tO b):=by
 obtain⟨a,rfl⟩:∃m,a=m+1:=⟨a - 1,bv⟩;rw[adG,cd,cd,cd];unfold tO;split
 ·rfl
 ·split
  ·rw[auo bv]
  ·split
   ·rw[auo bv]
   ·rw[aun bv]
def ajD(t:Fu+3<=a)(k:Int)(c:bh)(d:fU)(u:c.length<=1000)(w:d.length<=1000):VU a (k,c,d)=some (GN c d):=by
 obtain⟨a,rfl⟩:∃m,a=m+1:=⟨a - 1,bv⟩;have r:=bR;have j:=lpv (F:=λm i (s:aX)=>Dx a m (c,((c.length:Nat):Int),(i:Int),k,c,d,s)) (n:=c.length) (b:=(k,c,d,c.flatMap λe=>[e.1,e.2])) (I:=λi s=>s=(c.take i).flatMap (λe=>[e.1,e.2])/\s.length<=2*i) (λm i s h f=>by
  obtain⟨x,g⟩:=get_at (xs:=c) (i:=i) h;have:=f.2;exact⟨s++[x.1,x.2],⟨by rw[f.1,cR g,ayV];rfl,by simp;omega⟩,by rw[IH,eC bv,bd g,ob,cw bv d7,ob,cG bv]⟩) (λm s f=>by rw[IH,dT bv,f.1,au0 (auq _)]) (m:=a) (i:=0) (s:=[]) bv bv ⟨d5,d5⟩
 have p:∀l:bh,(l.flatMap λe=>[e.1,e.2]).length=2*l.length:=λl=>by
  induction l with
  |nil=>rfl
  |cons x l q=>rw[au1,auE,q];simp;omega
 have o:=lpv (F:=λm i (s:aX)=>Dw a m (d,((d.length:Nat):Int),(i:Int),s)) (n:=d.length) (b:=GN c d) (I:=λi s=>s=(c.flatMap λe=>[e.1,e.2])++(d.take i).flatMap tO/\s.length<=2000+2*i) (λm i s h f=>by
  obtain⟨x,g⟩:=get_at (xs:=d) (i:=i) h;have:=f.2;have v:=GO x;exact⟨s++tO x,⟨by rw[f.1,cR g,ayV,auV];simp,by rw[auE];omega⟩,by rw[IG,eC bv,bd g,ob,agr bv,ob,cw bv bv,ob,cG bv]⟩) (λm s f=>by rw[IG,dT bv,f.1,au0 (auq _)];rfl) (m:=a) (i:=0) (s:=c.flatMap λe=>[e.1,e.2]) bv bv ⟨d5,by rw[p];omega⟩
 rw[show((0:Nat):Int)=(0:Int)from rfl]at j o;rw[adH,j,ob];simp only;rw[o,ob]
def aaW(b:bh)(a:fU)(g:b.length<=1000)(h:a.length<=1000):(GN b a).length<=4000:=by
 have d:∀l:bh,(l.flatMap λe=>[e.1,e.2]).length=2*l.length:=λl=>by
  induction l with
  |nil=>rfl
  |cons x l c=>rw[au1,auE,c];simp;omega
 have f:∀l:fU,(l.flatMap tO).length<=2*l.length:=λl=>by
  induction l with
  |nil=>simp
  |cons x l c=>rw[au1,auE,auP];have:=GO x;omega
 have:=f a;unfold GN;rw[auE,d];omega
def ags{N:Nat}(t:Fu+4<=N)(n:Int)(e:Do cA)(a:aX)(d:a.length<=100000):∃b,VY N (a,n,e)=some (b,n,e)/\(b=false↔∀v∈a,v<n):=by
 obtain⟨N,rfl⟩:∃m,N=m+2:=⟨N - 2,bv⟩;have r:=bR;obtain⟨b,l,q⟩:=lp (F:=λm k (_:Unit)=>Dy N m (a,((a.length:Nat):Int),(k:Int),n,e)) (n:=a.length) (Q:=λb=>(b=.inl (n,e)/\∀v∈a,v<n)\/∃k:Nat,b=.inr ((k:Int),n,e)/\¬∀v∈a,v<n) (I:=λk _=>∀v∈a.take k,v<n) (λm k s o f=>by
  obtain⟨x,j⟩:=get_at (xs:=a) (i:=k) o;have p:=auI j;obtain⟨M,rfl⟩:∃M,N=M+1:=⟨N - 1,bv⟩;rw[II,eC bv,bd j,ob,adJ,ob];simp only;rw[cd];by_cases c:n<=x
  ·rw[auo c];exact .inr ⟨_,rfl,.inr ⟨k,rfl,λh=>by have:=h x p;omega⟩⟩
  ·rw[aun c,cG bv]
   refine .inl ⟨(),λv d=>?_,rfl⟩;rw[cR j]at d;rcases auC.1 d with d|d
   ·exact f v d
   ·rw[auN.1 d];omega) (λm s f=>⟨_,by rw[II,dT bv],.inl ⟨rfl,by rw[au0 (auq _)]at f;exact f⟩⟩) (m:=N) (i:=0) (s:=()) bv bv d5
 rw[show((0:Nat):Int)=(0:Int)from rfl]at l;rw[adM,adL,l,ob];rcases q with⟨rfl,h⟩|⟨k,rfl,h⟩
 ·exact⟨_,rfl,λ_=>h,λ_=>rfl⟩
 ·refine⟨_,rfl,λg=>?_,λg=>absurd g h⟩
  have:=aww g;simp only at this;omega
end
end Go.Proofs.YtglncfdpdaageaaGreatDoor
namespace Go.Proofs.YtglncfdpdaageaaGreatDoor.Dd
def lp{σ β:Type}{F:Nat->Nat->σ->At β}{n:Nat}{I:Nat->σ->Prop}{Q:β->Prop}(g:∀m i s,i<n->I i s->(∃d,I (i+1) d/\F (m+1) i s=F m (i+1) d)\/∃b,F (m+1) i s=some b/\Q b)
 (f:∀m s,I n s->∃b,F (m+1) n s=some b/\Q b):∀{m i:Nat} {s:σ},n - i<m->i<=n->I i s->∃b,F m i s=some b/\Q b
 |0,i,s,h,_,_=>absurd h bv
 |m+1,i,s,h,k,e=>by
  by_cases c:i<n
  ·rcases g m i s c e with⟨d,a,j⟩|a
   ·rw[j];exact lp g f bv bv a
   ·exact a
  ·obtain rfl:i=n:=bv
   exact f m s e
def Ty{σ β:Type}{F:Nat->Nat->σ->At β}{n:Nat}{I:Nat->σ->Prop}{Q:β->Prop}(g:∀m i s,i<n->I i s->∃a,I (i+1) a/\F (m+1) i s=F m (i+1) a)(e:∀m s,I n s->∃b,F (m+1) n s=some b/\Q b)
 {m:Nat} {s:σ} (h:n<m) (c:I 0 s):∃b,F m 0 s=some b/\Q b:=lp (λm i s f d=>.inl (g m i s f d)) e bv bv c
def wU(x:Int):wrap .u32 x=x % 4294967296:=ayW x
def agt{α:Type}{a:Do α}{f:Nat->α}{k:Nat}(b:k<a.length)(h:∀j,j<k->a[j]? =some (f j)):∀j,j<k+1->(a.set k (f k))[j]? =some (f j):=λj d=>by
 rw[avs];by_cases c:k=j
 ·subst c;rw[auo rfl,auo b]
 ·rw[aun c];exact h j bv
def z8{α:Type}{a:Do α}{f:Nat->α}{n:Nat}(b:a.length=n)(h:∀j,j<n->a[j]? =some (f j)):a=(List.range n).map f:=by
 refine avX λj=>?_;by_cases c:j<n
 ·rw[h j c,auM,axp c];rfl
 ·rw[au5 bv,au5 d7]
def pM(l:aX)(i:Nat):Int:=(l.take i).sum % 4294967296
def QJ{l:aX}{i:Nat}{x:Int}(h:l[i]? =some x):pM l (i+1)=(pM l i+x) % 4294967296:=by
 unfold pM;rw[List.take_add_one,h];simp
def bW(l:aX)(b i:Nat):aX:=(l.take ((i+1)*b)).drop (i*b)
def agu(l:aX)(b i:Nat):l.take (i*b)++bW l b i=l.take ((i+1)*b):=by
 unfold bW;have:l.take (i*b)=(l.take ((i+1)*b)).take (i*b):=by
  rw[awE,avJ (awC _ bv)]
 rw[this,awf]
def LI(l:aX)(b i:Nat):(bW l b i).length=min ((i+1)*b) l.length - i*b:=by simp[bW]
def LJ{l:aX}{b:Nat}{a:aX}:∀(i:Nat),(∀j,j<i->a[j]? =some ((bW l b j).sum % 4294967296))->pM a i=pM l (i*b)
 |0,_=>by simp[pM]
 |i+1,h=>by
  rw[QJ (h i bv),LJ i (λj c=>h j bv)];unfold pM;rw[<-agu,ax7];simp
def aqu{l:aX}{b i k:Nat}(a:k<=b):(pM l (i*b)+pM (bW l b i) k) % 4294967296=pM l (i*b+k):=by
 have:l.take (i*b)++(bW l b i).take k=l.take (i*b+k):=by
  unfold bW;rw[List.take_drop,awE,axB,avJ bv];have:l.take (i*b)=(l.take (i*b+k)).take (i*b):=by
   rw[awE,avJ bv]
  rw[this,awf]
 unfold pM;rw[<-this,ax7];simp
def gB(l:aX):aX:=(List.range l.length).map (pM l)
def xa{l:aX}{i:Nat}(h:i<l.length):(gB l)[i]? =some (pM l i):=by
 unfold gB;rw[auM,axp h];rfl
def GP{N:Nat}(h:Fu+3<=N)(l:aX)(p:l.length<=100000):IQ N l=some (pM l l.length,gB l):=by
 obtain⟨N,rfl⟩:∃M,N=M+2:=⟨N - 2,bv⟩;have g:=bR;obtain⟨b,d,rfl⟩:=Ty (F:=λm k (s:Int×aX)=>DB (N+1) m (s.1,l,((l.length:Nat):Int),(k:Int),s.2)) (n:=l.length) (Q:=λb=>b=(pM l l.length,gB l)) (I:=λk s=>s.1=pM l k/\s.2.length=l.length/\∀j,j<k->s.2[j]? =some (pM l j)) (λm k s c a=>by
  obtain⟨x,e⟩:=get_at (xs:=l) (i:=k) c;obtain⟨y,f⟩:=get_at (xs:=s.2) (i:=k) (by rw[a.2.1];exact c);refine⟨(pM l (k+1),s.2.set k (pM l k)),⟨rfl,by simp[a.2.1],agt (by rw[a.2.1];exact c) a.2.2⟩,?_⟩;rw[IS,eC bv,bd e,ob,bd f,ob,ob,IP,ob,wU,a.1,<-QJ e,cG bv];rfl) (λm s a=>⟨_,by rw[IS,dT bv],by rw[a.1,z8 a.2.1 a.2.2];rfl⟩) (m:=N+1) (s:=(0,replicate l.length 0)) bv ⟨by simp[pM],d5,λj o=>by omega⟩
 rw[ad7,mT bv bv bv,ob,auB];rw[show((0:Nat):Int)=(0:Int)from rfl]at d;rw[d,ob]
def xb(n b:Nat):Nat:=(n+b - 1)/b
def Bo{n b i:Nat}(a:1<=b):i<xb n b↔i*b<n:=by
 unfold xb;rw[Nat.lt_iff_add_one_le,ax1 bv,axB];omega
def GQ{n b:Nat}(a:1<=b):xb n b<=n:=by
 unfold xb;rcases axq n with h|h
 ·subst h;rw[ayI bv];omega
 ·rw[Nat.div_le_iff_le_mul_add_pred bv]
  have:n<=b*n:=Nat.le_mul_of_pos_left n bv;omega
def DX{N:Nat}(m:1<=N){l:aX}{b i:Nat}(n:b<=100)(f:1<=b)(o:l.length<=100000)(g:i<xb l.length b):FF N (l,(i:Int),(b:Int))=some (bW l b i):=by
 obtain⟨N,rfl⟩:∃M,N=M+1:=⟨N - 1,bv⟩;have h:=(Bo f).1 g;have a:(i:Int)*(b:Int)=((i*b:Nat):Int):=by rw[awh]
 have d:((i:Int)+1)*(b:Int)=(((i+1)*b:Nat):Int):=by rw[awh];rfl
 have j:(i+1)*b=i*b+b:=axB _ _;have k:i<=i*b:=azo i bv;rw[Z1,show wrap .i64 ((i:Int)+1)=(i:Int)+1 from gZ bv bv,a,d,gZ (x:=((i*b:Nat):Int)) bv bv,gZ (x:=(((i+1)*b:Nat):Int)) bv bv];have e:(if(((i+1)*b:Nat):Int)<((l.length:Nat):Int)then(((i+1)*b:Nat):Int)else((l.length:Nat):Int))=((min ((i+1)*b) l.length:Nat):Int):=by split<;>omega
 rw[e,Bc bv bv bv,ob];unfold bW;rw[auB,auB];congr 2;rcases axv ((i+1)*b) l.length with c|c
 ·rw[avJ c]
 ·rw[axw c,au0 (auq _),au0 c]
def agv(g P:Int)(b:bh):Prop:=∀n:Nat,n<=60->∃(t:Nat) (a:aX),a.Perm (Sp.tM n)/\t<=100000/\∀N,Fu+13<=N->kL N ((n:Int),g,P,b)=some ((t:Int),0,a)
def aqv{g P:Nat}(b:1<=g)(e:g<=8)(f:1<=P)(c:P<=8){a:bh}(k:a.length<=200):agv (g:Int) (P:Int) a:=λn j=>by
 rcases axq n with h|h
 ·subst h
  refine⟨0,[],by simp[Sp.tM],bv,λN i=>?_⟩;obtain⟨N,rfl⟩:∃m,N=m+2:=⟨N - 2,bv⟩;rw[IN,dT bv,dT bv,IK,eC bv,eC bv,eC bv,eC bv,ob,auU (show((a.length:Nat):Int)<=4000 by omega)];rfl
 ·obtain⟨s,d,p,t,q⟩:=Sp.agj (n:=n) bv j b e f c a k
  have u:=Sp.Qx (g:=g) b n n (auq _) bv;have r:P*Sp.tn g n<=8*119:=avZ c bv;have o:=d.cr.ovr.1 p;have l:=d.cr.job.pu;rw[o,ax2,au_]at l;exact⟨_,_,l,bv,λN i=>Sp.agl bv j b e f c k d bv q i⟩
def z_{n:Nat}{x:Int}:x∈Sp.tM n↔∃i:Nat,x=(i:Int)/\i<n:=by
 unfold Sp.tM;simp only[auD,avr];constructor
 ·rintro⟨i,h,rfl⟩;exact⟨i,rfl,h⟩
 ·rintro⟨i,rfl,h⟩;exact⟨i,h,rfl⟩
def aaX{N:Nat}(c:2<=N){n b:Nat}(e:n<=1000)(a:1<=b)(d:b<=100):KQ N ((n:Int),(b:Int))=some ((xb n b:Nat):Int):=by
 obtain⟨N,rfl⟩:∃M,N=M+2:=⟨N - 2,bv⟩;have:=GQ (n:=n) a;rw[ZO,dT bv,dT bv,IJ,eC bv,ob,auU bv];simp only[auH,auv];rw[show wrap .i64 ((n:Int)+(b:Int))=((n+b:Nat):Int) by rw[gZ bv bv];omega,show wrap .i64 (((n+b:Nat):Int) - 1)=((n+b - 1:Nat):Int) by rw[gZ bv bv];omega,S5 bv,ob,zC];rw[show(n+b - 1)/b=xb n b from rfl,gZ bv bv]
def Yj{N:Nat}(hN:Fu+20<=N){g P:Int}{Y:bh}(hO:agv g P Y){l:aX}(hl:l.length<=60){b:Nat}(w:1<=b)(H:b<=100):
 ∃t:Nat,t<=200000/\FG N (l,(b:Int),g,P,Y)=some (pM l l.length,(t:Int),0,gB l):=by
 obtain⟨N,rfl⟩:∃M,N=M+2:=⟨N - 2,bv⟩;have hF:=bR;have ab:=GQ (n:=l.length) w;obtain⟨t,f,G,ht,J⟩:=hO (xb l.length b) bv;refine⟨2*t,bv,?_⟩;have ac:f.length<=60:=by rw[G.length_eq];simp[Sp.tM];omega
 have X:∀{k:Nat} {x:Int},f[k]? =some x->∃i:Nat,x=(i:Int)/\i<xb l.length b:=λh=>z_.1 (G.mem_iff.1 (auI h));obtain⟨b1,O,p,rfl,a5,W⟩:=Ty (F:=λm k (s:aX)=>DD N m (l,(b:Int),(t:Int),((f.length:Nat):Int),(k:Int),f,s)) (n:=f.length) (Q:=λr=>∃p:aX,r=(l,(b:Int),(t:Int),f,p)/\p.length=xb l.length b/\∀j,j<xb l.length b->p[j]? =some ((bW l b j).sum % 4294967296))
  (I:=λk s=>s.length=xb l.length b/\∀j:Nat,(j:Int)∈f.take k->s[j]? =some ((bW l b j).sum % 4294967296)) (λm k s C e=>by
   obtain⟨x,z⟩:=get_at (xs:=f) (i:=k) C;obtain⟨i,rfl,q⟩:=X z;obtain⟨y,K⟩:=get_at (xs:=s) (i:=i) (by rw[e.1];exact q);have E:(bW l b i).length<=100000:=by rw[LI];omega
   refine⟨s.set i ((bW l b i).sum % 4294967296),⟨by simp[e.1],λj o=>?_⟩,?_⟩
   ·rw[avs]
    by_cases c:i=j
    ·subst c;rw[auo rfl,auo (by rw[e.1];exact q)]
    ·rw[aun c]
     rw[cR z]at o;rcases auC.1 o with o|o
     ·exact e.2 j o
     ·have:=auN.1 o;omega
   ·rw[IV,eC bv,bd z,ob,ob,DX bv H w bv q,ob,GP bv _ E,ob,bd K,ob,ob,cG bv]
    unfold pM;rw[au0 (auq _)];rfl) (λm s e=>⟨_,by rw[IV,dT bv],s,rfl,e.1,λj o=>e.2 j (by rw[au0 (auq _)];exact G.mem_iff.2 (z_.2 ⟨j,rfl,o⟩))⟩) (m:=N) (s:=replicate (xb l.length b) 0) bv ⟨d5,λj o=>by simp at o⟩
 have a0:pM p p.length=pM l l.length:=by
  rw[a5,LJ _ W];unfold pM;have a2:l.length<=xb l.length b*b:=by
   rcases awT (xb l.length b*b) l.length with c|c
   ·have:=(Bo w).2 c;omega
   ·exact c
  rw[au0 a2,au0 (auq _)]
 have a7:(gB p).length=p.length:=by simp[gB]
 have fC:∀i:Nat,i<xb l.length b->∀(v:Int) (D:aX),D.length=l.length->∃r,yM N N (l,(b:Int),pM l l.length,(t:Int),(i:Int),((f.length:Nat):Int),v,(((gB (bW l b i)).length:Nat):Int),((0:Nat):Int),D,gB p,f,gB (bW l b i))=some r/\∃B:aX,r=(l,(b:Int),pM l l.length,(t:Int),((f.length:Nat):Int),v,B,gB p,f)/\
  B.length=l.length/\∀j:Nat,(i*b<=j->j<(i+1)*b->j<l.length->B[j]? =some (pM l j))/\(j<i*b\/(i+1)*b<=j->B[j]? =D[j]?):=λi q v D J=>by
  have E:=LI l b i;have a9:=(Bo w).1 q;have h2:(i+1)*b=i*b+b:=axB _ _;have a8:i<=i*b:=azo i bv;have Z:(i:Int)*(b:Int)=((i*b:Nat):Int):=by rw[awh]
  have aa:(gB (bW l b i)).length=(bW l b i).length:=by simp[gB]
  refine Ty (F:=λm k (s:aX)=>yM N m (l,(b:Int),pM l l.length,(t:Int),(i:Int),((f.length:Nat):Int),v,(((gB (bW l b i)).length:Nat):Int),(k:Int),s,gB p,f,gB (bW l b i))) (n:=(bW l b i).length)
   (I:=λk s=>s.length=l.length/\∀j:Nat,(i*b<=j->j<i*b+k->s[j]? =some (pM l j))/\(j<i*b\/i*b+k<=j->s[j]? =D[j]?)) (λm k s C e=>?_) (λm s e=>⟨_,by rw[IT,dT bv],s,rfl,e.1,λj=>⟨λA L h5=>(e.2 j).1 A bv,λA=>(e.2 j).2 bv⟩⟩) bv ⟨J,λj=>⟨λA L=>by omega,λ_=>rfl⟩⟩
  have S:i*b+k<l.length:=bv
  obtain⟨y,K⟩:=get_at (xs:=s) (i:=i*b+k) (by rw[e.1];exact S);have a1:(gB p)[i]? =some (pM l (i*b)):=by rw[xa bv,LJ i λj o=>W j bv]
  refine⟨s.set (i*b+k) (pM l (i*b+k)),⟨by simp[e.1],λj=>⟨λA L=>?_,λA=>?_⟩⟩,?_⟩
  ·rw[avs]
   by_cases c:i*b+k=j
   ·subst c;rw[auo rfl,auo (by rw[e.1];exact S)]
   ·rw[aun c];exact(e.2 j).1 A bv
  ·rw[avs,aun bv]
   exact(e.2 j).2 bv
  ·rw[IT,eC bv,bd (xa C),ob,ob,bd a1,ob,ob,show N=(N - 1)+1 by omega,IP,<-show N=(N - 1)+1 by omega,ob,wU,aqu bv,Z,show wrap .i64 ((i*b:Nat):Int)=((i*b:Nat):Int)from gZ bv bv,show wrap .i64 (((i*b:Nat):Int)+(k:Int))=((i*b+k:Nat):Int) by rw[gZ bv bv];omega,bd K,ob,ob,cG bv,auB]
 obtain⟨b2,R,rfl⟩:=Ty (F:=λm k (s:aX)=>DC N m (l,(b:Int),pM l l.length,(t:Int),((f.length:Nat):Int),(k:Int),s,gB p,f)) (n:=f.length) (Q:=λr=>r=(pM l l.length,(t:Int),gB l))
  (I:=λk s=>s.length=l.length/\∀j:Nat,j<l.length->((j/b:Nat):Int)∈f.take k->s[j]? =some (pM l j)) (λm k s C e=>by
   obtain⟨x,z⟩:=get_at (xs:=f) (i:=k) C;obtain⟨i,rfl,q⟩:=X z;have E:(bW l b i).length<=100000:=by rw[LI];omega
   obtain⟨r,V,B,rfl,a4,U⟩:=fC i q (k:Int) s e.1;refine⟨B,⟨a4,λj o u=>?_⟩,?_⟩
   ·rw[cR z]at u
    by_cases c:j/b=i
    ·subst c
     exact(U j).1 (azp _ _) (by have:=Nat.lt_div_mul_add (a:=j) (b:=b) bv;rw[axB];exact this) o
    ·have a3:((j/b:Nat):Int)∈f.take k:=by
      rcases auC.1 u with u|u
      ·exact u
      ·have:=auN.1 u;omega
     rw[(U j).2 ?_]
     ·exact e.2 j o a3
     ·rcases awT (j/b) i with d|d
      ·exact .inl ((Nat.div_lt_iff_lt_mul bv).1 d)
      ·exact .inr ((ax1 bv).1 bv)
   ·rw[show((0:Nat):Int)=(0:Int)from rfl]at V
    rw[IU,eC bv,bd z,ob,ob,DX bv H w bv q,ob,GP bv _ E,ob];simp only;rw[V,ob,cG bv]) (λm s e=>⟨_,by rw[IU,dT bv],by
    rw[z8 e.1 λj o=>e.2 j o (by rw[au0 (auq _)];exact G.mem_iff.2 (z_.2 ⟨_,rfl,(Bo w).2 (Nat.lt_of_le_of_lt (azp _ _) o)⟩))];rfl⟩) (m:=N) (s:=replicate l.length 0) bv ⟨d5,λj o u=>by simp at u⟩
 have a6:p.length<=100000:=bv
 rw[Z2,ad9,show N=(N - 1)+1 by omega,IJ,<-show N=(N - 1)+1 by omega,eC bv,ob,auU bv];simp only[auH,auv];rw[dT bv,aaX bv bv w H,ob,J N bv,ob,BE rfl,mT bv bv bv,ob,auB];simp only;rw[show((0:Nat):Int)=(0:Int)from rfl]at O R;rw[O,ob];simp only;rw[GP bv p a6,ob,mT bv bv bv,ob,auB,a0,R,ob,ob];simp only;rw[gZ bv bv];have e2:(2:Int)*(t:Int)=((2*t:Nat):Int):=bv
 rw[e2]
def JE{α:Type}(f:α->Nat)(d:Nat)(l:Do α):l.countP (λi=>decide (f i<d+1))=l.countP (λi=>decide (f i<d))+l.countP (λi=>decide (f i=d)):=by
 induction l with
 |nil=>rfl
 |cons x l c=>
  simp only[List.countP_cons,c,avn];by_cases a:f x<d
  ·rw[auo bv,auo a,aun bv];omega
  ·by_cases b:f x=d
   ·rw[auo bv,aun a,auo b];omega
   ·rw[aun bv,aun a,aun b];omega
def tP{α:Type}{f:α->Nat}{l:Do α}{k:Nat}{x:α}(h:l[k]? =some x)(d:Nat):(l.take (k+1)).countP (λi=>decide (f i=d))=(l.take k).countP (λi=>decide (f i=d))+if f x=d then 1 else 0:=by
 rw[cR h,aw2,List.countP_cons];simp
def agw{α:Type}{f:α->Nat}{l:Do α}{k:Nat}{x:α}(h:l[k]? =some x):l.countP (λi=>decide (f i<f x))+(l.take k).countP (λi=>decide (f i=f x))<l.length:=by
 have b:=JE f (f x) l;have c:l.countP (λi=>decide (f i<f x+1))<=l.length:=axA;have a:(l.take (k+1)).countP (λi=>decide (f i=f x))<=l.countP (λi=>decide (f i=f x)):=(List.take_sublist _ _).countP_le;rw[tP h,auo rfl]at a;omega
def ak3{b:Nat}(a:b<=16):2^b<=65536/\1<=2^b:=⟨ayX bv a,Nat.one_le_two_pow⟩
def JF{N:Nat}(c:1<=N){b:Nat}(a:1<=b)(d:b<=16):Oa N (b:Int)=some ((xb 32 b:Nat):Int):=by
 obtain⟨N,rfl⟩:∃M,N=M+1:=⟨N - 1,bv⟩;have:=GQ (n:=32) a;rw[adN,dT bv,dT bv,show wrap .i64 ((32:Int)+(b:Int))=((32+b:Nat):Int) by rw[gZ bv bv];omega,show wrap .i64 (((32+b:Nat):Int) - 1)=((32+b - 1:Nat):Int) by rw[gZ bv bv];omega,S5 bv,ob,zC];rw[show(32+b - 1)/b=xb 32 b from rfl,gZ bv bv]
def QL(b p:Nat)(x:Int):Nat:=(x.fdiv (2^(p*b)) % 2^b).toNat
def GU{x:Int}(e:0<=x)(k:x<4294967296){b p:Nat}(c:1<=b)(f:b<=16)(m:p<xb 32 b):QL b p x<2^b/\∀M,3<=M->OJ M (x,(p:Int),(b:Int))=some (QL b p x:Int):=by
 unfold QL;have r:=ak3 f;have o:p*b<32:=(Bo c).1 m;have j:(p:Int)*(b:Int)=((p*b:Nat):Int):=by rw[awh]
 have d:(2:Int)^b=((2^b:Nat):Int):=d5
 have g:0<=x.fdiv (2^(p*b))/\x.fdiv (2^(p*b))<4294967296:=by
  have:(0:Int)<2^(p*b):=Int.pow_pos d6;rw[ayR _ bv];exact⟨Int.ediv_nonneg e bv,Int.lt_of_le_of_lt (Int.ediv_le_self _ e) k⟩
 have l:(0:Int)<2^b:=Int.pow_pos d6;refine⟨?_,λM s=>?_⟩
 ·have i:=Int.emod_nonneg (x.fdiv (2^(p*b))) (show(2:Int)^b≠0 by omega)
  have q:=Int.emod_lt_of_pos (x.fdiv (2^(p*b))) l;omega
 obtain⟨M,rfl⟩:∃K,M=K+3:=⟨M - 3,bv⟩;have u:=GQ (n:=32) c;rw[aec,aeb,eC bv,JF bv c f,ob,ob,auU bv];simp only[auH,auv];rw[j,show wrap .i64 ((p*b:Nat):Int)=((p*b:Nat):Int)from gZ bv bv];have h:∀n:Nat,n<32->wrap .u64 (n:Int)=(n:Int):=λn t=>by simp[wrap,IntKind.bits,IntKind.signed];omega
 rw[h _ o,h b bv];unfold abC RH;rw[aun bv,aun bv,ob,ob,auB,auB,avJ (show p*b<=IntKind.bits .u32 by show p*b<=32;omega),avJ (show b<=IntKind.bits .u32 by show b<=32;omega),Int.one_mul,wU,wU,d,show((2^b:Nat):Int) % 4294967296=((2^b:Nat):Int) by omega,show(((2^b:Nat):Int) - 1) % 4294967296=((2^b:Nat):Int) - 1 by omega,<-d,J4];rw[bits_mask .u32 32 d6 (λn a b=>by rw[ayW];omega) b bv _ g.1 (by simpa using g.2)];have i:=Int.emod_nonneg (x.fdiv (2^(p*b))) (show(2:Int)^b≠0 by omega);congr 1;omega
def U32(l:aX):Prop:=∀x∈l,0<=x/\x<4294967296
def Ht(n:Nat)(l:aX):Prop:=∀x∈l,∃i:Nat,x=(i:Int)/\i<n
def Ht.get{n:Nat}{l:aX}(h:Ht n l){k:Nat}{x:Int}(a:l[k]? =some x):∃i:Nat,x=(i:Int)/\i<n:=h x (auI a)
def Ht.set{n:Nat}{l:aX}(h:Ht n l){i k:Nat}(b:i<n):Ht n (l.set k (i:Int)):=λx c=>by
 rcases aw4 c with a|a
 ·exact h x a
 ·exact⟨i,a,b⟩
def Ht.zero{n m:Nat}(h:0<m->0<n):Ht n (replicate m 0):=λx a=>by
 have:=List.mem_replicate.1 a;exact⟨0,this.2,h bv⟩
def aqw{N:Nat}(hN:Fu+5<=N){l g:aX}(hk:U32 l)(a4:l.length<=1000)(a6:g.length<=1000)(U:Ht l.length g){b p:Nat}(G:1<=b)(C:b<=16)(J:p<xb 32 b):
 ∃O,K1 N (l,g,(p:Int),(b:Int))=some O/\O.length=g.length/\Ht l.length O:=by
 obtain⟨N,rfl⟩:∃M,N=M+1:=⟨N - 1,bv⟩;have hF:=bR;have h2:=ak3 C;have L:∀{k:Nat} {x:Int},g[k]? =some x->∃(i:Nat) (y:Int),x=(i:Int)/\i<l.length/\l[i]? =some y/\0<=y/\y<4294967296/\l.getD x.toNat 0=y:=λh=>by
  obtain⟨i,rfl,w⟩:=U.get h;obtain⟨y,v⟩:=get_at (xs:=l) (i:=i) w;have:=hk y (auI v);exact⟨i,y,rfl,w,v,this.1,this.2,by rw[auB,avQ,v];rfl⟩
 obtain⟨f,hf⟩:∃f:Int->Nat,f=λx=>QL b p (l.getD x.toNat 0):=⟨_,rfl⟩;have H:∀x,f x=QL b p (l.getD x.toNat 0):=λx=>by rw[hf]
 have a5:∀{k:Nat} {x:Int},g[k]? =some x->f x<2^b:=λh=>by
  obtain⟨i,y,_,_,_,a,c,e⟩:=L h;rw[H,e];exact(GU a c G C J).1
 obtain⟨r1,W,t,rfl,c1,c2,c3⟩:=Ty (F:=λm k (s:aX)=>yP N m (l,g,(p:Int),(b:Int),g,((g.length:Nat):Int),(k:Int),s)) (n:=g.length) (Q:=λr=>∃t:aX,r=(l,g,(p:Int),(b:Int),t)/\t.length=2^b+1/\t[0]? =some 0/\∀d,d<2^b->t[d+1]? =some ((g.countP λi=>decide (f i=d):Nat):Int))
  (I:=λk s=>s.length=2^b+1/\s[0]? =some 0/\∀d,d<2^b->s[d+1]? =some (((g.take k).countP λi=>decide (f i=d):Nat):Int)) (λm k s B j=>by
   obtain⟨x,u⟩:=get_at (xs:=g) (i:=k) B;obtain⟨i,y,rfl,w,v,P,R,S⟩:=L u;have o:=GU P R G C J;have D:f (i:Int)=QL b p y:=by rw[H,S]
   have E:=j.2.2 _ o.1;have a3:((g.take k).countP λi=>decide (f i=QL b p y))<=g.length:=avl axA (by rw[au8];omega);refine⟨s.set (QL b p y+1) (((g.take (k+1)).countP λi=>decide (f i=QL b p y):Nat):Int),⟨by simp[j.1],by rw[avs,aun bv];exact j.2.1,λd A=>?_⟩,?_⟩
   ·rw[avs]
    by_cases c:QL b p y=d
    ·subst c;rw[auo rfl,auo bv]
    ·rw[aun bv,tP u,aun bv];exact j.2.2 d A
   ·rw[FL,eC bv,bd u,ob,bd v,ob,o.2 N bv,ob,show wrap .u32 ((QL b p y:Int)+1)=((QL b p y+1:Nat):Int) by rw[asK bv bv];omega,bd E,ob,ob,ob,ob,cG bv,tP u,auo D,auB,cG bv]) (λm s j=>⟨_,by rw[FL,dT bv],s,rfl,j.1,j.2.1,λd o=>by rw[j.2.2 d o,au0 (auq _)]⟩) (m:=N) (s:=replicate (2^b+1) 0) bv ⟨d5,d5,λd o=>by rw[awS,auo bv];simp⟩
 have c4:∀d,d<=0->t[d]? =some ((g.countP λi=>decide (f i<d):Nat):Int):=λd o=>by
  obtain rfl:d=0:=bv
  rw[c2];simp
 obtain⟨r2,X,a0,rfl,d1,d2⟩:=Ty (F:=λm k (s:aX)=>yO N m (l,g,(p:Int),(b:Int),((2^b:Nat):Int),(k:Int),s)) (n:=2^b) (Q:=λr=>∃t:aX,r=(l,g,(p:Int),(b:Int),t)/\t.length=2^b+1/\∀d,d<=2^b->t[d]? =some ((g.countP λi=>decide (f i<d):Nat):Int))
  (I:=λk s=>s.length=2^b+1/\(∀d,d<=k->s[d]? =some ((g.countP λi=>decide (f i<d):Nat):Int))/\∀d,k<=d->d<2^b->s[d+1]? =some ((g.countP λi=>decide (f i=d):Nat):Int)) (λm k s B j=>by
   have Z:=j.2.1 k (auq _);have a2:=j.2.2 k (auq _) B;have l1:(g.countP λi=>decide (f i<k))<=g.length:=axA;have l2:(g.countP λi=>decide (f i=k))<=g.length:=axA;refine⟨s.set (k+1) ((g.countP λi=>decide (f i<k+1):Nat):Int),⟨by simp[j.1],λd o=>?_,λd o A=>?_⟩,?_⟩
   ·rw[avs]
    by_cases c:k+1=d
    ·subst c;rw[auo rfl,auo bv]
    ·rw[aun c];exact j.2.1 d bv
   ·rw[avs,aun bv];exact j.2.2 d bv A
   ·rw[FJ,eC bv,cG bv,bd a2,ob,ob,bd Z,ob,ob,ob,ob,JE,auB,show wrap .i64 (((g.countP λi=>decide (f i=k):Nat):Int)+((g.countP λi=>decide (f i<k):Nat):Int))=(((g.countP λi=>decide (f i<k))+(g.countP λi=>decide (f i=k)):Nat):Int) by rw[gZ bv bv];omega]) (λm s j=>⟨_,by rw[FJ,dT bv],s,rfl,j.1,j.2.1⟩) (m:=N) (s:=t) bv ⟨c1,c4,λd _ o=>c3 d o⟩
 obtain⟨r3,Y,e1,e2⟩:=Ty (F:=λm k (s:aX×aX)=>yN N m (l,(p:Int),(b:Int),g,((g.length:Nat):Int),(k:Int),s.1,s.2)) (n:=g.length) (Q:=λr=>r.length=g.length/\Ht l.length r)
  (I:=λk s=>s.1.length=2^b+1/\(∀d,d<2^b->s.1[d]? =some ((g.countP (λi=>decide (f i<d))+(g.take k).countP (λi=>decide (f i=d)):Nat):Int))/\s.2.length=g.length/\Ht l.length s.2) (λm k s B j=>by
   obtain⟨x,u⟩:=get_at (xs:=g) (i:=k) B;have K:=agw (f:=f) u;obtain⟨i,y,rfl,w,v,P,R,S⟩:=L u;have o:=GU P R G C J;have D:f (i:Int)=QL b p y:=by rw[H,S]
   have E:=j.2.1 _ o.1;rw[D]at K;obtain⟨q,V⟩:∃q,q=g.countP (λi=>decide (f i<QL b p y))+(g.take k).countP (λi=>decide (f i=QL b p y)):=⟨_,rfl⟩;rw[<-V]at E K;obtain⟨z,hz⟩:=get_at (xs:=s.2) (i:=q) (by rw[j.2.2.1];exact K);refine⟨(s.1.set (QL b p y) ((q+1:Nat):Int),s.2.set q (i:Int)),⟨by simp[j.1],λd A=>?_,by simp[j.2.2.1],j.2.2.2.set w⟩,?_⟩
   ·rw[avs]
    by_cases c:QL b p y=d
    ·subst c;rw[auo rfl,auo bv,tP u,auo D,V];rfl
    ·rw[aun c,tP u,aun bv];exact j.2.1 d A
   ·rw[FI,eC bv,bd u,ob,bd v,ob,o.2 N bv,ob,bd E,ob,ob,bd hz,ob,ob,ob,ob,ob,ob,cG bv,cG bv,auB,auB]) (λm s j=>⟨_,by rw[FI,dT bv],j.2.2.1,j.2.2.2⟩) (m:=N) (s:=(a0,replicate g.length 0)) bv ⟨d1,λd o=>by rw[d2 d bv];simp,d5,Ht.zero λh=>by
    obtain⟨x,u⟩:=get_at (xs:=g) (i:=0) h;obtain⟨i,_,w⟩:=U.get u;omega⟩
 refine⟨r3,?_,e1,e2⟩;have u1:wrap .u64 (b:Int)=(b:Int):=by simp[wrap,IntKind.bits,IntKind.signed];omega
 have e3:(2:Int)^b=((2^b:Nat):Int):=d5
 rw[Z3,u1];unfold RH;rw[aun bv,ob,auB,avJ (show b<=IntKind.bits .i64 by show b<=64;omega),Int.one_mul,e3,show wrap .i64 ((2^b:Nat):Int)=((2^b:Nat):Int)from gZ bv bv,cG bv,mT bv bv bv,ob,auB];rw[show((0:Nat):Int)=(0:Int)from rfl]at W X Y;rw[W,ob];simp only;rw[show wrap .i64 (((t.length:Nat):Int) - 1)=((2^b:Nat):Int) by rw[gZ bv bv];omega,X,ob];simp only;rw[mT bv bv bv,ob,auB,Y,ob]
end Go.Proofs.YtglncfdpdaageaaGreatDoor.Dd
namespace Go.Proofs.YtglncfdpdaageaaGreatDoor.Dd
structure Aa(bits block g P:Int)(aqx:bh):Prop where
 bi:1<=bits/\bits<=16
 bl:1<=block/\block<=100
 o:agv g P aqx
def agx{N:Nat}(Z:Fu+25<=N){e f g P:Int}{v:bh}(O:Aa e f g P v){a:aX}(G:U32 a)(H:a.length<=60):
 ∃(t:Nat) (l:aX),t<=6400000/\K2 N (a,e,f,g,P,v)=some ((t:Int),0,l)/\l.length=a.length/\Ht a.length l:=by
 obtain⟨N,rfl⟩:∃M,N=M+1:=⟨N - 1,bv⟩;have Y:=bR;obtain⟨⟨U,V⟩,⟨W,X⟩,E⟩:=O;obtain⟨b,rfl⟩:∃b:Nat,e=(b:Int):=⟨e.toNat,bv⟩;obtain⟨c,rfl⟩:∃c:Nat,f=(c:Int):=⟨f.toNat,bv⟩;obtain⟨t,L,K⟩:=Yj (N:=N) bv E H (b:=c) bv bv;have J:=GQ (n:=32) (b:=b) bv;have a0:0<xb 32 b:=(Bo bv).2 bv;have a3:t*xb 32 b<=200000*32:=avZ L J;obtain⟨r1,q,R,rfl,w,y⟩:=Ty (F:=λm k (s:aX)=>yR N m (a,(b:Int),((xb 32 b:Nat):Int),(t:Int),((a.length:Nat):Int),(k:Int),s)) (n:=a.length) (Q:=λr=>∃o:aX,r=(a,(b:Int),((xb 32 b:Nat):Int),(t:Int),o)/\o.length=a.length/\Ht a.length o)
  (I:=λk s=>s.length=k/\Ht a.length s) (λm k s i d=>by
   refine⟨s++[(k:Int)],⟨by simp[d.1],λx j=>?_⟩,?_⟩
   ·rcases auC.1 j with h|h
    ·exact d.2 x h
    ·exact⟨k,auN.1 h,i⟩
   ·rw[FN,eC bv,cw bv d7,ob,cG bv]) (λm s d=>⟨_,by rw[FN,dT bv],s,rfl,d.1,d.2⟩) (m:=N) (s:=[]) bv ⟨rfl,λx j=>by cases j⟩
 obtain⟨r2,u,S,rfl,z,A⟩:=Ty (F:=λm k (s:aX)=>yQ N m (a,(b:Int),((xb 32 b:Nat):Int),(t:Int),((xb 32 b:Nat):Int),(k:Int),s)) (n:=xb 32 b) (Q:=λr=>∃o:aX,r=(((xb 32 b:Nat):Int),(t:Int),o)/\o.length=a.length/\Ht a.length o)
  (I:=λk s=>s.length=a.length/\Ht a.length s) (λm k s i d=>by
   obtain⟨o,B,C,D⟩:=aqw (N:=N) bv G bv bv d.2 (b:=b) (p:=k) bv bv i;exact⟨o,⟨by rw[C,d.1],D⟩,by rw[FM,eC bv,B,ob,cG bv]⟩) (λm s d=>⟨_,by rw[FM,dT bv],s,rfl,d.1,d.2⟩) (m:=N) (s:=R) bv ⟨w,y⟩
 refine⟨t*xb 32 b,S,bv,?_,z,A⟩;rw[Z4,JF bv bv bv,ob,dT bv,K,ob,BE rfl];rw[show((0:Nat):Int)=(0:Int)from rfl]at q u;simp only;rw[q,ob];simp only;rw[u,ob];simp only;rw[show(t:Int)*((xb 32 b:Nat):Int)=((t*xb 32 b:Nat):Int) by rw[awh],gZ bv bv]
def agy{N:Nat}(h:Fu+2<=N)(o:aX)(j:o.length<=1000)(n:Int):∃b,K3 N (o,n)=some b:=by
 obtain⟨N,rfl⟩:∃M,N=M+1:=⟨N - 1,bv⟩;have g:=bR;obtain⟨r,c,_⟩:=lp (F:=λm k (s:bh)=>yT N m (o,n,o,((o.length:Nat):Int),(k:Int),s)) (n:=o.length) (Q:=λr=>True) (I:=λk s=>True) (λm k s e d=>by
  obtain⟨x,f⟩:=get_at (xs:=o) (i:=k) e;rw[FO,eC bv,bd f,ob,cd,cd,cd,cG bv];split
  ·exact .inr ⟨_,rfl,trivial⟩
  ·split
   ·exact .inr ⟨_,rfl,trivial⟩
   ·split
    ·exact .inr ⟨_,rfl,trivial⟩
    ·exact .inl ⟨_,trivial,rfl⟩) (λm s d=>⟨_,by rw[FO,dT bv],trivial⟩) (m:=N) (i:=0) (s:=[]) bv bv trivial
 rw[Z5];rw[show((0:Nat):Int)=(0:Int)from rfl]at c;rw[c,ob];cases r with
 |_=>exact⟨_,rfl⟩
def aaY{N:Nat}(B:Fu+4<=N){c o:aX}(q:U32 c)(u:o.length<=1000)(v:Ht c.length o):∃b s,Wx N (c,o)=some (b,s)/\U32 s/\s.length<=o.length:=by
 obtain⟨N,rfl⟩:∃M,N=M+1:=⟨N - 1,bv⟩;have A:=bR;obtain⟨b,l⟩:=agy (N:=N) bv o u ((c.length:Nat):Int);rw[aed,l,ob];cases b with
 |false=>exact⟨_,_,rfl,(λx a=>by cases a),d5⟩
 |true=>
  obtain⟨r,e,g,j⟩:=Ty (F:=λm k (s:aX)=>DE N m (c,o,((o.length:Nat):Int),(k:Int),s)) (n:=o.length) (Q:=λr=>U32 r/\r.length<=o.length) (I:=λk s=>U32 s/\s.length<=k) (λm k s t d=>by
   obtain⟨x,a⟩:=get_at (xs:=o) (i:=k) t;obtain⟨i,rfl,p⟩:=v.get a;obtain⟨y,f⟩:=get_at (xs:=c) (i:=i) p;have C:=d.2;refine⟨s++[y],⟨λz w=>?_,by simp;omega⟩,?_⟩
   ·rcases auC.1 w with h|h
    ·exact d.1 z h
    ·rw[auN.1 h];exact q y (auI f)
   ·rw[IW,eC bv,bd a,ob,bd f,ob,cw bv d7,ob,cG bv]) (λm s d=>⟨_,by rw[IW,dT bv],d⟩) (m:=N) (s:=[]) bv ⟨(λx a=>by cases a),d5⟩
  rw[show((0:Nat):Int)=(0:Int)from rfl]at e;simp only[auH,auv];rw[e,ob];exact⟨_,_,rfl,g,j⟩
def aaZ{N:Nat}(j:Fu+3<=N)(s:aX)(o:s.length<=1000):∃l,WC N s=some l/\l.length=s.length:=by
 obtain⟨N,rfl⟩:∃M,N=M+1:=⟨N - 1,bv⟩;have h:=bR;obtain⟨r,b,d⟩:=Ty (F:=λm k (l:br)=>yV N m (s,s,((s.length:Nat):Int),(k:Int),l)) (n:=s.length) (Q:=λr=>r.length=s.length) (I:=λk l=>l.length=s.length) (λm k l e a=>by
  obtain⟨x,f⟩:=get_at (xs:=s) (i:=k) e;obtain⟨y,c⟩:=get_at (xs:=l) (i:=k) bv;rw[IX,eC bv,bd f,ob,cd];split
  ·exact⟨l.set k true,by rw[avM];exact a,by rw[bd c,ob,ob,cG bv,auB]⟩
  ·obtain⟨z,g⟩:=get_at (xs:=s) (i:=k - 1) bv
   exact⟨l.set k (!(decide (z=x))),by rw[avM];exact a,by rw[show wrap .i64 ((k:Int) - 1)=((k - 1:Nat):Int) by rw[gZ bv bv];omega,bd g,ob,bd c,ob,ob,cG bv,auB]⟩) (λm l a=>⟨_,by rw[IX,dT bv],a⟩) (m:=N) (s:=replicate s.length false) bv d5
 rw[show((0:Nat):Int)=(0:Int)from rfl]at b;rw[aee,mT bv bv bv,ob,auB,b,ob];exact⟨_,rfl,d⟩
def rD(a:br):aX:=a.map λb=>if b then 1 else 0
def agz{N:Nat}(u:Fu+3<=N)(a:br)(w:a.length<=1000):K4 N (a,false)=some (rD a):=by
 obtain⟨N,rfl⟩:∃M,N=M+1:=⟨N - 1,bv⟩;have t:=bR;obtain⟨r,f,rfl⟩:=Ty (F:=λm k (l:aX)=>ta N m (false,a,((a.length:Nat):Int),(k:Int),l)) (n:=a.length) (Q:=λr=>r=rD a) (I:=λk l=>l=rD (a.take k)++replicate (a.length - k) 0) (λm k l p b=>by
  obtain⟨x,o⟩:=get_at (xs:=a) (i:=k) p;have d:(rD (a.take k)).length=k:=by simp[rD];omega
  have c:l[k]? =some 0:=by rw[b,avG bv,d,awS,auo bv]
  have g:∀v:Int,v=(if x then 1 else 0)->l.set k v=rD (a.take (k+1))++replicate (a.length - (k+1)) 0:=λv q=>by
   rw[b,axO _ _ bv,d,axm,show a.length - k=(a.length - (k+1))+1 by omega,avT,axl,cR o,q];simp[rD]
  rw[FP,eC bv,bd o,ob];cases x with
  |true=>
   refine⟨_,g 1 rfl,?_⟩;rw[show(!(true==false))=true from rfl,auQ,bd c,ob,ob,cG bv,auB]
  |false=>
   refine⟨_,g 0 rfl,?_⟩;have:l.set k 0=l:=by
    refine avX λj=>?_;rw[avs];split
    ·rename_i e;subst e;rw[c];split
     ·rfl
     ·rename_i h;have:=Sp.cS c;omega
    ·rfl
   rw[show(!(false==false))=false from rfl,auv,this,cG bv]) (λm l b=>⟨_,by rw[FP,dT bv],by rw[b,au0 (auq _)];simp⟩) (m:=N) (s:=replicate a.length 0) bv (by simp[rD])
 rw[show((0:Nat):Int)=(0:Int)from rfl]at f;rw[Z6,mT bv bv bv,ob,auB,f,ob]
def DY(a:br):0<=(rD a).sum/\(rD a).sum<=a.length:=by
 induction a with
 |nil=>simp[rD]
 |cons x l b=>cases x<;>simp[rD]at b⊢<;>omega
def QM(a:br)(i:Nat):(rD a).take i=rD (a.take i):=by simp[rD,awJ]
def ant(a:br)(b:a.length<=60)(i:Nat):pM (rD a) i=(rD (a.take i)).sum:=by
 have h:=DY (a.take i);have:(a.take i).length<=a.length:=by rw[au8];omega
 unfold pM;rw[QM];omega
def agA{a:br}{i:Nat}(h:(rD a)[i]? =some 1):(rD (a.take i)).sum<(rD a).sum:=by
 have b:(rD a).sum=((rD a).take (i+1)).sum+((rD a).drop (i+1)).sum:=by rw[<-ax7,awf]
 rw[cR h,ax7,QM]at b;have c:(rD a).drop (i+1)=rD (a.drop (i+1)):=by simp[rD,awZ]
 have d:=DY (a.drop (i+1));rw[c]at b;simp at b;omega
def agB{N:Nat}(hN:Fu+25<=N){K j g P:Int}{J:bh}(X:Aa K j g P J)(a:br)(w:a.length<=60):∃(t:Nat) (o:aX),t<=300000/\K5 N (a,j,g,P,J)=some ((t:Int),0,o)/\Ht a.length o/\o.length<=a.length:=by
 obtain⟨N,rfl⟩:∃M,N=M+2:=⟨N - 2,bv⟩;have hF:=bR;obtain⟨_,⟨Z,c2⟩,u⟩:=X;obtain⟨c,rfl⟩:∃c:Nat,j=(c:Int):=⟨j.toNat,bv⟩;have A:(rD a).length=a.length:=by simp[rD]
 obtain⟨t,ht,E⟩:=Yj (N:=N) bv u (l:=rD a) bv (b:=c) bv bv;obtain⟨t2,f,B,a4,S⟩:=u a.length w;have a3:=DY a;have C:=ant a w;have a5:f.length<=60:=by rw[B.length_eq];simp[Sp.tM];omega
 obtain⟨q,V⟩:∃q:Nat,(rD a).sum=(q:Int):=⟨(rD a).sum.toNat,bv⟩;have W:pM (rD a) a.length=(q:Int):=by rw[C,au0 (auq _),V]
 rw[A]at E;obtain⟨r,D,o,rfl,h1,L⟩:=Ty (F:=λm k (l:aX)=>yX N m (rD a,(t:Int),(t2:Int),((f.length:Nat):Int),(k:Int),gB (rD a),l,f)) (n:=f.length) (Q:=λr=>∃o:aX,r=((t:Int),(t2:Int),o)/\o.length=q/\Ht a.length o) (I:=λk l=>l.length=q/\Ht a.length l) (λm k l R d=>by
  obtain⟨x,G⟩:=get_at (xs:=f) (i:=k) R;obtain⟨i,rfl,O⟩:=z_.1 (B.mem_iff.1 (auI G));obtain⟨y,H⟩:=get_at (xs:=rD a) (i:=i) bv;rw[IY,eC bv,bd G,ob,ob,bd H,ob,cd,cG bv];split
  ·rename_i e
   subst e;have a2:=agA H;have a0:=DY (a.take i);have a1:=C i;obtain⟨p,U⟩:∃p:Nat,pM (rD a) i=(p:Int):=⟨(pM (rD a) i).toNat,bv⟩;obtain⟨z,Y⟩:=get_at (xs:=l) (i:=p) (by rw[d.1];omega);have v:=xa (l:=rD a) (i:=i) bv;rw[U]at v;exact⟨l.set p (i:Int),⟨by simp[d.1],d.2.set O⟩,by rw[bd v,ob,ob,bd Y,ob,ob,auB]⟩
  ·exact⟨l,d,rfl⟩) (λm l d=>⟨_,by rw[IY,dT bv],l,rfl,d.1,d.2⟩) (m:=N) (s:=replicate q 0) bv ⟨d5,Ht.zero λh=>by omega⟩
 rw[show((0:Nat):Int)=(0:Int)from rfl]at D;refine⟨t+t2,o,bv,?_,L,bv⟩;rw[Z7,agz bv a bv,ob,aeg,E,ob,BE rfl,A,S N bv,ob,BE rfl];simp only;rw[W,mT bv bv bv,ob,auB,D,ob,ob];simp only;rw[show wrap .i64 ((t:Int)+(t2:Int))=((t+t2:Nat):Int) by rw[gZ bv bv];omega]
def Lm{N:Nat}(hN:Fu+30<=N){p q g P:Int}{D:bh}(B:Aa p q g P D){f:aX}(w:U32 f)(Y:f.length<=60):∃(t:Nat) (o:aX),t<=7000000/\K7 N (f,p,q,g,P,D)=some ((t:Int),0,o)/\U32 o/\o.length<=f.length:=by
 obtain⟨N,rfl⟩:∃M,N=M+2:=⟨N - 2,bv⟩;have hF:=bR;obtain⟨c,a4,a0,K,ol,op⟩:=agx (N:=N) bv B w Y;obtain⟨b,s,L,su,sl⟩:=aaY (N:=N) bv w bv op;obtain⟨U,O,S⟩:=aaZ (N:=N) bv s bv;obtain⟨t2,a,a3,R,u,J⟩:=agB (N:=N) bv B U bv;rw[S]at u J;obtain⟨r,A,o,E,rfl,h1,V⟩:=Ty (F:=λm k (l:aX×aX)=>DF N m ((c:Int),(t2:Int),((a.length:Nat):Int),(k:Int),s,a,l.1,l.2)) (n:=a.length) (Q:=λr=>∃o E:aX,r=((c:Int),(t2:Int),o,E)/\o.length=a.length/\U32 o) (I:=λk l=>l.1.length=k/\l.2.length=k/\U32 l.1) (λm k l X d=>by
  obtain⟨x,e⟩:=get_at (xs:=a) (i:=k) X;obtain⟨i,rfl,W⟩:=u.get e;obtain⟨y,C⟩:=get_at (xs:=s) (i:=i) W;have G:=d.1;have H:=d.2.1;obtain⟨v,Z⟩:∃v,K6 N N ((c:Int),(t2:Int),(k:Int),(i:Int),((s.length:Nat):Int),((a.length:Nat):Int),(k:Int),s,a,l.1,l.2)=some ((c:Int),(t2:Int),(i:Int),v,((a.length:Nat):Int),(k:Int),s,a,l.1,l.2):=by
   obtain⟨M,rfl⟩:∃M,N=M+1:=⟨N - 1,bv⟩;rw[Z8,cd,cG bv];split
   ·obtain⟨z,j⟩:=get_at (xs:=a) (i:=k+1) bv
    exact⟨z,by rw[bd j,ob,ob]⟩
   ·exact⟨_,rfl⟩
  refine⟨(l.1++[y],l.2++[wrap .i64 (v - (i:Int))]),⟨by simp[G],by simp[H],λz j=>?_⟩,?_⟩
  ·rcases auC.1 j with h|h
   ·exact d.2.2 z h
   ·rw[auN.1 h];exact su y (auI C)
  ·rw[IZ,eC bv,bd e,ob,ob,Z,ob]
   simp only;rw[bd C,ob,ob,cw bv d7,ob,cw bv d7,ob,cG bv]) (λm l d=>⟨_,by rw[IZ,dT bv],l.1,l.2,rfl,d.1,d.2.2⟩) (m:=N) (s:=([],[])) bv ⟨rfl,rfl,λx e=>by cases e⟩
 rw[show((0:Nat):Int)=(0:Int)from rfl]at A;refine⟨c+t2,o,bv,?_,V,bv⟩;rw[Z9,aei,K,ob,BE rfl];simp only;rw[L,ob];simp only;rw[O,ob,R,ob,BE rfl];simp only;rw[A,ob,ob];simp only;rw[show wrap .i64 ((c:Int)+(t2:Int))=((c+t2:Nat):Int) by rw[gZ bv bv];omega]
def anu{N:Nat}(o:2<=N)(u v:Int):∃k b,KM N (u,v)=some (k,b)/\(b=true->0<=k/\k<4294967296)/\(0<=u->u<65536->0<=v->v<65536->b=true):=by
 obtain⟨N,rfl⟩:∃M,N=M+2:=⟨N - 2,bv⟩;have j:∀n:Int,Fp (N+1) n=some (decide (0<=n/\n<65536)):=λn=>by
  rw[ZM,cd];split
  ·rename_i h;congr 1;exact av1.2 ⟨λd=>⟨h,d⟩,λd=>d.2⟩
  ·rename_i h;rw[auW λd=>h d.1]
 rw[ZN,j,ob,Hq,j];by_cases g:0<=u/\u<65536
 ·rw[auo g,ob,Hq]
  by_cases i:0<=v/\v<65536
  ·rw[auo i]
   refine⟨_,_,rfl,λ_=>?_,λ_ _ _ _=>rfl⟩;have l:(2:Int)^(min (Int.toNat (16:Int)) (32:Nat))=65536:=d6
   rw[l,J4,wU (if v<u then v else u),wU (if v>u then v else u),wU];have m:0<=(if v<u then v else u)/\(if v<u then v else u)<65536:=by split<;>omega
   have d:0<=(if v>u then v else u)/\(if v>u then v else u)<65536:=by split<;>omega
   generalize(if v<u then v else u)=a at*;generalize(if v>u then v else u)=c at*;rw[bits_join .u32 32 d6 (λn a b=>by rw[ayW];omega) 16 _ _ bv bv bv bv bv bv];omega
  ·rw[aun i]
   exact⟨_,_,rfl,λh=>(by cases h),λ_ _ e f=>absurd ⟨e,f⟩ i⟩
 ·rw[aun g]
  exact⟨_,_,rfl,λh=>(by cases h),λe f _ _=>absurd ⟨e,f⟩ g⟩
def ajE{N:Nat}(e:1<=N){k:Int}(c:0<=k)(d:k<4294967296):K8 N k=some (k/65536,k % 65536):=by
 obtain⟨N,rfl⟩:∃M,N=M+1:=⟨N - 1,bv⟩;have a:(2:Int)^(min (Int.toNat (16:Int)) (32:Nat))=65536:=d6
 have b:wrap .u16 k=k % 65536:=by simp[wrap,IntKind.bits,IntKind.signed]
 rw[Z_,a,b,ayR _ bv,gZ bv bv,gZ bv bv]
def agC{N:Nat}(hN:Fu+35<=N){j p g P:Int}{q:bh}(X:Aa j p g P q)(l:bh)(L:l.length<=60):
 ∃(t:Nat) (e:Int) (o:bh),t<=7000000/\I0 N (l,j,p,g,P,q)=some ((t:Int),e,o)/\(∀x∈o,0<=x.1/\0<=x.2)/\o.length<=(l.filter λx=>decide (x.1≠x.2)).length/\((∀x∈l,0<=x.1/\x.1<65536/\0<=x.2/\x.2<65536)->e=0):=by
 obtain⟨N,rfl⟩:∃M,N=M+1:=⟨N - 1,bv⟩;have hF:=bR;have D:∀m:bh,(m.filter λx=>decide (x.1≠x.2)).length<=m.length:=λm=>axz _ _;obtain⟨r,E,R⟩:=lp (F:=λm k (s:aX)=>y8 N m (l,((l.length:Nat):Int),(k:Int),j,p,g,P,q,s)) (n:=l.length) (Q:=λr=>(∃s:aX,r=.inl (j,p,g,P,q,s)/\s.length=(l.filter λx=>decide (x.1≠x.2)).length/\U32 s)\/r=.inr (0,10)/\¬∀x∈l,0<=x.1/\x.1<65536/\0<=x.2/\x.2<65536)
  (I:=λk s=>s.length=((l.take k).filter λx=>decide (x.1≠x.2)).length/\U32 s) (λm k s A a=>by
   obtain⟨⟨u,v⟩,d⟩:=get_at (xs:=l) (i:=k) A;obtain⟨Y,b,w,y,C⟩:=anu (N:=N) bv u v;have a0:s.length<=60:=by have:=D (l.take k);rw[a.1];rw[au8]at this;omega
   rw[I2,eC bv,bd d,ob];simp only;rw[w,ob];simp only;cases b with
   |false=>exact .inr ⟨_,rfl,.inr ⟨rfl,λh=>by
    have:=h _ (auI d);have:=C this.1 this.2.1 this.2.2.1 this.2.2.2;cases this⟩⟩
   |true=>
    simp only[auH,auv];rw[Hq];by_cases c:u=v
    ·rw[auo c]
     exact .inl ⟨s,⟨by rw[cR d,awL,auE,a.1];simp[c],a.2⟩,by rw[cG bv]⟩
    ·rw[aun c,cw bv d7,ob,cG bv]
     refine .inl ⟨s++[Y],⟨by rw[cR d,awL,auE,auE,a.1];simp[c],λz B=>?_⟩,rfl⟩;rcases auC.1 B with h|h
     ·exact a.2 z h
     ·rw[auN.1 h];exact y rfl) (λm s a=>⟨_,by rw[I2,dT bv],.inl ⟨s,rfl,by rw[a.1,au0 (auq _)],a.2⟩⟩) (m:=N) (i:=0) (s:=[]) bv bv ⟨d5,λx d=>by cases d⟩
 rw[show((0:Nat):Int)=(0:Int)from rfl]at E;rw[aej,E,ob];rcases R with⟨s,rfl,S,U⟩|⟨rfl,O⟩
 ·have V:s.length<=60:=by rw[S];exact avl (D l) L
  obtain⟨t,o,W,w,y,C⟩:=Lm (N:=N) bv X U V;simp only;rw[w,ob];simp only;obtain⟨r2,G,f,rfl,Z,J⟩:=Ty (F:=λm k (s:bh)=>DG N m ((t:Int),0,((o.length:Nat):Int),(k:Int),s,o)) (n:=o.length) (Q:=λr=>∃f:bh,r=((t:Int),0,f)/\f.length=o.length/\∀x∈f,0<=x.1/\0<=x.2) (I:=λk s=>s.length=k/\∀x∈s,0<=x.1/\0<=x.2) (λm k s A a=>by
   obtain⟨x,d⟩:=get_at (xs:=o) (i:=k) A;have H:=y x (auI d);have K:=a.1;refine⟨s++[(x/65536,x % 65536)],⟨by simp[K],λz B=>?_⟩,by rw[I1,eC bv,bd d,ob,ob,ajE bv H.1 H.2,ob,cw bv d7,ob,cG bv]⟩;rcases auC.1 B with h|h
   ·exact a.2 z h
   ·rw[auN.1 h];simp only;omega) (λm s a=>⟨_,by rw[I1,dT bv],s,rfl,a.1,a.2⟩) (m:=N) (s:=[]) bv ⟨rfl,λx d=>by cases d⟩
  rw[show((0:Nat):Int)=(0:Int)from rfl]at G;rw[G,ob];exact⟨t,0,f,W,rfl,J,bv,λ_=>rfl⟩
 ·exact⟨0,10,[],bv,rfl,(λx d=>by cases d),d5,λh=>absurd h O⟩
end Go.Proofs.YtglncfdpdaageaaGreatDoor.Dd
namespace Go.Proofs.YtglncfdpdaageaaGreatDoor
variable{B:Int}{d:Do cA}{a h:Nat}{j:bh}
section
open Go Go.RowKit Go.Sort
def aqy(N:Nat)(n:Nat)(b:Do cA)(w:Int×Int×Int×Int×bh)(k:Int)(c:bh)(d:fU)(t:Nat)(es':bh)(f:fU):Prop:=
 (k=3/\t=0/\es'=[]/\f=d/\d.length<=60)\/∃a,I0 N (c,w)=some ((t:Int),0,a)/\f=[]/\es'.length<=60/\a.length<=60/\
  a.length<=(c.filter λx=>decide (x.1≠x.2)).length/\((k=2/\(∀x∈a,mU (n:Int) x)/\es'.Sublist (cU b)/\∀e,e∈es'↔e∈cU b/\e∈a.map dC)\/k=1/\af_ n b a es'/\b.length+es'.length<=400)
def agD(hN:Fu+45<=a){p q g P:Int}(W:Dd.Aa p q g P j)(b:GR h d){k:Int}{c:bh}{f:fU}(n:WR k c f):
 ∃(t:Nat) (e L:Int) (F:bh) (N:fU),t<=7000000/\ru (a+1) ((h:Int),d,k,c,f,p,q,g,P,j)=some ((t:Int),e,L,F,N)/\((e≠0)\/e=0/\L=k/\(∀v∈GN c f,v<(h:Int))/\aqy a h d (p,q,g,P,j) k c f t F N):=by
 have hF:=bR;have a2:=b.len;have I:c.length<=60:=by
  rcases n with⟨_,_,b,_⟩|⟨_,rfl,_⟩
  ·exact b
  ·simp
 have V:f.length<=60:=by
  rcases n with⟨_,rfl,_⟩|⟨_,_,b,_⟩
  ·simp
  ·exact b
 obtain⟨b1,R,Y⟩:=JD (N:=a) bv k c f bv bv;obtain rfl:=Y.2 n;have a3:=aaW c f bv bv;obtain⟨O,S,Z⟩:=ags (N:=a) bv (h:Int) d (GN c f) bv;rw[Pg,b.right bv,ob];simp only[auH,auv];rw[R,ob];simp only[auH,auv];rw[ajD bv _ _ _ bv bv,ob,S,ob];simp only;cases O with
 |true=>exact⟨0,10,0,[],[],bv,rfl,.inl d6⟩
 |false=>
  have C:=Z.1 rfl;rw[auv,cd];by_cases s:k=3
  ·rw[auo s]
   exact⟨0,0,k,[],f,bv,rfl,.inr ⟨rfl,rfl,C,.inl ⟨s,rfl,rfl,rfl,V⟩⟩⟩
  ·rw[aun s]
   obtain⟨t,e,l,o,y,ho,z,a1⟩:=Dd.agC (N:=a) bv W c I;have J:l.length<=60:=avl z (avl (axz _ _) I);rw[y,ob,Hq];by_cases u:e=0
   ·subst u
    rw[auo rfl,cd];by_cases r:k=2
    ·rw[auo r]
     simp only;rcases Yg (N:=a) bv b l bv with⟨i,_⟩|⟨w,i,m,G,H⟩
     ·rw[i,ob];exact⟨t,10,k,[],[],o,rfl,.inl d6⟩
     ·rw[i,ob]
      have U:w.length<=60:=by
       have:=DW (A:=w) (B:=l.map dC) ((uO (GA b.srt)).sublist G) λx X=>((H x).1 X).2;rw[auz]at this;omega
      exact⟨t,0,k,w,[],o,rfl,.inr ⟨rfl,rfl,C,.inr ⟨l,y,rfl,U,J,z,.inl ⟨r,m,G,H⟩⟩⟩⟩
    ·rw[aun r]
     simp only;have Q:k=1:=by rcases n with⟨b,_⟩|⟨b,_⟩<;>omega
     have K:K_ a ((h:Int),d)=some (400 - ((d.length:Nat):Int)):=by
      obtain⟨M,rfl⟩:∃M,a=M+1:=⟨a - 1,bv⟩;rw[aac,b.right bv,ob];simp only[auH,auv];rw[gZ bv bv]
     rcases aga (N:=a) bv b l bv with⟨i,_⟩|⟨E,i,m⟩
     ·rw[i,ob,K,ob,cd]
      simp only[avg];rw[aun bv];exact⟨t,10,k,[],[],o,rfl,.inl d6⟩
     ·rw[i,ob,K,ob,cd]
      simp only;have a0:=m.len;by_cases D:400 - ((d.length:Nat):Int)<((E.length:Nat):Int)
      ·rw[auo D];exact⟨0,2,0,[],[],bv,rfl,.inl d6⟩
      ·rw[aun D]
       exact⟨t,0,k,E,[],o,rfl,.inr ⟨rfl,rfl,C,.inr ⟨l,y,rfl,bv,J,z,.inr ⟨Q,m,bv⟩⟩⟩⟩
   ·rw[aun u];exact⟨0,e,0,[],[],bv,rfl,.inl u⟩
def aa0(m:Fu+45<=a)(b:GR h d){c:fU}(i:j.length<=100000)(k:c.length<=100000)(g:¬WR B j c)(w:Int×Int×Int×Int×bh):ru (a+1) ((h:Int),d,B,j,c,w)=some (0,1,0,[],[]):=by
 obtain⟨e,f,l⟩:=JD (N:=a) bv B j c i k;obtain⟨n,o,p,q,r⟩:=w;rw[Pg,b.right bv,ob];simp only[auH,auv];rw[f,ob];cases e with
 |true=>exact absurd (l.1 rfl) g
 |false=>rfl
end
section
open Go Go.RowKit Go.Sort
def JG(u:Fu+4<=a)(c d:aX)(e:d.length<=1000):Jc a (c,d)=some (decide (∀v∈d,0<=v/\v<(c.length:Int))):=by
 obtain⟨a,rfl⟩:∃M,a=M+3:=⟨a - 3,bv⟩;have t:=bR;obtain⟨b,o,r⟩:=lp (F:=λm k (_:Unit)=>Ld a m (d,((d.length:Nat):Int),(k:Int),c)) (n:=d.length) (Q:=λb=>(b=.inl c/\∀v∈d,0<=v/\v<(c.length:Int))\/∃k:Nat,b=.inr ((k:Int),c)/\¬∀v∈d,0<=v/\v<(c.length:Int)) (I:=λk _=>∀v∈d.take k,0<=v/\v<(c.length:Int)) (λm k s q f=>by
  obtain⟨x,g⟩:=get_at (xs:=d) (i:=k) q;have p:=auI g;obtain⟨M,rfl⟩:∃M,a=M+1:=⟨a - 1,bv⟩;rw[PL,eC bv,bd g,ob,ae1,cd];by_cases j:x<0
  ·rw[auo j,ob];exact .inr ⟨_,rfl,.inr ⟨k,rfl,λh=>by have:=h x p;omega⟩⟩
  ·rw[aun j,ob]
   simp only;rw[cd];by_cases l:((c.length:Nat):Int)<=x
   ·rw[auo l];exact .inr ⟨_,rfl,.inr ⟨k,rfl,λh=>by have:=h x p;omega⟩⟩
   ·rw[aun l,cG bv]
    refine .inl ⟨(),λv e=>?_,rfl⟩;rw[cR g]at e;rcases auC.1 e with e|e
    ·exact f v e
    ·rw[auN.1 e];omega) (λm s f=>⟨_,by rw[PL,dT bv],.inl ⟨rfl,by rw[au0 (auq _)]at f;exact f⟩⟩) (m:=a) (i:=0) (s:=()) bv bv d5
 rw[show((0:Nat):Int)=(0:Int)from rfl]at o;rw[ae5,aiQ,aiP,o,ob];rcases r with⟨rfl,h⟩|⟨k,rfl,h⟩
 ·rw[auU h];rfl
 ·rw[auW h]
  simp only[ob];rw[auU bv];rfl
def aa1{N:Nat}(l:Fu+3<=N)(c:aX)(o:c.length<=1000)(a u v:Int)(d:0<=u/\u<(c.length:Int)):∃r,afa N (c,c,a,u,v)=some r:=by
 obtain⟨N,rfl⟩:∃M,N=M+1:=⟨N - 1,bv⟩;have j:=bR;obtain⟨y,_,h⟩:=Ll d.1 d.2;obtain⟨r,b,_⟩:=lp (F:=λm k (s:Int)=>F7 N m (s,c,((c.length:Nat):Int),(k:Int),c,a,u,v)) (n:=c.length) (Q:=λ_=>True) (I:=λk _=>True) (λm k s f e=>by
  obtain⟨x,g⟩:=get_at (xs:=c) (i:=k) f;obtain⟨M,rfl⟩:∃M,N=M+1:=⟨N - 1,bv⟩;rw[PM,eC bv,bd g,ob,ae7,h,ob,ob,cd,cG bv];split
  ·exact .inl ⟨_,trivial,rfl⟩
  ·exact .inl ⟨_,trivial,rfl⟩) (λm s e=>⟨_,by rw[PM,dT bv],trivial⟩) (m:=N) (i:=0) (s:=0) bv bv trivial
 rw[show((0:Nat):Int)=(0:Int)from rfl]at b;rw[aiR,b,ob];exact⟨_,rfl⟩
def aa2{N:Nat}(g:Fu+3<=N)(c:aX)(h:c.length<=1000):∃r,PN N c=some r:=by
 obtain⟨N,rfl⟩:∃M,N=M+1:=⟨N - 1,bv⟩;have f:=bR;obtain⟨r,a,_⟩:=lp (F:=λm k (s:Int)=>zq N m (s,c,((c.length:Nat):Int),(k:Int))) (n:=c.length) (Q:=λ_=>True) (I:=λk _=>True) (λm k s d b=>by
  obtain⟨x,e⟩:=get_at (xs:=c) (i:=k) d;obtain⟨M,rfl⟩:∃M,N=M+1:=⟨N - 1,bv⟩;rw[Jd,eC bv,bd e,ob,afc,ob,cd,cG bv];split
  ·exact .inl ⟨_,trivial,rfl⟩
  ·exact .inl ⟨_,trivial,rfl⟩) (λm s b=>⟨_,by rw[Jd,dT bv],trivial⟩) (m:=N) (i:=0) (s:=0) bv bv trivial
 rw[show((0:Nat):Int)=(0:Int)from rfl]at a;rw[afd,a,ob];exact⟨_,rfl⟩
def aa3{N:Nat}(s:Fu+6<=N)(c:aX)(k:c.length<=1000)(a u v:Int):∃r,XH N (c,a,u,v)=some r:=by
 obtain⟨N,rfl⟩:∃M,N=M+2:=⟨N - 2,bv⟩;rw[afe,cd];by_cases i:a=1
 ·rw[auo i,JG bv c _ d5,ob]
  by_cases h:∀w∈[u,v],0<=w/\w<(c.length:Int)
  ·rw[auU h]
   simp only[auH,auv];have e:=h u d5;have j:=h v d5;obtain⟨x,_,g⟩:=Ll e.1 e.2;obtain⟨y,_,m⟩:=Ll j.1 j.2;rw[g,ob,m,ob,cd];split<;>exact⟨_,rfl⟩
  ·rw[auW h];exact⟨_,rfl⟩
 ·rw[aun i,aar,cd]
  have l:∀b:In,∃r,(aW (some (a,b,c,a,u,v)) λd=>cond d.2.1
   (aW (Jc (N+1) (d.2.2.1,[d.2.2.2.2.1])) λn=>
    cond (!n)
     (some ((0:Int),(10:Int)))
     (cond (decide (d.2.2.2.1=(2:Int)))
      (aW (ba d.2.2.1 d.2.2.2.2.1) λo=>
       some (o,(0:Int)))
      (aW (afa (N+1) (d.2.2.1,(d.2.2.1,(d.2.2.2.1,(d.2.2.2.2.1,d.2.2.2.2.2))))) λp=>
       some (p.1,(0:Int)))))
   (cond (decide (d.1=(4:Int)))
    (aW (PN (N+1) d.2.2.1) λq=>
     some (q,(0:Int)))
    (some ((0:Int),(1:Int)))))=some r:=λb=>by
    rw[ob];cases b with
    |true=>
     simp only[auQ];rw[JG bv c _ d5,ob];by_cases h:∀w∈[u],0<=w/\w<(c.length:Int)
     ·rw[auU h]
      simp only[auH,auv];have e:=h u d5;obtain⟨x,_,g⟩:=Ll e.1 e.2;rw[cd];split
      ·rw[g,ob];exact⟨_,rfl⟩
      ·obtain⟨r,f⟩:=aa1 (N:=N+1) bv c k a u v e
       rw[f,ob];exact⟨_,rfl⟩
     ·rw[auW h];exact⟨_,rfl⟩
    |false=>
     simp only[auv];rw[cd];split
     ·obtain⟨r,f⟩:=aa2 (N:=N+1) bv c k
      rw[f,ob];exact⟨_,rfl⟩
     ·exact⟨_,rfl⟩
  split
  ·exact l true
  ·exact l (decide (a=3))
def GV{N:Nat}(A:Fu+20<=N)(h:GR a d)(l:fU)(B:l.length<=1000):∃r,zr N ((a:Int),d,l)=some r/\r.2.length<=1000:=by
 obtain⟨N,rfl⟩:∃M,N=M+2:=⟨N - 2,bv⟩;have z:=bR;have C:=h.len;have j:uZ (a:Int) (cU d)=0:=by
  rw[X5 h.lo h.hi,auo λe q=>by
   obtain⟨t,w,rfl⟩:=auD.1 q;have:=h.tie t w;unfold nT at this;exact⟨⟨by show 0<=t.1;omega,by show t.1<_;omega⟩,by show 0<=t.2.1;omega,by show t.2.1<_;omega⟩]
 have p:(ajj (a:Int) (cU d)).length<=1000:=by have:=h.hi;simp[ajj];omega
 rw[aff,aaq,h.right bv,ob];simp only[auH,auv];rw[Bl bv h,ob,S_ bv _ _ (by simp[cU];omega),j,auo rfl,ob,ob];simp only[auH,auv];generalize ajj (a:Int) (cU d)=c at*;obtain⟨b,f,n⟩:=lp (F:=λm k (s:aX)=>DQ (N+1) m (l,((l.length:Nat):Int),(k:Int),c,s)) (n:=l.length) (Q:=λb=>∀o,b=.inl o->o.length<=1000) (I:=λk s=>s.length<=k) (λm k s u g=>by
  obtain⟨x,y⟩:=get_at (xs:=l) (i:=k) u;obtain⟨r,v⟩:=aa3 (N:=N+1) bv c p x.1 x.2.1 x.2.2;rw[Je,eC bv,bd y,ob,v,ob,Hq];split
  ·rw[cw bv d7,ob,cG bv]
   exact .inl ⟨_,by simp;omega,rfl⟩
  ·exact .inr ⟨_,rfl,λo h=>by cases h⟩) (λm s g=>⟨_,by rw[Je,dT bv],λo h=>by cases h;omega⟩) (m:=N+1) (i:=0) (s:=[]) bv bv d5
 rw[show((0:Nat):Int)=(0:Int)from rfl]at f;rw[f,ob];cases b with
 |inl o=>exact⟨_,rfl,n o rfl⟩
 |inr e=>exact⟨_,rfl,d5⟩
end
section
open Go Go.RowKit Go.Sort
abbrev SV:Type:=Int×Do cA×Int×Int
abbrev XV:Type:=Int×bh×fU
abbrev WV:Type:=Int×Int×Int×Int×bh
abbrev RV:Type:=Int×Int×aX
noncomputable def rE(N:Nat)(s:SV)(x:XV)(w:WV):At (SV×RV):=
 aW (nO N s) λb=>cond b
  (aW (ru N (s.1,s.2.1,x.1,x.2.1,x.2.2,w)) λc=>cond (decide (c.2.1=0))
   (aW (kL N (wrap .i64 (((c.2.2.2.1.length:Nat):Int)+((c.2.2.2.2.length:Nat):Int)),w.2.2)) λo=>cond (decide (o.2.1=0))
    (cond (decide (c.2.2.1=1))
     (aW (oH N (s.1,s.2.1,c.2.2.2.1)) λa=>cond (decide (a.2.1=0))
      (some ((a.2.2.1,a.2.2.2,wrap .i64 (s.2.2.1+1),wrap .i64 (s.2.2.2+wrap .i64 (c.1+o.1))),0,a.1,[]))
      (some (s,a.2.1,0,[])))
     (cond (decide (c.2.2.1=2))
      (aW (tk N (s.1,s.2.1,c.2.2.2.1)) λa=>cond (decide (a.1=0))
       (some ((a.2.1,a.2.2.1,wrap .i64 (s.2.2.1+1),wrap .i64 (s.2.2.2+wrap .i64 (c.1+o.1))),0,((c.2.2.2.1.length:Nat):Int),[]))
       (some (s,a.1,0,[])))
      (cond (decide (c.2.2.1=3))
       (aW (zr N (s.1,s.2.1,c.2.2.2.2)) λa=>cond (decide (a.1=0))
        (some ((s.1,s.2.1,wrap .i64 (s.2.2.1+1),wrap .i64 (s.2.2.2+wrap .i64 (c.1+o.1))),0,0,a.2))
        (some (s,a.1,0,[])))
       (some ((s.1,s.2.1,wrap .i64 (s.2.2.1+1),wrap .i64 (s.2.2.2+wrap .i64 (c.1+o.1))),0,0,[])))))
    (some (s,o.2.1,0,[])))
   (some (s,c.2.1,0,[])))
  (some (s,1,0,[]))
def StR(s:SV):Prop:=(0<=s.1/\GR s.1.toNat s.2.1)/\(0<=s.2.2.1/\s.2.2.1<=1099511627776)/\0<=s.2.2.2/\s.2.2.2<=1099511627776
def JH{N:Nat}(k:Fu+18<=N)(s:SV)(i:s.2.1.length<=100000):∃b,nO N s=some b/\(b=true↔StR s):=by
 obtain⟨N,rfl⟩:∃m,N=m+2:=⟨N - 2,bv⟩;obtain⟨n,j,d,l⟩:=s;obtain⟨b,g,f⟩:=uN (N:=N+1) bv n j i;have e:∀c:Int,N6 (N+1) c=some (decide (0<=c/\c<=1099511627776)):=λc=>by
  rw[adu,cd];by_cases h:0<=c<;>simp[h]
 rw[adv,g,ob];unfold StR;simp only;cases b with
 |false=>exact⟨_,rfl,λh=>(by cases h),λh=>by have:=f.2 h.1;cases this⟩
 |true=>
  rw[auQ,e,ob,cd];by_cases a:0<=d/\d<=1099511627776
  ·rw[auo a,e,ob]
   exact⟨_,rfl,λh=>⟨f.1 rfl,a,avo h⟩,λh=>auU h.2.2⟩
  ·rw[aun a];exact⟨_,rfl,λh=>(by cases h),λh=>absurd h.2.1 a⟩
structure TkR(n:Nat)(ts:List cA)(w:WV)(k:Int)(es:bh)(qs:fU)(M:Nat)(ts':List cA)(ch:Int)(an:aX):Prop where
 wr:WR k es qs
 vt:∀v∈GN es qs,v<(n:Int)
 len:ts'.length<=400
 res:(k=3/\ts'=ts/\ch=0/\zr (M+1) ((n:Int),ts,qs)=some (0,an))\/∃(t:Nat) (once:bh),t<=7000000/\I0 M (es,w)=some ((t:Int),0,once)/\once.length<=60/\(∀x∈once,mU (n:Int) x)/\an=[]/\
  ((k=2/\(cU ts').Sublist (cU ts)/\(∀x∈cU ts',x∉once.map dC)/\((∀e∈cU ts,e∉once.map dC)->ts'=ts/\ch=0))\/
   k=1/\(∀e∈once.map dC,e.1<e.2->e∈cU ts')/\(∀e∈cU ts,e∈cU ts')/\((∀e∈once.map dC,e.1<e.2->e∈cU ts)->ts'=ts/\ch=0))
def ajF(L:Fu+45<=a){w:WV}(I:Dd.Aa w.1 w.2.1 w.2.2.1 w.2.2.2.1 w.2.2.2.2)(s:SV)(R:s.2.1.length<=100000)(k:Int)(q:bh)(u:fU)(E:q.length<=100000)(hq:u.length<=100000):
 ∃e:Int,(rE (a+1) s (k,q,u) w=some (s,e,0,[])/\e≠0/\(¬StR s->e=1)/\(StR s->¬WR k q u->e=1))\/
  (StR s/\∃(n:Nat) (y:Do cA) (K a8:Int) (C:aX),s.1=(n:Int)/\GR n s.2.1/\rE (a+1) s (k,q,u) w=some ((s.1,y,s.2.2.1+1,a8),0,K,C)/\TkR n s.2.1 w k q u a y K C):=by
 obtain⟨g,v,D,st⟩:=s;obtain⟨bi,bl,gr,P,pk⟩:=w;simp only at R I;have hF:=bR;obtain⟨b,hb,hi⟩:=JH (N:=a+1) bv (g,v,D,st) R;unfold rE;rw[hb,ob];cases b with
 |false=>exact⟨1,.inl ⟨rfl,d6,λ_=>rfl,λ_ _=>rfl⟩⟩
 |true=>
  have A:=hi.1 rfl;have r:=A;unfold StR at A;simp only at A;obtain⟨⟨h0,f⟩,ab,ag⟩:=A;obtain⟨n,rfl⟩:∃n:Nat,g=(n:Int):=⟨g.toNat,bv⟩;rw[auB]at f;rw[auQ];simp only;by_cases j:WR k q u
  ·obtain⟨t,e,k',d,qs',W,hc,B⟩:=agD L I f j
   rw[hc,ob];simp only;rcases B with B|⟨rfl,rfl,H,fC⟩
   ·rw[dT B];exact⟨e,.inl ⟨rfl,B,λh=>absurd r h,λ_ h=>absurd j h⟩⟩
   ·rw[eC rfl]
    have a2:d.length+qs'.length<=60:=by
     rcases fC with⟨_,_,rfl,rfl,h⟩|⟨_,_,rfl,h,_⟩
     ·simpa using h
     ·simpa using h
    obtain⟨m,us,G,S,ho⟩:=I.o (d.length+qs'.length) a2;rw[show wrap .i64 (((d.length:Nat):Int)+((qs'.length:Nat):Int))=((d.length+qs'.length:Nat):Int) by rw[gZ bv bv];omega,ho (a+1) bv,ob,eC rfl,show wrap .i64 (D+1)=D+1 from gZ bv bv];simp only;rcases fC with⟨rfl,rfl,rfl,rfl,af⟩|⟨Y,O,rfl,ad,V,ae,⟨rfl,a0,ah,U⟩|⟨rfl,o,a9⟩⟩
    ·rw[dT d6,dT d6,eC rfl]
     obtain⟨⟨e,C⟩,l,_⟩:=GV (N:=a+1) bv f qs' bv;rw[l,ob,cd];by_cases c:e=0
     ·subst c
      rw[auo rfl];exact⟨0,.inr ⟨r,n,_,_,_,_,rfl,f,rfl,j,H,f.len,.inl ⟨rfl,rfl,rfl,l⟩⟩⟩
     ·rw[aun c];exact⟨e,.inl ⟨rfl,c,λh=>absurd r h,λ_ h=>absurd j h⟩⟩
    ·rw[dT d6,eC rfl]
     obtain⟨e,y,all,l,a5⟩:=drop_eq (N:=a+1) bv f d bv;rw[l,ob,cd];rcases a5 with⟨c,_⟩|⟨rfl,J,q2,q3⟩
     ·rw[aun c];exact⟨e,.inl ⟨rfl,c,λh=>absurd r h,λ_ h=>absurd j h⟩⟩
     ·rw[auo rfl]
      refine⟨0,.inr ⟨r,n,_,_,_,_,rfl,f,rfl,j,H,(by have:=J.length_le;rw[iq,iq]at this;exact avl this f.len),.inr ⟨t,Y,W,O,V,a0,rfl,.inl ⟨rfl,J,λx i S=>?_,λF=>?_⟩⟩⟩⟩
      ·have X:=J.subset i
       have a7:=(U x).2 ⟨X,S⟩;exact q2 x i (auD.2 ⟨x,a7,QI (Yb f.tie x X).2.1⟩)
      ·have:d=[]:=by
        rw[awY];intro x i;have:=(U x).1 i;exact F x this.1 this.2
       exact⟨q3 this,by rw[this];rfl⟩
    ·rw[eC rfl]
     have Z:∀x∈d,mU (n:Int) x:=λx i=>by
      have:=o.rng x i;exact⟨⟨bv,bv⟩,bv,bv⟩
     have a6:d.map dC=d:=by
      have:d.map dC=d.map id:=avi λx i=>QI (o.rng x i).2.1;rw[this,awe]
     rcases add_eq (N:=a+1) bv f d bv with⟨_,a1⟩|⟨p,M,l⟩
     ·exact absurd Z a1
     ·have N:∀x,x∈p↔x∈d:=λx=>by
       rw[M.mem,a6];exact⟨λh=>h.2.1,λh=>⟨(o.rng x h).2.1,h,((o.mem x).1 h).2.2⟩⟩
      have ac:p.length<=d.length:=M.len;rcases l with⟨aa,_⟩|⟨_,y,l,z⟩
      ·omega
      ·rw[l,ob,eC rfl]
       have Q:∀e,e∈cU y↔e∈cU v\/e∈p:=λe=>by
        rw[(aaK z.perm).mem_iff,Qu,Qt (w9 n v p),auC]
       refine⟨0,.inr ⟨r,n,_,_,_,_,rfl,f,rfl,j,H,(by show y.length<=400;rw[z.perm.length_eq,auE,Qs (w9 n v p)];omega),.inr ⟨t,Y,W,O,V,o.inn,rfl,.inr ⟨rfl,λe a3 a4=>?_,λe E=>(Q e).2 (.inl E),λF=>?_⟩⟩⟩⟩
       ·rw[Q]
        by_cases c:e∈cU v
        ·exact .inl c
        ·exact .inr ((N e).2 ((o.mem e).2 ⟨a4,a3,c⟩))
       ·have:p=[]:=by
         rw[awY];intro x i;have:=(o.mem x).1 ((N x).1 i);exact this.2.2 (F x this.2.1 this.1)
        subst this;have G:=z.perm;rw[show GC [] (Bm n v [])=[]from rfl,au_]at G;exact⟨ano z.srt f.srt G,rfl⟩
  ·rw[aa0 L f E hq j,ob]
   simp only;rw[dT d6];exact⟨1,.inl ⟨rfl,d6,λ_=>rfl,λ_ _=>rfl⟩⟩
end
variable{e v:Type}{t:Id}{C i:GE}
section
section
inductive Tr(α:Type)where
 |lf
 |nd (l:Tr α) (x:Option α) (r:Tr α)
def bB(b:In)(x y:e):e:=Bool.rec (motive:=λ_=>e) y x b
def oB(o:At e)(k:e->At v):At v:=Option.rec (motive:=λ_=>At v) none k o
def kN(n:Nat)(k:Nat->e):e:=Nat.rec (motive:=λ_=>e) (k 0) (λm _=>k (Nat.succ m)) n
def kI(x:Int)(k:Int->e):e:=Int.rec (motive:=λ_=>e) (λn=>kN n λm=>k (Int.ofNat m)) (λn=>kN n λm=>k (Int.negSucc m)) x
def fG(n:Nat)(k:Nat->e):kN n k=k n:=by cases n<;>rfl
def Ab(x:Int)(k:Int->e):kI x k=k x:=by
 cases x with
 |ofNat n=>exact fG n λm=>k (Int.ofNat m)
 |negSucc n=>exact fG n λm=>k (Int.negSucc m)
def bH{o:At e}{k:e->At v}{r:v}(h:oB o k=some r):∃x,o=some x/\k x=some r:=by
 cases o with
 |none=>cases h
 |some x=>exact⟨x,rfl,h⟩
def dE{b:In}{x y:At e}{r:e}(h:bB b x y=some r):(b=true/\x=some r)\/(b=false/\y=some r):=by
 cases b with
 |true=>exact .inl ⟨rfl,h⟩
 |false=>exact .inr ⟨rfl,h⟩
def bj{b:In}{x:At e}{r:e}(h:bB b x none=some r):b=true/\x=some r:=by
 cases b with
 |true=>exact⟨rfl,h⟩
 |false=>cases h
def Tr.get:Tr e->Nat->At e:=Tr.rec (motive:=λ_=>Nat->At e) (λ_=>none)
 (λ_ x _ a b i=>bB (beq i 0) x (bB (beq (Nat.mod i 2) 1) (a (Nat.div i 2)) (b (Nat.sub (Nat.div i 2) 1))))
def Tr.put(c:e):Tr e->Nat->(Tr e->At v)->At v:=Tr.rec (motive:=λ_=>Nat->(Tr e->At v)->At v) (λ_ _=>none)
 (λl x r b d i k=>bB (beq i 0) (oB x λ_=>k (.nd l (some c) r)) (bB (beq (Nat.mod i 2) 1) (b (Nat.div i 2) λa=>k (.nd a x r)) (d (Nat.sub (Nat.div i 2) 1) λf=>k (.nd l x f))))
def Tr.new(c:At e):Nat->Tr e->Nat->(Tr e->At v)->At v:=Nat.rec (motive:=λ_=>Tr e->Nat->(Tr e->At v)->At v) (λ_ _ _=>none)
 (λ_ a t=>Tr.rec (motive:=λ_=>Nat->(Tr e->At v)->At v)
  (λi k=>bB (beq i 0) (k (.nd .lf c .lf)) (bB (beq (Nat.mod i 2) 1) (a .lf (Nat.div i 2) λl=>k (.nd l none .lf)) (a .lf (Nat.sub (Nat.div i 2) 1) λr=>k (.nd .lf none r))))
  (λl x r _ _ i k=>bB (beq i 0) (k (.nd l c r)) (bB (beq (Nat.mod i 2) 1) (a l (Nat.div i 2) λb=>k (.nd b x r)) (a r (Nat.sub (Nat.div i 2) 1) λd=>k (.nd l x d)))) t)
def Tr.fill(c:e):Nat->Nat->Tr e:=Nat.rec (motive:=λ_=>Nat->Tr e) (λ_=>.lf)
 (λ_ a n=>bB (beq n 0) .lf (.nd (a (Nat.div n 2)) (some c) (a (Nat.div (Nat.sub n 1) 2))))
def Tr.iU(l:Tr e)(x:At e)(r:Tr e)(i:Nat):(Tr.nd l x r).get i=if i=0 then x else if i % 2=1 then l.get (i/2)else r.get (i/2 - 1):=by
 show bB (beq i 0) x (bB (beq (i % 2) 1) (l.get (i/2)) (r.get (i/2 - 1)))=_;by_cases b:i=0
 ·subst b;rfl
 ·have e0:Nat.beq i 0=false:=by cases h:Nat.beq i 0;·rfl
                                ·exact absurd (auu h) b
  rw[e0,aun b];by_cases a:i % 2=1
  ·rw[auo a,a];rfl
  ·have c:Nat.beq (i % 2) 1=false:=by cases h:Nat.beq (i % 2) 1;·rfl
                                      ·exact absurd (auu h) a
   rw[c,aun a];rfl
def Tr.Tz(i:Nat):(Tr.lf:Tr e).get i=none:=rfl
def pH(c:At e)(i:Nat)(t a:Tr e):Prop:=∀j,a.get j=if j=i then c else t.get j
def pH.left{c:At e}{l g r:Tr e}{x:At e}(i:a % 2=1)(h:pH c (a/2) l g):pH c a (.nd l x r) (.nd g x r):=λj=>by
 rw[Tr.iU,Tr.iU];by_cases d:j=0
 ·subst d;rw[auo rfl,auo rfl,aun bv]
 ·rw[aun d,aun d]
  by_cases b:j % 2=1
  ·rw[auo b,auo b,h]
   by_cases f:j=a
   ·rw[auo (by rw[f]),auo f]
   ·rw[aun bv,aun f]
  ·rw[aun b,aun b,aun bv]
def pH.right{c:At e}{l r g:Tr e}{x:At e}(i:¬a=0)(k:¬a % 2=1)(h:pH c (a/2 - 1) r g):pH c a (.nd l x r) (.nd l x g):=λj=>by
 rw[Tr.iU,Tr.iU];by_cases d:j=0
 ·subst d;rw[auo rfl,auo rfl,aun bv]
 ·rw[aun d,aun d]
  by_cases b:j % 2=1
  ·rw[auo b,auo b,aun bv]
  ·rw[aun b,aun b,h]
   by_cases f:j=a
   ·rw[auo (by rw[f]),auo f]
   ·rw[aun bv,aun f]
def pH.here{c:At e}{l r:Tr e}{x:At e}:pH c 0 (.nd l x r) (.nd l c r):=λj=>by
 rw[Tr.iU,Tr.iU];by_cases h:j=0<;>simp[h]
def ep(b:beq a h=true):a=h:=auu b
def jh(b:beq a h=false):¬a=h:=λe=>by rw[e,auX]at b;cases b
def Tr.m_{α R:Type}{c:α}{r:R}:∀{t:Tr α} {i:Nat} {k:Tr α->At R},Tr.put c t i k=some r->∃d,k d=some r/\(∃x,t.get i=some x)/\pH (some c) i t d
 |.lf,i,k,h=>by cases h
 |.nd l x j,i,k,h=>by
  change bB _ _ _=_ at h;rcases dE h with⟨b,h⟩|⟨b,h⟩
  ·obtain rfl:=ep b
   obtain⟨y,rfl,h⟩:=bH h;exact⟨_,h,⟨y,by rw[Tr.iU,auo rfl]⟩,pH.here⟩
  ·have b:=jh b
   rcases dE h with⟨a,h⟩|⟨a,h⟩
   ·have a:i % 2=1:=ep a
    obtain⟨d,e,g,f⟩:=Tr.m_ (t:=l) h;exact⟨_,e,by rw[Tr.iU,aun b,auo a];exact g,pH.left a f⟩
   ·have a:¬i % 2=1:=jh a
    obtain⟨d,e,g,f⟩:=Tr.m_ (t:=j) h;exact⟨_,e,by rw[Tr.iU,aun b,aun a];exact g,pH.right b a f⟩
def Tr.oK{α R:Type}{c:At α}{r:R}:∀{N:Nat} {t:Tr α} {i:Nat} {k:Tr α->At R},Tr.new c N t i k=some r->∃t',k t'=some r/\pH c i t t'
 |0,t,i,k,h=>by cases h
 |N+1,t,i,k,h=>by
  have m:∀l x d,(∀j,t.get j=(Tr.nd l x d).get j)->bB (beq i 0) (k (.nd l c d)) (bB (beq (Nat.mod i 2) 1) (Tr.new c N l (Nat.div i 2) λo=>k (.nd o x d)) (Tr.new c N d (Nat.sub (Nat.div i 2) 1) λp=>k (.nd l x p)))=some r->
   ∃t',k t'=some r/\pH c i t t':=by
   intro l x d n h;have g:∀{t'},pH c i (.nd l x d) t'->pH c i t t':=λe j=>by rw[e j,n j]
   rcases dE h with⟨b,h⟩|⟨b,h⟩
   ·obtain rfl:=ep b
    exact⟨_,h,g pH.here⟩
   ·have b:=jh b
    rcases dE h with⟨a,h⟩|⟨a,h⟩
    ·have a:i % 2=1:=ep a
     obtain⟨t',f,e⟩:=Tr.oK h;exact⟨_,f,g (pH.left a e)⟩
    ·have a:¬i % 2=1:=jh a
     obtain⟨t',f,e⟩:=Tr.oK h;exact⟨_,f,g (pH.right b a e)⟩
  cases t with
  |lf=>exact m .lf none .lf (λj=>by
   rw[Tr.iU];by_cases b:j=0
   ·simp[b,Tr.Tz]
   ·by_cases a:j % 2=1<;>simp[b,a,Tr.Tz]) h
  |nd l x d=>exact m l x d (λ_=>rfl) h
def Tr.jJ{α:Type}{c:α}:∀{N n i:Nat} {x:α},(Tr.fill c N n).get i=some x->x=c/\i<n
 |0,n,i,x,h=>by cases h
 |N+1,n,i,x,h=>by
  change(bB (beq n 0) Tr.lf (Tr.nd (Tr.fill c N (n/2)) (some c) (Tr.fill c N ((n - 1)/2)))).get i=_ at h;cases a:beq n 0 with
  |true=>rw[a]at h;cases h
  |false=>
   rw[a]at h;have b:=jh a;change(Tr.nd _ _ _).get i=_ at h;rw[Tr.iU]at h;split at h
   ·cases h;exact⟨rfl,bv⟩
   ·split at h
    ·have:=Tr.jJ h;exact⟨this.1,bv⟩
    ·have:=Tr.jJ h;exact⟨this.1,bv⟩
inductive CV where
 |v (x:Value)
 |pt (k o:Nat)
 |sl (k o n:Nat) (c:bX)
 |mp (k:Nat)
 |gl (g o:Nat)
 |ag (cs:List CV)
 |tu (cs:List CV)
 |cl (fn:Fn) (fs cs:List CV)
instance:Inhabited CV:=⟨.v undef⟩
def CV.one:CV->In
 |.v x=>x.oneCell'
 |.pt .. |.sl .. |.mp _|.cl .. |.gl .. =>true
 |.ag _|.tu _=>false
abbrev Nm:=Nat->Mi
inductive KR(ρ:Nm):CV->Value->Prop
 |v {x}:KR ρ (.v x) x
 |pt {k o b m} (h:ρ k=some (b,m)):KR ρ (.pt k o) (.pointer (some ⟨b,o,none⟩))
 |sl {k o n c b m cap f} (h:ρ k=some (b,m)) (ho:0<n\/o=0->f=o) (h1:n<=cap) (h3:∀x,c=some x->cap=x) (h4:c=none->o=0->cap=m):KR ρ (.sl k o n c) (.slice (some ⟨b,f,none⟩) n cap)
 |mp {k b m} (h:ρ k=some (b,m)):KR ρ (.mp k) (.map (some b))
 |gl {g o}:KR ρ (.gl g o) (.pointer (some ⟨g,o,none⟩))
 |ag {cs} (us:bC) (hl:us.length=cs.length) (hc:∀(j:Nat) c u,cs[j]? =some c->us[j]? =some u->KR ρ c u):KR ρ (.ag cs) (.agg us.toArray)
 |tu {cs} (us:bC) (hl:us.length=cs.length) (hc:∀(j:Nat) c u,cs[j]? =some c->us[j]? =some u->KR ρ c u):KR ρ (.tu cs) (.tuple us.toArray)
 |cl {fn fs cs} (us xs:bC) (hl:us.length=fs.length) (hl2:xs.length=cs.length) (hc:∀(j:Nat) c u,fs[j]? =some c->us[j]? =some u->KR ρ c u)
  (hc2:∀(j:Nat) c u,cs[j]? =some c->xs[j]? =some u->KR ρ c u):KR ρ (.cl fn fs cs) (.func fn us.toArray xs.toArray)
def Bp(ρ a:Nm):Prop:=∀k p,ρ k=some p->a k=some p
def Bp.refl(ρ:Nm):Bp ρ ρ:=λ_ _ h=>h
def KR.mono{ρ g:Nm}(e:Bp ρ g){c:CV}(h:KR ρ c t):KR g c t:=by
 induction h with
 |v=>exact .v
 |pt h=>exact .pt (e _ _ h)
 |sl h m i j k=>exact .sl (e _ _ h) m i j k
 |mp h=>exact .mp (e _ _ h)
 |gl=>exact .gl
 |ag d a f b=>exact .ag d a b
 |tu d a f b=>exact .tu d a b
 |cl d o a l f p b n=>exact .cl d o a l b n
def KR.jI{ρ:Nm}{c:CV}(h:KR ρ c t)(a:c.one=true):t.oneCell'=true:=by
 cases h with
 |v=>simpa[CV.one]using a
 |ag=>simp[CV.one]at a
 |tu=>simp[CV.one]at a
 |_=>rfl
def KR.bL{ρ:Nm}{x u:Id}(h:KR ρ (.v x) u):u=x:=by cases h;rfl
def KR.qQ{ρ:Nm}(c:KR ρ (.pt a h) t):∃b m,ρ a=some (b,m)/\t=.pointer (some ⟨b,h,none⟩):=by
 cases c with
 |pt c=>exact⟨_,_,c,rfl⟩
def KR.e5{ρ:Nm}{cs:Do CV}(h:KR ρ (.ag cs) t):∃a,t=.agg a.toArray/\LR (KR ρ) cs a:=by
 cases h with
 |ag a c b=>exact⟨a,rfl,c,b⟩
def KR.D9{ρ:Nm}{cs:Do CV}(h:KR ρ (.tu cs) t):∃a,t=.tuple a.toArray/\LR (KR ρ) cs a:=by
 cases h with
 |tu a c b=>exact⟨a,rfl,c,b⟩
inductive c5 where
 |ce (cs:Tr CV) (n:Nat) (ext:bX) (wr:Bool)
 |ma (t:TypeId) (es:List (Value×CV)) (wr:Bool)
def c5.wr:c5->In
 |.ce _ _ _ b=>b
 |.ma _ _ b=>b
abbrev KH:=Nat->At c5
variable{P:Fd}{w0:GE}
def BR(P:Fd)(ρ:Nm)(w:GE)(b m:Nat):c5->Prop
 |.ce h n ext _=>∃t a,w.heap[b]? =some (.cells a t (0,0))/\n<=a.size/\(∀j c,h.get j=some c->j<n/\∃u,a[j]? =some u/\KR ρ c u/\c.one=true)/\∀g,ext=some g->a.size=m*g
 |.ma t i _=>∃d z e f,mapA P t=some (d,z)/\w.heap[b]? =some (.map e f)/\Hg (KR ρ) d i e f
def BR.lt{ρ:Nm}{x:c5}(b:BR P ρ i a h x):a<i.heap.size:=by
 cases x with
 |ce f n ext wr=>obtain⟨t,j,b,_⟩:=b;exact(au9.1 b).1
 |ma t g wr=>obtain⟨d,z,c,e,_,b,_⟩:=b;exact(au9.1 b).1
def BR.mono{ρ q:Nm}{w p:GE}{b m:Nat}{x:c5}(h:BR P ρ w b m x)(i:Bp ρ q)(o:p.heap[b]? =w.heap[b]?):BR P q p b m x:=by
 cases x with
 |ce B n ext wr=>
  obtain⟨t,A,e,f,g,v⟩:=h;exact⟨t,A,by rw[o];exact e,f,λj c y=>let⟨l,u,a,b,c⟩:=g j c y;⟨l,u,a,b.mono i,c⟩,v⟩
 |ma t C wr=>
  obtain⟨d,z,r,s,e,f,g⟩:=h;exact⟨d,z,r,s,e,by rw[o];exact f,g.imp λ_ _ k=>k.mono i⟩
structure HR(P:Program)(w0:World)(ρ:Nm)(h:KH)(n:Nat)(w:World):Prop where
 ext:Ext w0 w
 ob:∀k x b m,h k=some x->ρ k=some (b,m)->BR P ρ w b m x
 lo:∀k x b m,h k=some x->ρ k=some (b,m)->w0.heap.size<=b
 inj:∀k k' x x' b m m',h k=some x->h k'=some x'->ρ k=some (b,m)->ρ k'=some (b,m')->x.wr=true->k=k'
 top:∀k,n<=k->ρ k=none
 DZ:∀k,n<=k->h k=none
def HR.lt{ρ:Nm}{b:KH}(e:HR P w0 ρ b a i){p:Nat×Nat}(c:ρ h=some p):h<a:=by
 by_cases d:h<a
 ·exact d
 ·rw[e.top h bv]at c;cases c
def HR.lth{ρ:Nm}{b:KH}(e:HR P w0 ρ b a i){x:c5}(c:b h=some x):h<a:=by
 by_cases d:h<a
 ·exact d
 ·rw[e.DZ h bv]at c;cases c
def agE(ρ:Nm)(h:KH)(b:Nat):Prop:=∀k x m,h k=some x->x.wr=true->ρ k≠some (b,m)
structure KP(P:Program)(w0:World)(ρ:Nm)(h:KH)(n:Nat)(w:World)(ρ':Nm)(h':KH)(n':Nat)(w':World):Prop where
 hr:HR P w0 ρ' h' n' w'
 nn:n<=n'
 ro:∀k,k<n->ρ' k=ρ k
 sz:w.heap.size<=w'.heap.size
 fr:∀b,b<w.heap.size->agE ρ h b->w'.heap[b]? =w.heap[b]? /\∀k x m,n<=k->h' k=some x->ρ' k≠some (b,m)
 ol:∀k x',k<n->h' k=some x'->∃x,h k=some x/\x.wr=x'.wr
 fz:∀k x,k<n->h k=some x->x.wr=false->h' k=some x
def KP.le{ρ d:Nm}{b e:KH}(f:KP P w0 ρ b a i d e h C)(g:HR P w0 ρ b a i):Bp ρ d:=λk p c=>by rw[f.ro k (g.lt c)];exact c
def KP.refl{ρ:Nm}{h:KH}(d:HR P w0 ρ h a i):KP P w0 ρ h a i ρ h a i:=
 ⟨d,auq _,λ_ _=>rfl,auq _,λb g j=>⟨rfl,λk x m e c=>by rw[d.DZ k e]at c;cases c⟩,λk f _ c=>⟨f,c,rfl⟩,λk x _ c _=>c⟩
def KP.trans{ρ p z:Nm}{h i q:KH}{n o u:Nat}{w v y:GE}(a:KP P w0 ρ h n w p i o v)(b:KP P w0 p i o v z q u y):KP P w0 ρ h n w z q u y:=by
 have J:=a.nn;refine⟨b.hr,avl a.nn b.nn,λk d=>(b.ro k bv).trans (a.ro k d),avl a.sz b.sz,λc E s=>?_,λk H d e=>?_,λk x d e g=>?_⟩
 ·obtain⟨j,r⟩:=a.fr c E s
  have F:agE p i c:=λk x m e g=>by
   by_cases d:k<n
   ·obtain⟨f,l,G⟩:=a.ol k x d e
    rw[a.ro k d];exact s k f m l (G.trans g)
   ·exact r k x m bv e
  obtain⟨C,D⟩:=b.fr c (by have:=a.sz;omega) F;refine⟨C.trans j,λk x m d e=>?_⟩;by_cases t:k<o
  ·obtain⟨f,l,_⟩:=b.ol k x t e
   rw[b.ro k t];exact r k f m d l
  ·exact D k x m bv e
 ·obtain⟨I,j,A⟩:=b.ol k H bv e
  obtain⟨f,B,e0⟩:=a.ol k I d j;exact⟨f,B,e0.trans A⟩
 ·exact b.fz k x bv (a.fz k x d e g) g
def HR.new{ρ:Nm}{h u:KH}(g:HR P w0 ρ h a i)(x:c5)(m:Nat)(j:∀k,u k=if k=a then some x else h k)(t:Ext i C)(F:i.heap.size<C.heap.size)
 (s:BR P (λk=>if k=a then some (i.heap.size,m)else ρ k) C i.heap.size m x):
 KP P w0 ρ h a i (λk=>if k=a then some (i.heap.size,m)else ρ k) u (a+1) C:=by
 have B:Bp ρ (λk=>if k=a then some (i.heap.size,m)else ρ k):=λk p c=>by
  have:=g.lt c;simp only;rw[aun bv];exact c
 have bW:∀b,b<i.heap.size->C.heap[b]? =i.heap[b]? :=λb s=>t.bW b s;refine⟨⟨g.ext.trans t,λk y b r d c=>?_,λk y b r d c=>?_,λk q y z b v w d o c l D=>?_,λk c=>?_,λk c=>?_⟩,Nat.le_succ _,λk c=>?_,t.size,λb A E=>⟨bW b A,λk y r c d=>?_⟩,λk y c d=>?_,λk y c d _=>?_⟩
 ·skip
  rw[j]at d;by_cases f:k=a
  ·rw[auo f]at d c;cases d;cases c;exact s
  ·rw[aun f]at d c
   have:=g.ob k y b r d c;exact this.mono B (bW b this.lt)
 ·skip
  rw[j]at d;by_cases f:k=a
  ·rw[auo f]at d c;cases c;exact g.ext.size
  ·rw[aun f]at d c
   exact g.lo k y b r d c
 ·skip
  rw[j]at d o;by_cases f:k=a
  ·by_cases n:q=a
   ·rw[f,n]
   ·rw[auo f]at c;rw[aun n]at l o
    cases c;have:=(g.ob q z _ w o l).lt;omega
  ·rw[aun f]at c d
   by_cases n:q=a
   ·rw[auo n]at l
    cases l;have:=(g.ob k y _ v d c).lt;omega
   ·rw[aun n]at l o
    exact g.inj k q y z b v w d o c l D
 ·rw[aun bv];exact g.top k bv
 ·rw[j,aun bv];exact g.DZ k bv
 ·rw[aun bv]
 ·rw[j]at d
  by_cases f:k=a
  ·rw[auo f];intro e;cases e;omega
  ·rw[aun f]at d;rw[g.DZ k c]at d;cases d
 ·rw[j,aun bv]at d;exact⟨y,d,rfl⟩
 ·rw[j,aun bv];exact d
def HR.set{ρ:Nm}{h s:KH}{w p:GE}(g:HR P w0 ρ h a w){i b0 r:Nat}{m:c5}(x:c5)(l:h i=some m)(t:ρ i=some (b0,r))(o:m.wr=true)(v:x.wr=true)
 (j:∀k,s k=if k=i then some x else h k) (I:Ext w0 p) (H:p.heap.size=w.heap.size) (u:∀b,b≠b0->p.heap[b]? =w.heap[b]?) (E:BR P ρ p b0 r x):
 KP P w0 ρ h a w ρ s a p:=by
 have U:=g.lth l;refine⟨⟨I,λk y b n c d=>?_,λk y b n c d=>?_,λk A y O b M N c J d G q=>?_,g.top,λk d=>?_⟩,auq _,λk d=>rfl,Nat.le_of_eq H.symm,λb S F=>⟨u b ?_,λk y n d c=>?_⟩,λk y d c=>?_,λk y d c q=>?_⟩
 ·rw[j]at c
  by_cases f:k=i
  ·subst f
   rw[auo rfl]at c;rw[t]at d;cases c;cases d;exact E
  ·rw[aun f]at c
   exact(g.ob k y b n c d).mono (Bp.refl ρ) (u b λe=>f (by subst e;exact(g.inj i k m y b r n l c t d o).symm))
 ·rw[j]at c
  by_cases f:k=i
  ·subst f;exact g.lo k m b n l d
  ·rw[aun f]at c;exact g.lo k y b n c d
 ·have B:∀k y,s k=some y->∃C,h k=some C/\C.wr=y.wr:=λk y c=>by
   rw[j]at c;by_cases f:k=i
   ·subst f;rw[auo rfl]at c;cases c;exact⟨m,l,o.trans v.symm⟩
   ·rw[aun f]at c;exact⟨y,c,rfl⟩
  obtain⟨z,K,D⟩:=B k y c;obtain⟨Q,L,R⟩:=B A O J;exact g.inj k A z Q b M N K L d G (D.trans q)
 ·rw[j,aun bv];exact g.DZ k d
 ·intro e;subst e;exact F i m r l o t
 ·rw[j,aun bv]at c;rw[g.DZ k d]at c;cases c
 ·rw[j]at c
  by_cases f:k=i
  ·subst f;rw[auo rfl]at c;cases c;exact⟨m,l,o.trans v.symm⟩
  ·rw[aun f]at c;exact⟨y,c,rfl⟩
 ·rw[j,aun]
  ·exact c
  ·intro e;subst e;rw[l]at c;cases c;rw[o]at q;cases q
def HR.kill{ρ:Nm}{c h':KH}(f:HR P w0 ρ c a i){p:c5}(r:c h=some p)(s:p.wr=true)(l:∀k,h' k=if k=h then none else c k):KP P w0 ρ c a i ρ h' a i:=by
 have g:∀k y,h' k=some y->c k=some y:=λk y d=>by
  rw[l]at d;split at d
  ·cases d
  ·exact d
 refine⟨⟨f.ext,λk y b m d=>f.ob k y b m (g k y d),λk y b m d=>f.lo k y b m (g k y d),λk o y q b u v d t=>f.inj k o y q b u v (g k y d) (g o q t),f.top,λk j=>?_⟩,auq _,λ_ _=>rfl,auq _,
  λb w x=>⟨rfl,λk y m j d=>?_⟩,λk y j d=>⟨y,g k y d,rfl⟩,λk y j d n=>?_⟩
 ·rw[l];split
  ·rfl
  ·exact f.DZ k j
 ·have:=g k y d;rw[f.DZ k j]at this;cases this
 ·rw[l,aun]
  ·exact d
  ·intro e;subst e;rw[r]at d;cases d;rw[s]at n;cases n
def HR.move{ρ:Nm}{h E:KH}(g:HR P w0 ρ h a i){l b0 j:Nat}{n:c5}(x:c5)(m:h l=some n)(t:ρ l=some (b0,j))(w:n.wr=true)(Q:x.wr=true)
 (A:∀k,E k=if k=a then some x else if k=l then none else h k) (M:Ext w0 C) (L:C.heap.size=i.heap.size) (G:∀b,b≠b0->C.heap[b]? =i.heap[b]?)
 (J:BR P (λk=>if k=a then some (b0,j)else ρ k) C b0 j x):
 KP P w0 ρ h a i (λk=>if k=a then some (b0,j)else ρ k) E (a+1) C:=by
 have O:=g.lth m;have K:Bp ρ (λk=>if k=a then some (b0,j)else ρ k):=λk p c=>by
  have:=g.lt c;simp only;rw[aun bv];exact c
 have r:∀k y,¬k=a->E k=some y->h k=some y/\¬k=l:=λk y f d=>by
  rw[A,aun f]at d;split at d
  ·cases d
  ·rename_i o;exact⟨d,o⟩
 refine⟨⟨M,λk y b z d c=>?_,λk y b z d c=>?_,λk u y D b H I d B c s v=>?_,λk c=>?_,λk c=>?_⟩,Nat.le_succ _,λk c=>?_,Nat.le_of_eq L.symm,λb N F=>⟨G b ?_,λk y z c d=>?_⟩,λk y c d=>?_,λk y c d v=>?_⟩
 ·skip
  by_cases f:k=a
  ·rw[auo f]at c;rw[A,auo f]at d;cases d;cases c;exact J
  ·rw[aun f]at c
   obtain⟨d,o⟩:=r k y f d;exact(g.ob k y b z d c).mono K (G b λe=>o (by subst e;exact(g.inj l k n y b j z m d t c w).symm))
 ·skip
  by_cases f:k=a
  ·rw[auo f]at c;cases c;exact g.lo l n b0 j m t
  ·rw[aun f]at c
   exact g.lo k y b z (r k y f d).1 c
 ·skip
  by_cases f:k=a
  ·by_cases q:u=a
   ·rw[f,q]
   ·rw[auo f]at c;rw[aun q]at s
    cases c;obtain⟨B,o⟩:=r u D q B;exact absurd (g.inj l u n D b0 j I m B t s w).symm o
  ·rw[aun f]at c
   obtain⟨d,o⟩:=r k y f d;by_cases q:u=a
   ·rw[auo q]at s
    cases s;exact absurd (g.inj k l y n b0 H j d m c t v) o
   ·rw[aun q]at s
    exact g.inj k u y D b H I d (r u D q B).1 c s v
 ·rw[aun bv];exact g.top k bv
 ·rw[A,aun bv,aun bv];exact g.DZ k bv
 ·rw[aun bv]
 ·intro e;subst e;exact F l n j m w t
 ·by_cases f:k=a
  ·rw[auo f];intro e;cases e;exact F l n j m w t
  ·have:=(r k y f d).1;rw[g.DZ k c]at this;cases this
 ·have:=r k y bv d;exact⟨y,this.1,rfl⟩
 ·rw[A,aun bv,aun]
  ·exact d
  ·intro e;subst e;rw[m]at d;cases d;rw[w]at v;cases v
