/- part 28 -/
import Derived.Test.YtmdbmigbihboaaaGreatDoorZWholeNothing27
set_option linter.all false
noncomputable section
open Go Go.RowKit
open IntKind (wrap)
set_option maxRecDepth 100000
namespace Go.Proofs.YtmdbmigbihboaaaGreatDoor
def aeB{h:World}(a:∀b o u,GT b o u->h.cell? ⟨b,o,none⟩=some u):∃f g,FC Tryz.prog h 4 [] .lf 0 (.v (.bool true)) f g:=by
 have d:=ahY a;have j:MOk Tryz.prog h (jj []):=MOk.nil;have k:=j.cons (e:=Fp) (d_ mixed vK a d j wr0);have t:=k.cons (e:=FB) (d_ mixed vK a d k wr1);have v:=t.cons (e:=FV) (d_ mixed vK a d t wr2);have w:=v.cons (e:=HY) (d_ mixed vK a d v wr3);have x:=w.cons (e:=J8) (d_ mixed vK a d w wr4);have y:=x.cons (e:=Kd) (d_ mixed vK a d x wr5);have z:=y.cons (e:=OY) (d_ mixed vK a d y wr6);have A:=z.cons (e:=O8) (d_ mixed vK a d z wr7);have B:=A.cons (e:=Rp) (d_ mixed vK a d A wr8);have l:=B.cons (e:=Wr) (d_ mixed vK a d B wr9);have m:=l.cons (e:=Ab) (d_ mixed vK a d l ao8);have n:=m.cons (e:=BF) (d_ mixed vK a d m ao9);have p:=n.cons (e:=Fq) (d_ mixed vK a d n ao_);have q:=p.cons (e:=FW) (d_ mixed vK a d p apa);have r:=q.cons (e:=J9) (d_ mixed vK a d q apb);have s:=r.cons (e:=OZ) (d_ mixed vK a d r apc);have D:=s.cons (e:=Rq) (d_ mixed vK a d s apd);obtain⟨c,f,g,C,i⟩:=sF mixed vK a d D 3000 4 [] .lf 0 _ 0 wr;split at i
 ·exact⟨f,g,C⟩
 ·cases i
noncomputable def O0(N:Nat):Unit->Option Bool:=λ_=>some true
noncomputable def Bl:CO:=⟨λN=>⟨4,[],[],[],Bool,O0 N,λy _ k=>k (.sc .b y) [],false,true⟩,λN=>by
 refine⟨λ_=>rfl,λx y hxy=>⟨.sc .b true,[],λR k=>?_,λ_=>rfl,λ_=>⟨rfl,rfl⟩,?_⟩⟩
 ·cases hxy;rfl
 refine⟨kq yS yT 4 (by decide),λB Rd e w vs hs hv=>?_⟩;have hs':SR B Rd e [] w:=hs;have hv':LR (VR (bF B Rd e [] w) (some e)) [] vs:=hv;have ape:vs=[]:=arh hv'.1;subst ape;have hG:∀b o u,GT b o u->w.cell? ⟨b,o,none⟩=some u:=λb o u h=>(hs'.CD h).1;obtain⟨h',n',hfc⟩:=aeB hG;refine(hfc.2 (λ_=>none) w [] (aew w) ⟨rfl,by simp⟩).mono λx w' hx=>?_;obtain⟨v,ρ',rfl,hkp,hkv⟩:=hx;rw[hkv.bE];exact⟨_,e,rfl,(hs'.later hkp.hr.ext).1,.v⟩⟩
def lz(N:Nat):List iS:=[Bl.c N,acZ.c N,yU.c N,ac0.c N,Qt.c N,ac1.c N]
def mu:Pl:=.z
def e8:PS:=⟨[(6,.h .b)],[],[.b]⟩
def e9(N:Nat):Int×(List (Int×(Int×(Int×Bool))))×Int×Int×Int×(List (Int×Int))×(List (Int×(Int×Int)))×Int->Option (Bool):=exF T lz N (gJ Tryz.f3) 130 mu [.ag [.h (.i .i64),.h (.sl (.pr (.i .i64) (.pr (.i .i64) (.pr (.i .i64) .b)))),.h (.i .i64),.h (.i .i64)],.ag [.h (.i .i64),.h (.sl (.pr (.i .i64) (.i .i64))),.h (.sl (.pr (.i .i64) (.pr (.i .i64) (.i .i64))))],.h (.i .u8)] [] [(.i .i64),(.sl (.pr (.i .i64) (.pr (.i .i64) (.pr (.i .i64) .b)))),(.i .i64),(.i .i64),(.i .i64),(.sl (.pr (.i .i64) (.i .i64))),(.sl (.pr (.i .i64) (.pr (.i .i64) (.i .i64)))),(.i .u8)] e8
def iP(N:Nat):iS:=⟨3,[.ag [.h (.i .i64),.h (.sl (.pr (.i .i64) (.pr (.i .i64) (.pr (.i .i64) .b)))),.h (.i .i64),.h (.i .i64)],.ag [.h (.i .i64),.h (.sl (.pr (.i .i64) (.i .i64))),.h (.sl (.pr (.i .i64) (.pr (.i .i64) (.i .i64))))],.h (.i .u8)],[],[(.i .i64),(.sl (.pr (.i .i64) (.pr (.i .i64) (.pr (.i .i64) .b)))),(.i .i64),(.i .i64),(.i .i64),(.sl (.pr (.i .i64) (.i .i64))),(.sl (.pr (.i .i64) (.pr (.i .i64) (.i .i64)))),(.i .u8)],kf e8.c,e9 N,λy _ k=>k (vf T (eL 130 e8 y) Tryz.f3.results.toList) (fo [] (eL 130 e8 y).h),false,true⟩
def qJ N s f j k x g h own:e9 (N+1) (s,f,j,k,x,g,h,own)=cond (30<(List.length f:Int))
 (some true)
 (cond (12<s)
  (some true)
  (cond (30<(wrap .i64 ((List.length g:Int)+(List.length h:Int))))
   (some true)
   (aW (zI N ()) λc=>
    aW (jF N (s,f,j,k,x,g,h,c.1,c.2.1,c.2.2.1,c.2.2.2.1,c.2.2.2.2)) λa=>
    cond (!(a.2.2.2.2.1=0))
     (aW (Jj N (a.1,a.2.1,a.2.2.1,a.2.2.2.1,s,f,j,k)) λo=>
      some o)
     (aW (zI N ()) λd=>
      aW (jF N (a.1,a.2.1,a.2.2.1,a.2.2.2.1,x,g,h,d.1,d.2.1,d.2.2.1,d.2.2.2.1,d.2.2.2.2)) λb=>
      cond (!(b.2.2.1=(wrap .i64 (a.2.2.1+1))))
       (some (decide (b.2.2.2.2.1=1)))
       (aW (FJ (wrap .i64 own) s) λl=>
        aW (zI N ()) λe=>
        aW (jF N (a.1,a.2.1,a.2.2.1,a.2.2.2.1,1,[(l,l)],[],e.1,e.2.1,e.2.2.1,e.2.2.2.1,e.2.2.2.2)) λi=>
        cond (b.2.2.2.2.1=0)
         (cond (b.2.2.2.2.2.1=0)
          (aW (zJ N (b.1,b.2.1,a.1,a.2.1)) λp=>
           cond p
            (aW (Jk N (b.2.2.2.2.2.2,a.2.2.2.2.2.2)) λm=>
             cond m
              (cond (i.2.2.2.2.1=0)
               (cond (i.2.2.2.2.2.1=0)
                (aW (zJ N (i.1,i.2.1,a.1,a.2.1)) λn=>
                 some n)
                (some false))
               (some false))
              (some false))
            (some false))
          (some false))
         (some false)))))):=by kernel_rfl
def qK(N:Nat):(iP N).ok Tryz.prog:=rh (T:=T) (CT:=lz) (N:=N) (λM=>⟨vK,(eX (Bl.ok M) (eX (acZ.ok M) (eX (yU.ok M) (eX (ac0.ok M) (eX (Qt.ok M) (eX (ac1.ok M) jV)))))),mixed,Ap⟩) at5 (by kernel_rfl) (by kernel_rfl) mu [.ag [.h (.i .i64),.h (.sl (.pr (.i .i64) (.pr (.i .i64) (.pr (.i .i64) .b)))),.h (.i .i64),.h (.i .i64)],.ag [.h (.i .i64),.h (.sl (.pr (.i .i64) (.i .i64))),.h (.sl (.pr (.i .i64) (.pr (.i .i64) (.i .i64))))],.h (.i .u8)] [] [(.i .i64),(.sl (.pr (.i .i64) (.pr (.i .i64) (.pr (.i .i64) .b)))),(.i .i64),(.i .i64),(.i .i64),(.sl (.pr (.i .i64) (.i .i64))),(.sl (.pr (.i .i64) (.pr (.i .i64) (.i .i64)))),(.i .u8)] e8 false true [] (by kernel_rfl) (λy=>by kernel_rfl) (λ_=>⟨rfl,rfl⟩) (λy=>by kernel_rfl) (e9 N) (λx=>by kernel_rfl)
variable{a:Nat}
section
open Go Go.RowKit Go.Sort
def HZ{N:Nat}(hN:Fu+46<=N){w:WV}(E:Dd.Bg w.1 w.2.1 w.2.2.1 w.2.2.2.1 w.2.2.2.2){c:List bT}{j B:Int}(s:StR ((a:Int),c,j,B)){k:Int}{es:List (Int×Int)}{qs:List (Int×Int×Int)}(u:WR k es qs)(hv:∀v∈uU es qs,v<(a:Int)){an:List Int}
 (D:(k=3/\uR (N+1) ((a:Int),c,qs)=some (0,an))\/∃(t:Nat) (f:List (Int×Int)),t<=7000000/\D8 N (es,w)=some ((t:Int),0,f)/\f.length<=60/\(∀x∈f,lI (a:Int) x)/\an=[]/\
  ((k=2/\∀e∈cD c,e∉f.map c_)\/k=1/\∀e∈f.map c_,e.1<e.2->e∈cD c)):
 ∃a7,qw (N+1) ((a:Int),c,j,B) (k,es,qs) w=some (((a:Int),c,j+1,a7),0,0,an):=by
 obtain⟨I,J,O,P,pk⟩:=w;simp only at E;have hF:=bH;have g:=s.1.2;simp only[aqo]at g;have U:=s.2.1;simp only at U;have a9:=g.len;obtain⟨b,S,X⟩:=HN (N:=N+1) (by omega) ((a:Int),c,j,B) (by simp only;omega);obtain rfl:=X.2 s;have a8:es.length<=60:=by
  rcases u with⟨_,_,h,_⟩|⟨_,rfl,_⟩
  ·exact h
  ·simp
 have a4:qs.length<=60:=by
  rcases u with⟨_,rfl,_⟩|⟨_,_,h,_⟩
  ·simp
  ·exact h
 obtain⟨b1,K,i1⟩:=zW (N:=N) (by omega) k es qs (by omega) (by omega);obtain rfl:=i1.2 u;have aa:=HJ es qs (by omega) (by omega);obtain⟨b2,L,i2⟩:=OB (N:=N) (by omega) (a:Int) c (uU es qs) (by omega);obtain rfl:=i2.2 hv;have V:∃(t:Nat) (i:List (Int×Int×Int)),t<=7000000/\ot (N+1) ((a:Int),c,k,es,qs,I,J,O,P,pk)=some ((t:Int),0,k,[],i)/\i.length<=60/\(k=3->i=qs):=by
  rw[Ee,g.right (by omega),ob];simp only[aqv,aqi];rw[K,ob];simp only[aqv,aqi];rw[VY (by omega) _ _ _ (by omega) (by omega),ob,L,ob];simp only;rw[aqi,cd];rcases D with⟨rfl,_⟩|⟨t,f,A,y,Z,eK,_,⟨rfl,p⟩|⟨rfl,p⟩⟩
  ·rw[aqd rfl];exact⟨0,qs,by omega,rfl,a4,λ_=>rfl⟩
  ·rw[aqc (by decide),y,ob,yV rfl,dV rfl]
   simp only;rcases Cw (N:=N) (by omega) g f (by omega)with⟨_,o⟩|⟨r,n,_,_,q⟩
   ·exact absurd eK o
   ·have:r=[]:=by
     rw[arX];intro x d;exact p x ((q x).1 d).1 ((q x).1 d).2
    subst this;rw[n,ob];exact⟨t,[],A,rfl,by simp,λh=>(by cases h)⟩
  ·rw[aqc (by decide),y,ob,yV rfl,dN (by decide)]
   simp only;have a6:Ed N ((a:Int),c)=some (400 - ((c.length:Nat):Int)):=by
    obtain⟨M,rfl⟩:∃M,N=M+1:=⟨N - 1,by omega⟩;rw[G_,g.right (by omega),ob];simp only[aqv,aqi];rw[gG (by omega) (by omega)]
   rcases QM (N:=N) (by omega) g f (by omega)with⟨_,o⟩|⟨C,n,Q⟩
   ·exact absurd eK o
   ·have:C=[]:=by
     rw[arX];intro x d;obtain⟨F,G,H⟩:=(Q.mem x).1 d;exact H (p x G F)
    subst this;rw[n,ob,a6,ob,cd];simp only[aq5];rw[aqc (by omega)];exact⟨t,[],A,rfl,by simp,λh=>(by cases h)⟩
 obtain⟨t,i,A,W,a5,a0⟩:=V;obtain⟨m,us,hp,hm,Y⟩:=E.o i.length a5;unfold qw;rw[S,ob,aqE];simp only;rw[W,ob];simp only;rw[dV trivial,aq5,show wrap .i64 (((0:Nat):Int)+((i.length:Nat):Int))=((i.length:Nat):Int) by rw[gG (by omega) (by omega)];omega,Y (N+1) (by omega),ob,dV rfl,show wrap .i64 (j+1)=j+1 from gG (by omega) (by omega)];simp only;rcases D with⟨rfl,R⟩|⟨t,f,_,y,Z,eK,rfl,⟨rfl,p⟩|⟨rfl,p⟩⟩
 ·obtain rfl:=a0 rfl
  rw[dN (by decide),dN (by decide),dV rfl,R,ob,dV rfl];exact⟨_,rfl⟩
 ·rw[dN (by decide),dV rfl]
  have z:∃all,pJ (N+1) ((a:Int),c,[])=some (0,(a:Int),c,all):=by
   obtain⟨M,rfl⟩:∃M,N=M+1:=⟨N - 1,by omega⟩;rw[Hi];rcases Cw (N:=M+1) (by omega) g [] (by simp)with⟨_,o⟩|⟨r,n,_,_,q⟩
   ·exact absurd (λx d=>by cases d) o
   ·have:r=[]:=by
     rw[arX];intro x d;have:=((q x).1 d).2;simp at this
    subst this;rw[n,ob,yV rfl];simp only[aq5];rw[vu,dN (by omega),ob];exact⟨_,rfl⟩
  obtain⟨all,z⟩:=z;rw[z,ob,dV rfl];exact⟨_,rfl⟩
 ·rw[dV rfl]
  have:=adC (N:=N+1) (by omega) g (l:=[]) (by simp) (λx d=>by cases d) (λC h=>by
   rw[arX];intro x d;have:=((h.mem x).1 d).2.1;simp at this)
  rw[this,ob,dV rfl];exact⟨_,rfl⟩
end
section
open Go Go.RowKit Go.Sort
def O1(g:Fu+3<=a)(n:Int)(c:List bT)(j:c.length<=100000):zJ a (n,c,n,c)=some true:=by
 obtain⟨a,rfl⟩:∃M,a=M+1:=⟨a - 1,by omega⟩;have f:=bH;have h:=lpv (F:=λm k (_:Unit)=>ya a m ((k:Int),n,c,n,c)) (n:=c.length) (I:=λ_ _=>True) (b:=.inl ()) (λm k s d _=>by
  obtain⟨x,e⟩:=get_at (xs:=c) d;refine⟨(),trivial,?_⟩;rw[Ew,dV (by omega),ba e,ob,ob];simp only[arp,atN,auP,aqv,aqi];rw[cn (by omega)]) (λm s _=>by rw[Ew,dN (by omega)]) (m:=a) (i:=0) (s:=()) (by omega) (by omega) trivial
 rw[show((0:Nat):Int)=(0:Int)from rfl]at h;rw[Ya,yV rfl,yV rfl,h,ob]
def aeC(f:Fu+4<=a)(n:Int)(b:List bT)(c d:Int)(e:b.length<=100000):Jj a (n,b,c,d,n,b,c,d)=some true:=by
 obtain⟨a,rfl⟩:∃M,a=M+1:=⟨a - 1,by omega⟩;rw[Yb,O1 (by omega) n b e,ob,aqE,dV rfl,aqH rfl]
def O2{n:Int}{f:List bT}{b e k:Int}{c:List (Int×Int)}{d:List (Int×Int×Int)}{w:WV}{y:SV×RV}(h:qw (a+1) (n,f,b,e) (k,c,d) w=some y):
 jF a (n,f,b,e,k,c,d,w)=some (y.1.1,y.1.2.1,y.1.2.2.1,y.1.2.2.2,y.2.1,y.2.2.1,y.2.2.2):=by
 show Option.map _ (qw (a+1) (n,f,b,e) (k,c,d) w)=_;rw[h];rfl
def sH:Dd.Bg 8 3 2 3 [(0,1),(1,0),(2,0)]:=⟨by decide,by decide,Dd.amR (g:=2) (P:=3) (by decide) (by decide) (by decide) (by decide) (by decide)⟩
def BG{N:Nat}(hN:Fu+60<=N)(n:Int)(q:List bT)(c z k:Int)(g:List (Int×Int))(f:List (Int×Int×Int))(own:Int)(he:g.length<=reachBytes)(hq:f.length<=reachBytes)(h0:0<=own)(D:own<=255):
 e9 N (n,q,c,z,k,g,f,own)=some true:=by
 obtain⟨N,rfl⟩:∃M,N=M+1:=⟨N - 1,by omega⟩;have hF:=bH;have aa:reachBytes=140737488351232:=rfl;have U:zI N ()=some (8,3,2,3,[(0,1),(1,0),(2,0)]):=by
  obtain⟨M,rfl⟩:∃M,N=M+1:=⟨N - 1,by omega⟩;exact X_ M
 rw[qJ,cd];by_cases A:(30:Int)<((q.length:Nat):Int)
 ·rw[aqd A]
 rw[aqc A,cd];by_cases B:(12:Int)<n
 ·rw[aqd B]
 rw[aqc B,gG (by omega) (by omega),cd];by_cases C:(30:Int)<((g.length:Nat):Int)+((f.length:Nat):Int)
 ·rw[aqd C]
 rw[aqc C,U,ob];simp only;obtain⟨e,h⟩:=V0 (N:=N) (by omega) (w:=(8,3,2,3,[(0,1),(1,0),(2,0)])) sH (n,q,c,z) (by simp only;omega) k g f (by omega) (by omega);rcases h with⟨d,X,_,_⟩|⟨P,l,O,ch,L,m,G,y,d,j⟩
 ·rw[O2 d,ob]
  simp only;rw[cnF X,aeC (by omega) n q c z (by omega),ob]
 ·simp only at G d
  subst G;have a7:0<=c/\c<=1099511627776:=P.2.1;have a9:=y.hi;have a8:=y.lo;have ab:=j.len;have a6:m.length<=100000:=by
   rcases j.res with⟨_,_,_,u⟩|⟨_,_,_,_,_,_,rfl,_⟩
   ·have a0:f.length<=1000:=by omega
    obtain⟨r,J,W⟩:=E_ (N:=N+1) (by omega) y f a0;rw[u]at J;cases J;simp only at W;omega
   ·simp
  rw[O2 d,ob];simp only;rw[yV trivial,ob];simp only;by_cases p:StR ((l:Int),O,c+1,L)
  ·obtain⟨ad,i⟩:=HZ (N:=N) (by omega) (w:=(8,3,2,3,[(0,1),(1,0),(2,0)])) sH p j.wr j.vt (an:=m) (by
    rcases j.res with⟨s,rfl,_,u⟩|⟨t,K,d,F,H,eK,E,⟨i,_,Y,_⟩|⟨i,V,_⟩⟩
    ·exact .inl ⟨s,u⟩
    ·exact .inr ⟨t,K,d,F,H,eK,E,.inl ⟨i,Y⟩⟩
    ·exact .inr ⟨t,K,d,F,H,eK,E,.inr ⟨i,V⟩⟩)
   rw[O2 i,ob];simp only;rw[gG (by omega) (by omega),yV rfl];obtain⟨v,hv,ac⟩:∃v:Nat,FJ (wrap .i64 own) (l:Int)=some (v:Int)/\v<l:=⟨own.toNat % l,ajQ (a:=own.toNat) (by omega) (by omega) (by omega) (by omega),asA _ (by omega)⟩;rw[hv,ob,ob];simp only;obtain⟨t,e3,o,a5,R,_,I,S⟩:=Dd.OF (N:=N) (by omega) sH [((v:Int),(v:Int))] (by simp);have Z:o=[]:=by
    rw[<-auI];simp at I;simp[I]
   subst Z;obtain rfl:=S (λx b=>by rw[aqB]at b;subst b;simp only;omega);obtain⟨ae,s⟩:=HZ (N:=N) (by omega) (w:=(8,3,2,3,[(0,1),(1,0),(2,0)])) sH p (k:=1) (es:=[((v:Int),(v:Int))]) (qs:=[]) (.inl ⟨.inl rfl,rfl,by simp,λx b=>by
    rw[aqB]at b;subst b;unfold OA Q0;simp only;omega⟩) (λx b=>by simp[uU]at b;subst b;omega) (an:=[])
    (.inr ⟨t,[],a5,R,by simp,(λx b=>by cases b),rfl,.inr ⟨rfl,λx b=>by cases b⟩⟩)
   rw[O2 s,ob];simp only;rw[dV trivial,dV trivial,O1 (by omega) _ _ (by omega),ob,aqE,agc N (by omega) m m (by omega),ob];simp only[arp,aqE,ob]
  ·obtain⟨e2,h⟩:=V0 (N:=N) (by omega) (w:=(8,3,2,3,[(0,1),(1,0),(2,0)])) sH ((l:Int),O,c+1,L) (by simp only;omega) k g f (by omega) (by omega)
   rcases h with⟨a4,_,D,_⟩|⟨Q,_⟩
   ·rw[O2 a4,ob]
    simp only;rw[cnF (by rw[gG (by omega) (by omega)];omega),aqH (D p)]
   ·exact absurd Q p
