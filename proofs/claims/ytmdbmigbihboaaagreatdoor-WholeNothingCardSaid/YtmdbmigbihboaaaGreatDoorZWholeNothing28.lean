/- part 28 -/
import Derived.Test.YtmdbmigbihboaaaGreatDoorZWholeNothing27
set_option linter.all false
noncomputable section
open Go Go.RowKit
open IntKind (wrap)
set_option maxRecDepth 100000
namespace Go.Proofs.YtmdbmigbihboaaaGreatDoor
def aeJ{h:World}(a:∀b o u,GT b o u->h.cell? ⟨b,o,none⟩=some u):∃f g,FC Tryz.prog h 4 [] .lf 0 (.v (.bool true)) f g:=by
 have d:=ahY a;have j:MOk Tryz.prog h (jt []):=MOk.nil;have k:=j.cons (e:=Fx) (er mixed vP a d j wr0);have t:=k.cons (e:=FL) (er mixed vP a d k wr1);have v:=t.cons (e:=F1) (er mixed vP a d t wr2);have w:=v.cons (e:=H5) (er mixed vP a d v wr3);have x:=w.cons (e:=Ke) (er mixed vP a d w wr4);have y:=x.cons (e:=Kk) (er mixed vP a d x wr5);have z:=y.cons (e:=O_) (er mixed vP a d y wr6);have A:=z.cons (e:=Pj) (er mixed vP a d z wr7);have B:=A.cons (e:=RD) (er mixed vP a d A wr8);have l:=B.cons (e:=WC) (er mixed vP a d B wr9);have m:=l.cons (e:=Ai) (er mixed vP a d l aoW);have n:=m.cons (e:=BL) (er mixed vP a d m aoX);have p:=n.cons (e:=Fy) (er mixed vP a d n aoY);have q:=p.cons (e:=F2) (er mixed vP a d p aoZ);have r:=q.cons (e:=Kf) (er mixed vP a d q ao0);have s:=r.cons (e:=Pa) (er mixed vP a d r ao1);have D:=s.cons (e:=RE) (er mixed vP a d s ao2);obtain⟨c,f,g,C,i⟩:=sK mixed vP a d D 3000 4 [] .lf 0 _ 0 wr;split at i
 ·exact⟨f,g,C⟩
 ·cases i
noncomputable def Pb(N:Nat):Unit->Option Bool:=λ_=>some true
noncomputable def Bu:CO:=⟨λN=>⟨4,[],[],[],Bool,Pb N,λy _ k=>k (.sc .b y) [],false,true⟩,λN=>by
 refine⟨λ_=>rfl,λx y q=>⟨.sc .b true,[],λR k=>?_,λ_=>rfl,λ_=>⟨rfl,rfl⟩,?_⟩⟩
 ·cases q;rfl
 refine⟨kC yZ y0 4 (by decide),λB Rd e w c l m=>?_⟩;have a:SR B Rd e [] w:=l;have n:LR (VR (bO B Rd e [] w) (some e)) [] c:=m;have j:c=[]:=aqT n.1;subst j;have d:∀b o u,GT b o u->w.cell? ⟨b,o,none⟩=some u:=λb o u h=>(a.CM h).1;obtain⟨r,s,f⟩:=aeJ d;refine(f.2 (λ_=>none) w [] (aeE w) ⟨rfl,by simp⟩).mono λx t p=>?_;obtain⟨v,z,rfl,g,i⟩:=p;rw[i.bN];exact⟨_,e,rfl,(a.later g.hr.ext).1,.v⟩⟩
noncomputable def lD(N:Nat):List iZ:=[Bu.c N,ac7.c N,y5.c N,ac8.c N,QF.c N,ac9.c N]
def mz:Pl:=.z
def fo:PS:=⟨[(6,.h .b)],[],[.b]⟩
noncomputable def fq(N:Nat):Int×(List (Int×(Int×(Int×Bool))))×Int×Int×Int×bh×(List (Int×(Int×Int)))×Int->eA:=exF T lD N (gV Tryz.f3) 130 mz [.ag [.h (.i .i64),.h (.sl (.pr (.i .i64) (.pr (.i .i64) (.pr (.i .i64) .b)))),.h (.i .i64),.h (.i .i64)],.ag [.h (.i .i64),.h (.sl (.pr (.i .i64) (.i .i64))),.h (.sl (.pr (.i .i64) (.pr (.i .i64) (.i .i64))))],.h (.i .u8)] [] [(.i .i64),(.sl (.pr (.i .i64) (.pr (.i .i64) (.pr (.i .i64) .b)))),(.i .i64),(.i .i64),(.i .i64),(.sl (.pr (.i .i64) (.i .i64))),(.sl (.pr (.i .i64) (.pr (.i .i64) (.i .i64)))),(.i .u8)] fo
noncomputable def iW(N:Nat):iZ:=⟨3,[.ag [.h (.i .i64),.h (.sl (.pr (.i .i64) (.pr (.i .i64) (.pr (.i .i64) .b)))),.h (.i .i64),.h (.i .i64)],.ag [.h (.i .i64),.h (.sl (.pr (.i .i64) (.i .i64))),.h (.sl (.pr (.i .i64) (.pr (.i .i64) (.i .i64))))],.h (.i .u8)],[],[(.i .i64),(.sl (.pr (.i .i64) (.pr (.i .i64) (.pr (.i .i64) .b)))),(.i .i64),(.i .i64),(.i .i64),(.sl (.pr (.i .i64) (.i .i64))),(.sl (.pr (.i .i64) (.pr (.i .i64) (.i .i64)))),(.i .u8)],ky fo.c,fq N,λy _ k=>k (vl T (eX 130 fo y) Tryz.f3.results.toList) (fD [] (eX 130 fo y).h),false,true⟩
def qN N s f j k x g h own:fq (N+1) (s,f,j,k,x,g,h,own)=cond (30<(List.length f:Int))
 (some true)
 (cond (12<s)
  (some true)
  (cond (30<(wrap .i64 ((List.length g:Int)+(List.length h:Int))))
   (some true)
   (aW (zQ N ()) λc=>
    aW (jN N (s,f,j,k,x,g,h,c.1,c.2.1,c.2.2.1,c.2.2.2.1,c.2.2.2.2)) λa=>
    cond (!(a.2.2.2.2.1=0))
     (aW (Jq N (a.1,a.2.1,a.2.2.1,a.2.2.2.1,s,f,j,k)) λo=>
      some o)
     (aW (zQ N ()) λd=>
      aW (jN N (a.1,a.2.1,a.2.2.1,a.2.2.2.1,x,g,h,d.1,d.2.1,d.2.2.1,d.2.2.2.1,d.2.2.2.2)) λb=>
      cond (!(b.2.2.1=(wrap .i64 (a.2.2.1+1))))
       (some (decide (b.2.2.2.2.1=1)))
       (aW (FQ (wrap .i64 own) s) λl=>
        aW (zQ N ()) λe=>
        aW (jN N (a.1,a.2.1,a.2.2.1,a.2.2.2.1,1,[(l,l)],[],e.1,e.2.1,e.2.2.1,e.2.2.2.1,e.2.2.2.2)) λi=>
        cond (b.2.2.2.2.1=0)
         (cond (b.2.2.2.2.2.1=0)
          (aW (zT N (b.1,b.2.1,a.1,a.2.1)) λp=>
           cond p
            (aW (Jr N (b.2.2.2.2.2.2,a.2.2.2.2.2.2)) λm=>
             cond m
              (cond (i.2.2.2.2.1=0)
               (cond (i.2.2.2.2.2.1=0)
                (aW (zT N (i.1,i.2.1,a.1,a.2.1)) λn=>
                 some n)
                (some false))
               (some false))
              (some false))
            (some false))
          (some false))
         (some false)))))):=by kernel_rfl
def qO(N:Nat):(iW N).ok Tryz.prog:=rl (T:=T) (CT:=lD) (N:=N) (λM=>⟨vP,(fe (Bu.ok M) (fe (ac7.ok M) (fe (y5.ok M) (fe (ac8.ok M) (fe (QF.ok M) (fe (ac9.ok M) kf)))))),mixed,Ay⟩) atF (by kernel_rfl) (by kernel_rfl) mz [.ag [.h (.i .i64),.h (.sl (.pr (.i .i64) (.pr (.i .i64) (.pr (.i .i64) .b)))),.h (.i .i64),.h (.i .i64)],.ag [.h (.i .i64),.h (.sl (.pr (.i .i64) (.i .i64))),.h (.sl (.pr (.i .i64) (.pr (.i .i64) (.i .i64))))],.h (.i .u8)] [] [(.i .i64),(.sl (.pr (.i .i64) (.pr (.i .i64) (.pr (.i .i64) .b)))),(.i .i64),(.i .i64),(.i .i64),(.sl (.pr (.i .i64) (.i .i64))),(.sl (.pr (.i .i64) (.pr (.i .i64) (.i .i64)))),(.i .u8)] fo false true [] (by kernel_rfl) (λy=>by kernel_rfl) (λ_=>⟨rfl,rfl⟩) (λy=>by kernel_rfl) (fq N) (λx=>by kernel_rfl)
variable{a:Nat}
section
open Go Go.RowKit Go.Sort
def H7{N:Nat}(hN:Fu+46<=N){w:WV}(E:Dd.Bp w.1 w.2.1 w.2.2.1 w.2.2.2.1 w.2.2.2.2){c:List ca}{j B:Int}(s:StR ((a:Int),c,j,B)){k:Int}{es:bh}{qs:ju}(u:WR k es qs)(hv:∀v∈uZ es qs,v<(a:Int)){an:aX}
 (D:(k=3/\uW (N+1) ((a:Int),c,qs)=some (0,an))\/∃(t:Nat) (f:bh),t<=7000000/\Ed N (es,w)=some ((t:Int),0,f)/\f.length<=60/\(∀x∈f,lM (a:Int) x)/\an=[]/\
  ((k=2/\∀e∈cN c,e∉f.map dm)\/k=1/\∀e∈f.map dm,e.1<e.2->e∈cN c)):
 ∃a7,qG (N+1) ((a:Int),c,j,B) (k,es,qs) w=some (((a:Int),c,j+1,a7),0,0,an):=by
 obtain⟨I,J,O,P,pk⟩:=w;simp only at E;have hF:=bQ;have g:=s.1.2;simp only[ap2]at g;have U:=s.2.1;simp only at U;have a9:=g.len;obtain⟨b,S,X⟩:=HT (N:=N+1) (by omega) ((a:Int),c,j,B) (by simp only;omega);obtain rfl:=X.2 s;have a8:es.length<=60:=by
  rcases u with⟨_,_,h,_⟩|⟨_,rfl,_⟩
  ·exact h
  ·simp
 have a4:qs.length<=60:=by
  rcases u with⟨_,rfl,_⟩|⟨_,_,h,_⟩
  ·simp
  ·exact h
 obtain⟨b1,K,i1⟩:=z_ (N:=N) (by omega) k es qs (by omega) (by omega);obtain rfl:=i1.2 u;have aa:=HO es qs (by omega) (by omega);obtain⟨b2,L,i2⟩:=ON (N:=N) (by omega) (a:Int) c (uZ es qs) (by omega);obtain rfl:=i2.2 hv;have V:∃(t:Nat) (i:ju),t<=7000000/\oC (N+1) ((a:Int),c,k,es,qs,I,J,O,P,pk)=some ((t:Int),0,k,[],i)/\i.length<=60/\(k=3->i=qs):=by
  rw[Ek,g.right (by omega),ob];simp only[ap9,apW];rw[K,ob];simp only[ap9,apW];rw[V8 (by omega) _ _ _ (by omega) (by omega),ob,L,ob];simp only;rw[apW,cd];rcases D with⟨rfl,_⟩|⟨t,f,A,y,Z,eW,_,⟨rfl,p⟩|⟨rfl,p⟩⟩
  ·rw[apR rfl];exact⟨0,qs,by omega,rfl,a4,λ_=>rfl⟩
  ·rw[apQ (by decide),y,ob,y6 rfl,eh rfl]
   simp only;rcases CC (N:=N) (by omega) g f (by omega)with⟨_,o⟩|⟨r,n,_,_,q⟩
   ·exact absurd eW o
   ·have:r=[]:=by
     rw[arz];intro x d;exact p x ((q x).1 d).1 ((q x).1 d).2
    subst this;rw[n,ob];exact⟨t,[],A,rfl,by simp,λh=>(by cases h)⟩
  ·rw[apQ (by decide),y,ob,y6 rfl,dX (by decide)]
   simp only;have a6:Ej N ((a:Int),c)=some (400 - ((c.length:Nat):Int)):=by
    obtain⟨M,rfl⟩:∃M,N=M+1:=⟨N - 1,by omega⟩;rw[He,g.right (by omega),ob];simp only[ap9,apW];rw[gT (by omega) (by omega)]
   rcases QZ (N:=N) (by omega) g f (by omega)with⟨_,o⟩|⟨C,n,Q⟩
   ·exact absurd eW o
   ·have:C=[]:=by
     rw[arz];intro x d;obtain⟨F,G,H⟩:=(Q.mem x).1 d;exact H (p x G F)
    subst this;rw[n,ob,a6,ob,cd];simp only[aqI];rw[apQ (by omega)];exact⟨t,[],A,rfl,by simp,λh=>(by cases h)⟩
 obtain⟨t,i,A,W,a5,a0⟩:=V;obtain⟨m,us,hp,hm,Y⟩:=E.o i.length a5;unfold qG;rw[S,ob,aqh];simp only;rw[W,ob];simp only;rw[eh trivial,aqI,show wrap .i64 (((0:Nat):Int)+((i.length:Nat):Int))=((i.length:Nat):Int) by rw[gT (by omega) (by omega)];omega,Y (N+1) (by omega),ob,eh rfl,show wrap .i64 (j+1)=j+1 from gT (by omega) (by omega)];simp only;rcases D with⟨rfl,R⟩|⟨t,f,_,y,Z,eW,rfl,⟨rfl,p⟩|⟨rfl,p⟩⟩
 ·obtain rfl:=a0 rfl
  rw[dX (by decide),dX (by decide),eh rfl,R,ob,eh rfl];exact⟨_,rfl⟩
 ·rw[dX (by decide),eh rfl]
  have z:∃all,pM (N+1) ((a:Int),c,[])=some (0,(a:Int),c,all):=by
   obtain⟨M,rfl⟩:∃M,N=M+1:=⟨N - 1,by omega⟩;rw[Hq];rcases CC (N:=M+1) (by omega) g [] (by simp)with⟨_,o⟩|⟨r,n,_,_,q⟩
   ·exact absurd (λx d=>by cases d) o
   ·have:r=[]:=by
     rw[arz];intro x d;have:=((q x).1 d).2;simp at this
    subst this;rw[n,ob,y6 rfl];simp only[aqI];rw[vz,dX (by omega),ob];exact⟨_,rfl⟩
  obtain⟨all,z⟩:=z;rw[z,ob,eh rfl];exact⟨_,rfl⟩
 ·rw[eh rfl]
  have:=adL (N:=N+1) (by omega) g (l:=[]) (by simp) (λx d=>by cases d) (λC h=>by
   rw[arz];intro x d;have:=((h.mem x).1 d).2.1;simp at this)
  rw[this,ob,eh rfl];exact⟨_,rfl⟩
end
section
open Go Go.RowKit Go.Sort
def Pc(g:Fu+3<=a)(n:Int)(c:List ca)(j:c.length<=100000):zT a (n,c,n,c)=some true:=by
 obtain⟨a,rfl⟩:∃M,a=M+1:=⟨a - 1,by omega⟩;have f:=bQ;have h:=lpv (F:=λm k (_:Unit)=>yi a m ((k:Int),n,c,n,c)) (n:=c.length) (I:=λ_ _=>True) (b:=.inl ()) (λm k s d _=>by
  obtain⟨x,e⟩:=get_at (xs:=c) d;refine⟨(),trivial,?_⟩;rw[EC,eh (by omega),bd e,ob,ob];simp only[aq0,ato,aur,ap9,apW];rw[cE (by omega)]) (λm s _=>by rw[EC,dX (by omega)]) (m:=a) (i:=0) (s:=()) (by omega) (by omega) trivial
 rw[show((0:Nat):Int)=(0:Int)from rfl]at h;rw[Yi,y6 rfl,y6 rfl,h,ob]
def aeK(f:Fu+4<=a)(n:Int)(b:List ca)(c d:Int)(e:b.length<=100000):Jq a (n,b,c,d,n,b,c,d)=some true:=by
 obtain⟨a,rfl⟩:∃M,a=M+1:=⟨a - 1,by omega⟩;rw[Yj,Pc (by omega) n b e,ob,aqh,eh rfl,aqk rfl]
def Pd{n:Int}{f:List ca}{b e k:Int}{c:bh}{d:ju}{w:WV}{y:SV×RV}(h:qG (a+1) (n,f,b,e) (k,c,d) w=some y):
 jN a (n,f,b,e,k,c,d,w)=some (y.1.1,y.1.2.1,y.1.2.2.1,y.1.2.2.2,y.2.1,y.2.2.1,y.2.2.2):=by
 show Option.map _ (qG (a+1) (n,f,b,e) (k,c,d) w)=_;rw[h];rfl
def sM:Dd.Bp 8 3 2 3 [(0,1),(1,0),(2,0)]:=⟨by decide,by decide,Dd.amI (g:=2) (P:=3) (by decide) (by decide) (by decide) (by decide) (by decide)⟩
def BM{N:Nat}(hN:Fu+60<=N)(n:Int)(q:List ca)(c z k:Int)(g:bh)(f:ju)(own:Int)(he:g.length<=reachBytes)(hq:f.length<=reachBytes)(h0:0<=own)(D:own<=255):
 fq N (n,q,c,z,k,g,f,own)=some true:=by
 obtain⟨N,rfl⟩:∃M,N=M+1:=⟨N - 1,by omega⟩;have hF:=bQ;have aa:reachBytes=140737488351232:=rfl;have U:zQ N ()=some (8,3,2,3,[(0,1),(1,0),(2,0)]):=by
  obtain⟨M,rfl⟩:∃M,N=M+1:=⟨N - 1,by omega⟩;exact Yh M
 rw[qN,cd];by_cases A:(30:Int)<((q.length:Nat):Int)
 ·rw[apR A]
 rw[apQ A,cd];by_cases B:(12:Int)<n
 ·rw[apR B]
 rw[apQ B,gT (by omega) (by omega),cd];by_cases C:(30:Int)<((g.length:Nat):Int)+((f.length:Nat):Int)
 ·rw[apR C]
 rw[apQ C,U,ob];simp only;obtain⟨e,h⟩:=V_ (N:=N) (by omega) (w:=(8,3,2,3,[(0,1),(1,0),(2,0)])) sM (n,q,c,z) (by simp only;omega) k g f (by omega) (by omega);rcases h with⟨d,X,_,_⟩|⟨P,l,O,ch,L,m,G,y,d,j⟩
 ·rw[Pd d,ob]
  simp only;rw[cnF X,aeK (by omega) n q c z (by omega),ob]
 ·simp only at G d
  subst G;have a7:0<=c/\c<=1099511627776:=P.2.1;have a9:=y.hi;have a8:=y.lo;have ab:=j.len;have a6:m.length<=100000:=by
   rcases j.res with⟨_,_,_,u⟩|⟨_,_,_,_,_,_,rfl,_⟩
   ·have a0:f.length<=1000:=by omega
    obtain⟨r,J,W⟩:=Fg (N:=N+1) (by omega) y f a0;rw[u]at J;cases J;simp only at W;omega
   ·simp
  rw[Pd d,ob];simp only;rw[y6 trivial,ob];simp only;by_cases p:StR ((l:Int),O,c+1,L)
  ·obtain⟨ad,i⟩:=H7 (N:=N) (by omega) (w:=(8,3,2,3,[(0,1),(1,0),(2,0)])) sM p j.wr j.vt (an:=m) (by
    rcases j.res with⟨s,rfl,_,u⟩|⟨t,K,d,F,H,eW,E,⟨i,_,Y,_⟩|⟨i,V,_⟩⟩
    ·exact .inl ⟨s,u⟩
    ·exact .inr ⟨t,K,d,F,H,eW,E,.inl ⟨i,Y⟩⟩
    ·exact .inr ⟨t,K,d,F,H,eW,E,.inr ⟨i,V⟩⟩)
   rw[Pd i,ob];simp only;rw[gT (by omega) (by omega),y6 rfl];obtain⟨v,hv,ac⟩:∃v:Nat,FQ (wrap .i64 own) (l:Int)=some (v:Int)/\v<l:=⟨own.toNat % l,ajN (a:=own.toNat) (by omega) (by omega) (by omega) (by omega),asb _ (by omega)⟩;rw[hv,ob,ob];simp only;obtain⟨t,e3,o,a5,R,_,I,S⟩:=Dd.OS (N:=N) (by omega) sM [((v:Int),(v:Int))] (by simp);have Z:o=[]:=by
    rw[<-auk];simp at I;simp[I]
   subst Z;obtain rfl:=S (λx b=>by rw[aqe]at b;subst b;simp only;omega);obtain⟨ae,s⟩:=H7 (N:=N) (by omega) (w:=(8,3,2,3,[(0,1),(1,0),(2,0)])) sM p (k:=1) (es:=[((v:Int),(v:Int))]) (qs:=[]) (.inl ⟨.inl rfl,rfl,by simp,λx b=>by
    rw[aqe]at b;subst b;unfold OM Rc;simp only;omega⟩) (λx b=>by simp[uZ]at b;subst b;omega) (an:=[])
    (.inr ⟨t,[],a5,R,by simp,(λx b=>by cases b),rfl,.inr ⟨rfl,λx b=>by cases b⟩⟩)
   rw[Pd s,ob];simp only;rw[eh trivial,eh trivial,Pc (by omega) _ _ (by omega),ob,aqh,age N (by omega) m m (by omega),ob];simp only[aq0,aqh,ob]
  ·obtain⟨e2,h⟩:=V_ (N:=N) (by omega) (w:=(8,3,2,3,[(0,1),(1,0),(2,0)])) sM ((l:Int),O,c+1,L) (by simp only;omega) k g f (by omega) (by omega)
   rcases h with⟨a4,_,D,_⟩|⟨Q,_⟩
   ·rw[Pd a4,ob]
    simp only;rw[cnF (by rw[gT (by omega) (by omega)];omega),aqk (D p)]
   ·exact absurd Q p
