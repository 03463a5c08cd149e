/- part 7 -/
import Derived.Test.YtmdbmigbihboaaaGreatDoorZWholeNothing6
set_option linter.all false
noncomputable section
open Go Go.RowKit
open IntKind (wrap)
set_option maxRecDepth 100000
namespace Go.Proofs.YtmdbmigbihboaaaGreatDoor.Sp
abbrev Tk:=Int×Int×Int×Int
def iq(a:List Tk)(L:aX)(i:Nat):Bool:= !(decide ((i:Int)∈L)) && (match a[i]? with
 |some t=>decide (t.2.2.2=0)
 |none=>false)
def vH(a:List Tk)(L:aX)(j:Int)(i:Nat):Bool:=(match a[i]? with
 |some t=>decide (t.2.2.1=j)
 |none=>false) && !(iq a L i)
def jS(a:List Tk)(L:aX)(j:Int):Nat:=(List.range a.length).countP (vH a L j)
structure Tree(n:Nat)(ts:List Tk)(L:aX)(p:Int):Prop where
 ne:0<ts.length
 sh:∀(i:Nat) t,ts[i]? =some t->0<=t.1/\t.1<t.2.1/\t.2.1<=(n:Int)/\-1<=t.2.2.1/\t.2.2.1<(i:Int)/\(0<i->0<=t.2.2.1)/\0<=t.2.2.2/\t.2.2.2<=2
 nd:L.Nodup
 lv:∀x∈L,∃(i:Nat) (t:Tk),x=(i:Int)/\ts[i]? =some t/\t.2.2.2=0
 ct:∀(j:Nat) t,ts[j]? =some t->t.2.2.2=(jS ts L (j:Int):Int)+(if(j:Int)=p then 1 else 0)
def sm{p q:Nat->Bool}{i:Nat}(a:p i=true)(b:q i=false)(h:∀k,k≠i->p k=q k):∀n,i<n->(List.range n).countP p=(List.range n).countP q+1
 |0,d=>by omega
 |n+1,d=>by
  rw[atz,asx,asx];by_cases c:i=n
  ·subst c
   have e:(List.range i).countP p=(List.range i).countP q:=List.countP_congr λk f=>by
    rw[h k (by have:=aqR.1 f;omega)]
   simp[e,a,b]
  ·have:=sm a b h n (by omega)
   rw[this];simp only[aut,h n (λe=>c e.symm)];omega
def kY{p q:Nat->Bool}{n:Nat}(h:∀k,k<n->p k=q k):(List.range n).countP p=(List.range n).countP q:=List.countP_congr λk a=>by rw[h k (aqR.1 a)]
def kB{a:List Tk}{L:aX}{i:Nat}{t:Tk}(h:a[i]? =some t):iq a L i=(!(decide ((i:Int)∈L)) && decide (t.2.2.2=0)):=by unfold iq;rw[h]
def fP{a:List Tk}{L:aX}{j:Int}{i:Nat}{t:Tk}(h:a[i]? =some t):vH a L j i=(decide (t.2.2.1=j) && !(iq a L i)):=by unfold vH;rw[h]
def cQ{α:Type}{l:List α}{i:Nat}{x:α}(h:l[i]? =some x):i<l.length:=(apV.1 h).1
def Tree.adM{n:Nat}{a:List Tk}{L:aX}{p:Int}(h:Tree n a L p):∀(k i:Nat),i<=k->i<a.length->iq a L i=false->iq a L 0=false
 |0,i,o,c,b=>by
  obtain rfl:i=0:=by omega
  exact b
 |k+1,i,o,c,b=>by
  by_cases g:i=0
  ·subst g;exact b
  obtain⟨t,e⟩:=get_at c;obtain⟨_,_,_,q,r,d,_,_⟩:=h.sh i t e;have d:=d (by omega);obtain⟨j,m⟩:∃j:Nat,t.2.2.1=(j:Int):=⟨t.2.2.1.toNat,by omega⟩;have v:j<i:=by omega
  obtain⟨u,f⟩:=get_at (xs:=a) (i:=j) (by omega);have l:=h.ct j u f;have w:0<jS a L (j:Int):=by
   unfold jS;rw[au1];exact⟨i,aqR.2 c,by rw[fP e,m,b];simp⟩
  refine Tree.adM h k j (by omega) (by omega) ?_;rw[kB f];have:¬u.2.2.2=0:=by split at l<;>omega
  simp[this]
def Tree.below{n:Nat}{a:List Tk}{L:aX}(h:Tree n a L (-1)):∀(k i:Nat),a.length<=i+k->i<a.length->iq a L i=false->L≠[]
 |0,i,q,j,c=>by omega
 |k+1,i,q,j,c=>by
  obtain⟨t,l⟩:=get_at j;rw[kB l]at c;by_cases f:(i:Int)∈L
  ·intro e;rw[e]at f;cases f
  ·have v:¬t.2.2.2=0:=by simpa[f]using c
   have p:=h.ct i t l;rw[apQ (by omega)]at p;have g:0<jS a L (i:Int):=by omega
   unfold jS at g;rw[au1]at g;obtain⟨o,b,d⟩:=g;have b:=aqR.1 b;obtain⟨u,m⟩:=get_at b;rw[fP m]at d;simp only[apS,aqQ,aq1]at d;obtain⟨_,_,_,_,r,_⟩:=h.sh o u m;exact Tree.below h k o (by omega) b d.2
def Tree.over{n:Nat}{a:List Tk}{L:aX}(h:Tree n a L (-1)):iq a L 0=true↔L=[]:=by
 constructor
 ·intro b
  cases c:L with
  |nil=>rfl
  |cons x l=>
   obtain⟨i,t,rfl,d,g⟩:=h.lv x (by rw[c];simp);have f:iq a L i=false:=by rw[kB d];simp[c]
   have:=h.adM i i (apT _) (cQ d) f;rw[this]at b;cases b
 ·intro e
  cases b:iq a L 0 with
  |true=>rfl
  |false=>exact absurd e (h.below a.length 0 (by omega) h.ne b)
def Q2{L M:aX}(a:L.Perm M)(h:L.Nodup):M.Nodup:=a.nodup_iff.1 h
def YC{a:List Tk}{L M:aX}(b:L.Perm M)(i:Nat):iq a L i=iq a M i:=by
 unfold iq;rw[arq.2 b.mem_iff]
def Tree.perm{n:Nat}{a:List Tk}{L M:aX}{p:Int}(h:Tree n a L p)(b:L.Perm M):Tree n a M p:=
 ⟨h.ne,h.sh,Q2 b h.nd,λx d=>h.lv x (b.mem_iff.2 d),λj t c=>by
  rw[h.ct j t c];have:jS a L (j:Int)=jS a M (j:Int):=kY λk e=>by
   unfold vH;rw[YC b]
  rw[this]⟩
def Tree.take{n:Nat}{a:List Tk}{i:Nat}{L:aX}{t:Tk}(h:Tree n a ((i:Int)::L) (-1))(b:a[i]? =some t):Tree n a L t.2.2.1/\(t.2.2.1= -1->iq a L 0=true):=by
 have o:=aq2.1 h.nd;have g:t.2.2.2=0:=by
  obtain⟨k,u,e,d,g⟩:=h.lv (i:Int) (by simp);obtain rfl:i=k:=by omega
  rw[b]at d;cases d;exact g
 have l:iq a L i=true:=by rw[kB b];simp[o.1,g]
 have v:iq a ((i:Int)::L) i=false:=by rw[kB b];simp
 have p:∀k,k≠i->iq a ((i:Int)::L) k=iq a L k:=λk f=>by
  unfold iq;have:¬(k:Int)=(i:Int):=by omega
  simp[this]
 have w:=cQ b;refine⟨⟨h.ne,h.sh,o.2,λx y=>h.lv x (by simp[y]),λj u d=>?_⟩,λe=>?_⟩
 ·rw[h.ct j u d,apQ (by omega)]
  by_cases c:(j:Int)=t.2.2.1
  ·rw[apR c]
   have:jS a ((i:Int)::L) (j:Int)=jS a L (j:Int)+1:=sm (i:=i) (by rw[fP b,v];simp[c]) (by rw[fP b,l];simp) (λk f=>by unfold vH;rw[p k f]) _ w;omega
  ·rw[apQ c]
   have:jS a ((i:Int)::L) (j:Int)=jS a L (j:Int):=kY λk f=>by
    by_cases m:k=i
    ·subst m
     rw[fP b,fP b];have:¬t.2.2.1=(j:Int):=λe=>c e.symm;simp[this]
    ·unfold vH;rw[p k m]
   rw[this]
 ·obtain⟨_,_,_,_,_,r,_⟩:=h.sh i t b
  have:i=0:=by
   by_cases q:i=0
   ·exact q
   ·have:=r (by omega);omega
  subst this;exact l
def less(a:List Tk)(j:Nat)(t:Tk):List Tk:=a.set j (t.1,t.2.1,t.2.2.1,t.2.2.2 - 1)
def jJ{a:List Tk}{j:Nat}{t:Tk}(b:a[j]? =some t)(k:Nat):(less a j t)[k]? =if k=j then some (t.1,t.2.1,t.2.2.1,t.2.2.2 - 1)else a[k]? :=by
 unfold less;rw[aqS];by_cases h:k=j
 ·subst h;simp[cQ b]
 ·rw[apQ (λe=>h e.symm),apQ h]
def jK(a:List Tk)(j:Nat)(t:Tk):(less a j t).length=a.length:=by simp[less]
def Tree.less{n:Nat}{a:List Tk}{L:aX}{j:Nat}{t:Tk}(h:Tree n a L (j:Int))(c:a[j]? =some t):1<=t.2.2.2/\¬(j:Int)∈L/\
 (t.2.2.2 - 1≠0->Tree n (less a j t) L (-1)/\iq (less a j t) L 0=false)/\(t.2.2.2 - 1=0->Tree n (less a j t) L t.2.2.1/\(t.2.2.1= -1->iq (less a j t) L 0=true)):=by
 have P:=h.ct j t c;rw[apR rfl]at P;have O:1<=t.2.2.2:=by omega
 have v:¬(j:Int)∈L:=λR=>by
  obtain⟨k,u,e,b,H⟩:=h.lv _ R;obtain rfl:j=k:=by omega
  rw[c]at b;cases b;omega
 have E:=cQ c;have F:=h.sh j t c;have D:iq a L j=false:=by
  have U:¬t.2.2.2=0:=by omega
  rw[kB c];simp[U]
 have o:(Go.Proofs.YtmdbmigbihboaaaGreatDoor.Sp.less a j t)[j]? =some (t.1,t.2.1,t.2.2.1,t.2.2.2 - 1):=by rw[jJ c,apR rfl]
 have S:∀k,k≠j->iq (Go.Proofs.YtmdbmigbihboaaaGreatDoor.Sp.less a j t) L k=iq a L k:=λk f=>by
  unfold iq;rw[jJ c,apQ f]
 have w:∀k,k≠j->∀m:Int,vH (Go.Proofs.YtmdbmigbihboaaaGreatDoor.Sp.less a j t) L m k=vH a L m k:=λk f m=>by
  unfold vH;rw[jJ c,apQ f,S k f]
 have K:∀(i:Nat) u,(Go.Proofs.YtmdbmigbihboaaaGreatDoor.Sp.less a j t)[i]? =some u->0<=u.1/\u.1<u.2.1/\u.2.1<=(n:Int)/\-1<=u.2.2.1/\u.2.2.1<(i:Int)/\(0<i->0<=u.2.2.1)/\0<=u.2.2.2/\u.2.2.2<=2:=λi u b=>by
  rw[jJ c]at b;by_cases d:i=j
  ·subst d
   rw[apR rfl]at b;cases b;obtain⟨y,z,A,B,C,q,M,N⟩:=F;exact⟨y,z,A,B,C,q,by show 0<=t.2.2.2 - 1;omega,by show t.2.2.2 - 1<=2;omega⟩
  ·rw[apQ d]at b
   exact h.sh i u b
 have J:∀x∈L,∃(i:Nat) (u:Tk),x=(i:Int)/\(Go.Proofs.YtmdbmigbihboaaaGreatDoor.Sp.less a j t)[i]? =some u/\u.2.2.2=0:=λx I=>by
  obtain⟨i,u,rfl,b,H⟩:=h.lv x I;have Q:¬i=j:=λe=>v (e▸I);exact⟨i,u,rfl,by rw[jJ c,apQ Q];exact b,H⟩
 refine⟨O,v,λg=>?_,λg=>?_⟩
 ·have l:iq (Go.Proofs.YtmdbmigbihboaaaGreatDoor.Sp.less a j t) L j=false:=by rw[kB o];simp[g]
  have r:∀m:Int,jS (Go.Proofs.YtmdbmigbihboaaaGreatDoor.Sp.less a j t) L m=jS a L m:=λm=>by
   unfold jS;rw[jK];refine kY λk f=>?_;by_cases p:k=j
   ·subst p
    rw[fP o,fP c,D,l]
   ·exact w k p m
  have G:Tree n (Go.Proofs.YtmdbmigbihboaaaGreatDoor.Sp.less a j t) L (-1):=⟨by rw[jK];exact h.ne,K,h.nd,J,λi u b=>by
   rw[r,apQ (by omega)];rw[jJ c]at b;by_cases d:i=j
   ·subst d
    rw[apR rfl]at b;cases b;show t.2.2.2 - 1=_;omega
   ·rw[apQ d]at b
    have:=h.ct i u b;rw[apQ (by omega)]at this;exact this⟩
  exact⟨G,G.adM j j (apT _) (by rw[jK];exact E) l⟩
 ·have l:iq (Go.Proofs.YtmdbmigbihboaaaGreatDoor.Sp.less a j t) L j=true:=by rw[kB o];simp[g,v]
  obtain⟨y,z,A,B,C,q,M,N⟩:=F;refine⟨⟨by rw[jK];exact h.ne,K,h.nd,J,λi u b=>?_⟩,λe=>?_⟩
  ·have r:(jS a L (i:Int):Int)=(jS (Go.Proofs.YtmdbmigbihboaaaGreatDoor.Sp.less a j t) L (i:Int):Int)+(if(i:Int)=t.2.2.1 then 1 else 0):=by
    by_cases d:(i:Int)=t.2.2.1
    ·rw[apR d]
     have:jS a L (i:Int)=jS (Go.Proofs.YtmdbmigbihboaaaGreatDoor.Sp.less a j t) L (i:Int)+1:=by
      unfold jS;rw[jK];exact sm (i:=j) (by rw[fP c,D];simp[d]) (by rw[fP o,l];simp) (λk f=>(w k f _).symm) _ E
     omega
    ·rw[apQ d]
     have:jS a L (i:Int)=jS (Go.Proofs.YtmdbmigbihboaaaGreatDoor.Sp.less a j t) L (i:Int):=by
      unfold jS;rw[jK];refine kY λk f=>?_;by_cases p:k=j
      ·subst p
       rw[fP o,fP c];have:¬t.2.2.1=(i:Int):=λe=>d e.symm;simp[this]
      ·exact(w k p _).symm
     omega
   rw[jJ c]at b;by_cases d:i=j
   ·subst d
    rw[apR rfl]at b;cases b;rw[apQ (by omega)]at r⊢;show t.2.2.2 - 1=_;omega
   ·rw[apQ d]at b
    have:=h.ct i u b;rw[apQ (by omega)]at this;omega
  ·have:j=0:=by
    by_cases g:j=0
    ·exact g
    ·have:=q (by omega);omega
   subst this;exact l
def part(a:List Tk)(i:Nat)(t:Tk)(mid:Int):List Tk:=(a++[(t.1,mid,(i:Int),0),(mid,t.2.1,(i:Int),0)]).set i (t.1,t.2.1,t.2.2.1,2)
def yK(a:List Tk)(i:Nat)(t:Tk)(b:Int):(part a i t b).length=a.length+2:=by simp[part]
def yL{a:List Tk}{i:Nat}{t:Tk}{mid:Int}(j:a[i]? =some t)(k:Nat):(part a i t mid)[k]? =if k=i then some (t.1,t.2.1,t.2.2.1,2)else if k<a.length then a[k]? else if k=a.length then some (t.1,mid,(i:Int),0)else if k=a.length+1 then some (mid,t.2.1,(i:Int),0)else none:=by
 have l:=cQ j;unfold part;rw[aqS];by_cases h:k=i
 ·subst h;simp;omega
 ·rw[apQ (λe=>h e.symm),apQ h]
  by_cases b:k<a.length
  ·rw[apR b,aqF b]
  ·rw[apQ b,aq7 (by omega)]
   by_cases c:k=a.length
   ·subst c;simp
   ·rw[apQ c]
    by_cases f:k=a.length+1
    ·subst f;simp
    ·rw[apQ f]
     obtain⟨d,g⟩:∃d,k - a.length=d+2:=⟨k - a.length - 2,by omega⟩;rw[g];rfl
def Tree.part{n:Nat}{c:List Tk}{i:Nat}{L:aX}{t:Tk}{mid:Int}(h:Tree n c ((i:Int)::L) (-1))(j:c[i]? =some t)(U:t.1<mid)(V:mid<t.2.1):Tree n (part c i t mid) ((c.length:Int)::((c.length+1:Nat):Int)::L) (-1):=by
 have z:=aq2.1 h.nd;have X:=cQ j;have q:t.2.2.2=0:=by
  obtain⟨k,u,e,b,q⟩:=h.lv (i:Int) (by simp);obtain rfl:i=k:=by omega
  rw[j]at b;cases b;exact q
 obtain⟨E,F,G,H,I,J,R,S⟩:=h.sh i t j;have w:∀x∈L,x<(c.length:Int):=λx f=>by
  obtain⟨k,u,rfl,b,_⟩:=h.lv x (by simp[f]);have:=cQ b;omega
 have a_:=yL (mid:=mid) j;obtain⟨M,l⟩:∃M:aX,M=(c.length:Int)::((c.length+1:Nat):Int)::L:=⟨_,rfl⟩;rw[<-l];have y:∀k,k<c.length->iq (Go.Proofs.YtmdbmigbihboaaaGreatDoor.Sp.part c i t mid) M k=iq c ((i:Int)::L) k:=λk d=>by
  by_cases g:k=i
  ·subst g
   rw[kB (by rw[a_,apR rfl]),kB j];simp
  ·unfold iq
   rw[a_,apQ g,apR d,l];have B:¬(k:Int)=(i:Int):=by omega
   have C:¬(k:Int)=(c.length:Int):=by omega
   have D:¬(k:Int)=(c.length:Int)+1:=by omega
   simp[B,C,D]
 have A:∀k,k=c.length\/k=c.length+1->iq (Go.Proofs.YtmdbmigbihboaaaGreatDoor.Sp.part c i t mid) M k=false:=λk d=>by
  unfold iq;have:(k:Int)∈M:=by rw[l];rcases d with rfl|rfl<;>simp
  simp[this]
 have N:∀k,k<c.length->∀m:Int,vH (Go.Proofs.YtmdbmigbihboaaaGreatDoor.Sp.part c i t mid) M m k=vH c ((i:Int)::L) m k:=λk d m=>by
  by_cases g:k=i
  ·subst g
   rw[fP (by rw[a_,apR rfl]),fP j,y k d]
  ·unfold vH
   rw[a_,apQ g,apR d,y k d]
 have K:∀m:Int,jS (Go.Proofs.YtmdbmigbihboaaaGreatDoor.Sp.part c i t mid) M m=jS c ((i:Int)::L) m+(if m=(i:Int)then 2 else 0):=λm=>by
  unfold jS;rw[yK,atz,atz,asx,asx,kY (n:=c.length) (λk d=>N k d m)];have P:vH (Go.Proofs.YtmdbmigbihboaaaGreatDoor.Sp.part c i t mid) M m c.length=decide ((i:Int)=m):=by
   rw[fP (t:=(t.1,mid,(i:Int),0)) (by rw[a_,apQ (by omega),apQ (by omega),apR rfl]),A _ (.inl rfl)];simp
  have Q:vH (Go.Proofs.YtmdbmigbihboaaaGreatDoor.Sp.part c i t mid) M m (c.length+1)=decide ((i:Int)=m):=by
   rw[fP (t:=(mid,t.2.1,(i:Int),0)) (by rw[a_,apQ (by omega),apQ (by omega),apQ (by omega),apR rfl]),A _ (.inr rfl)];simp
  simp only[aut,P,Q];by_cases r:m=(i:Int)
  ·subst r;simp
  ·have:¬(i:Int)=m:=λe=>r e.symm
   simp[r,this]
 refine⟨by rw[yK];omega,λk u b=>?_,?_,λx f=>?_,λk u b=>?_⟩
 ·rw[a_]at b
  by_cases g:k=i
  ·subst g
   rw[apR rfl]at b;cases b;exact⟨E,F,G,H,I,J,by show(0:Int)<=2;omega,by show(2:Int)<=2;omega⟩
  ·rw[apQ g]at b
   by_cases d:k<c.length
   ·rw[apR d]at b
    exact h.sh k u b
   ·rw[apQ d]at b
    by_cases o:k=c.length
    ·rw[apR o]at b
     cases b;simp only;omega
    ·rw[apQ o]at b
     by_cases p:k=c.length+1
     ·rw[apR p]at b
      cases b;simp only;omega
     ·rw[apQ p]at b;cases b
 ·rw[l]
  refine aq2.2 ⟨λf=>?_,aq2.2 ⟨λf=>?_,z.2⟩⟩
  ·rcases aqj.1 f with e|f
   ·omega
   ·have:=w _ f;omega
  ·have:=w _ f;omega
 ·rw[l]at f
  rcases aqj.1 f with rfl|f
  ·exact⟨c.length,_,rfl,by rw[a_,apQ (by omega),apQ (by omega),apR rfl],rfl⟩
  ·rcases aqj.1 f with rfl|f
   ·exact⟨c.length+1,_,rfl,by rw[a_,apQ (by omega),apQ (by omega),apQ (by omega),apR rfl],rfl⟩
   ·obtain⟨k,u,rfl,b,q⟩:=h.lv x (by simp[f])
    have g:¬k=i:=λe=>z.1 (e▸f);exact⟨k,u,rfl,by rw[a_,apQ g,apR (cQ b)];exact b,q⟩
 ·rw[K,apQ (show¬(k:Int)= -1 by omega)]
  rw[a_]at b;have O:∀m:Nat,c.length<=m->jS c ((i:Int)::L) (m:Int)=0:=λm r=>by
   unfold jS;rw[List.countP_eq_zero];intro a v;have v:=aqR.1 v;obtain⟨u,b⟩:=get_at v;obtain⟨_,_,_,_,W,_⟩:=h.sh a u b;rw[fP b];have:¬u.2.2.1=(m:Int):=by omega
   simp[this]
  by_cases g:k=i
  ·subst g
   rw[apR rfl]at b;cases b;have:=h.ct k t j;rw[apQ (by omega),q]at this;rw[apR rfl];show(2:Int)=_;omega
  ·rw[apQ g]at b
   rw[apQ (show¬(k:Int)=(i:Int) by omega)];by_cases d:k<c.length
   ·rw[apR d]at b
    have:=h.ct k u b;rw[apQ (by omega)]at this;rw[this];omega
   ·rw[O k (by omega)]
    rw[apQ d]at b;by_cases o:k=c.length
    ·rw[apR o]at b
     cases b;rfl
    ·rw[apQ o]at b
     by_cases p:k=c.length+1
     ·rw[apR p]at b
      cases b;rfl
     ·rw[apQ p]at b;cases b
def tn(g u:Nat):Nat:=if h:u<=g\/u<=1 then 1 else 1+tn g (u/2)+tn g (u - u/2)
 termination_by u
 decreasing_by all_goals omega
def Oy{g u:Nat}(h:u<=g):tn g u=1:=by rw[tn,dif_pos (.inl h)]
def Oz{g u:Nat}(a:1<=g)(h:g<u):tn g u=1+tn g (u/2)+tn g (u - u/2):=by rw[tn,dif_neg (by omega)]
def ajR(g u:Nat):1<=tn g u:=by
 rw[tn];split<;>omega
def OA{g:Nat}(a:1<=g):∀(k u:Nat),u<=k->1<=u->tn g u<=2*u - 1
 |0,u,c,h=>by omega
 |k+1,u,c,h=>by
  by_cases b:u<=g
  ·rw[Oy b];omega
  ·rw[Oz a (by omega)]
   have d:=OA a k (u/2) (by omega) (by omega);have e:=OA a k (u - u/2) (by omega) (by omega);omega
def y8(a b:Int):aX:=(List.range (b - a).toNat).map λ(k:Nat)=>a+(k:Int)
def JQ{a b x:Int}:x∈y8 a b↔a<=x/\x<b:=by
 unfold y8;rw[ap4];constructor
 ·rintro⟨k,c,rfl⟩
  have:=aqR.1 c;omega
 ·rintro⟨d,e⟩
  exact⟨(x - a).toNat,aqR.2 (by omega),by omega⟩
def V2{a m b:Int}(c:a<=m)(d:m<=b):y8 a m++y8 m b=y8 a b:=by
 unfold y8;obtain⟨p,rfl⟩:∃p:Nat,m=a+(p:Int):=⟨(m - a).toNat,by omega⟩;obtain⟨q,rfl⟩:∃q:Nat,b=a+(p:Int)+(q:Int):=⟨(b - (a+p)).toNat,by omega⟩;rw[show(a+(p:Int) - a).toNat=p by omega,show(a+(p:Int)+(q:Int) - (a+(p:Int))).toNat=q by omega,show(a+(p:Int)+(q:Int) - a).toNat=p+q by omega,List.range_add,aqH,aq4];refine ap5 _ (aqJ λk _=>?_);simp only[Function.comp];omega
def HK(a:List Tk)(x:Int):aX:=match a[x.toNat]? with
 |some t=>y8 t.1 t.2.1
 |none=>[]
def szT(g:Nat)(a:List Tk)(x:Int):Nat:=match a[x.toNat]? with
 |some t=>tn g (t.2.1 - t.1).toNat
 |none=>0
def left(g:Nat)(a:List Tk)(L:aX):Nat:=(L.map (szT g a)).sum
def mu{ts:List Tk}{i:Nat}{t:Tk}(h:ts[i]? =some t):HK ts (i:Int)=y8 t.1 t.2.1:=by
 unfold HK;rw[ap2,h]
def sn{g:Nat}{ts:List Tk}{i:Nat}{t:Tk}(h:ts[i]? =some t):szT g ts (i:Int)=tn g (t.2.1 - t.1).toNat:=by
 unfold szT;rw[ap2,h]
def jL(b c:List Tk):Prop:=c.length=b.length/\∀(k:Nat) (t:Tk),b[k]? =some t->∃a,c[k]? =some a/\a.1=t.1/\a.2.1=t.2.1
def jL.refl(a:List Tk):jL a a:=⟨rfl,λk t h=>⟨t,h,rfl,rfl⟩⟩
def jL.trans{a b c:List Tk}(h:jL a b)(k:jL b c):jL a c:=⟨k.1.trans h.1,λi t j=>by
 obtain⟨u,l,d,e⟩:=h.2 i t j;obtain⟨v,m,f,g⟩:=k.2 i u l;exact⟨v,m,f.trans d,g.trans e⟩⟩
def jL.less{a:List Tk}{j:Nat}{t:Tk}(c:a[j]? =some t):jL a (less a j t):=⟨jK a j t,λk u b=>by
 rw[jJ c];by_cases h:k=j
 ·subst h
  rw[c]at b;cases b;exact⟨_,apR rfl,rfl,rfl⟩
 ·exact⟨u,by rw[apQ h];exact b,rfl,rfl⟩⟩
def jL.un{a b:List Tk}(h:jL a b)(x:Int):HK b x=HK a x:=by
 unfold HK;cases c:a[x.toNat]? with
 |some t=>obtain⟨g,d,e,f⟩:=h.2 _ t c;rw[d];simp only[e,f]
 |none=>
  have:b[x.toNat]? =none:=aqE (by rw[h.1];exact au2.1 c);rw[this]
def jL.sz{g:Nat}{a b:List Tk}(h:jL a b)(x:Int):szT g b x=szT g a x:=by
 unfold szT;cases c:a[x.toNat]? with
 |some t=>obtain⟨i,d,e,f⟩:=h.2 _ t c;rw[d];simp only[e,f]
 |none=>
  have:b[x.toNat]? =none:=aqE (by rw[h.1];exact au2.1 c);rw[this]
def lC(b c:List Tk):Prop:=∀(k:Nat) (t:Tk),b[k]? =some t->∃a,c[k]? =some a/\a.1=t.1/\a.2.1=t.2.1
def lC.refl(a:List Tk):lC a a:=λk t h=>⟨t,h,rfl,rfl⟩
def lC.part{b:List Tk}{i:Nat}{t:Tk}{mid:Int}(c:b[i]? =some t):lC b (part b i t mid):=λk u a=>by
 rw[yL c];by_cases h:k=i
 ·subst h
  rw[c]at a;cases a;exact⟨_,apR rfl,rfl,rfl⟩
 ·exact⟨u,by rw[apQ h,apR (cQ a)];exact a,rfl,rfl⟩
def lC.un{a c:List Tk}(h:lC a c){i:Nat}(g:i<a.length):HK c (i:Int)=HK a (i:Int):=by
 obtain⟨t,b⟩:=get_at g;obtain⟨j,d,e,f⟩:=h i t b;rw[mu b,mu d,e,f]
def lC.sz{g:Nat}{a c:List Tk}(h:lC a c){i:Nat}(j:i<a.length):szT g c (i:Int)=szT g a (i:Int):=by
 obtain⟨t,b⟩:=get_at j;obtain⟨k,d,e,f⟩:=h i t b;rw[sn b,sn d,e,f]
def so(n:Nat):aX:=(List.range n).map λ(k:Nat)=>(k:Int)
structure y9(n g:Nat)(ts:List Tk)(dn:bq)(L us:aX):Prop where
 tr:Tree n ts L (-1)
 n1:1<=n
 n2:n<=60
 g1:1<=g
 g2:g<=8
 dl:dn.length=n
 pu:(us++L.flatMap (HK ts)).Perm (so n)
 dd:∀k:Nat,k<n->(dn[k]? =some true↔(k:Int)∈us)
 nb:ts.length+left g ts L=tn g n+L.length
def z8{g:Nat}{a:List Tk}{L M:aX}(b:L.Perm M):left g a L=left g a M:=(b.map _).sum_nat
def y9.perm{n g:Nat}{d:List Tk}{c:bq}{L M b:aX}(h:y9 n g d c L b)(a:L.Perm M):y9 n g d c M b:=
 ⟨h.tr.perm a,h.n1,h.n2,h.g1,h.g2,h.dl,((a.flatMap_right _).append_left b).symm.trans h.pu,h.dd,by rw[<-z8 a,<-a.length_eq];exact h.nb⟩
def agw{n g:Nat}{ts:List Tk}{L:aX}(h:∀x∈L,∃(i:Nat) (t:Tk),x=(i:Int)/\ts[i]? =some t):L.length<=left g ts L:=by
 induction L with
 |nil=>simp[left]
 |cons x L c=>
  obtain⟨i,t,rfl,a⟩:=h x (by simp);have:=c λy b=>h y (by simp[b]);have d:=ajR g (t.2.1 - t.1).toNat;unfold left at this⊢;rw[aqc,asy,sn a,aqf];omega
def y9.len{n g:Nat}{a:List Tk}{b:bq}{L j:aX}(h:y9 n g a b L j):a.length<=tn g n/\L.length<=left g a L/\a.length<=119:=by
 have c:=agw (n:=n) (g:=g) (ts:=a) (L:=L) λx f=>by
  obtain⟨i,t,e,d,_⟩:=h.tr.lv x f;exact⟨i,t,e,d⟩
 have k:=h.nb;have l:=OA h.g1 n n (apT _) h.n1;have:=h.n2;refine⟨by omega,c,by omega⟩
def y9.first{n g:Nat}(c:1<=n)(d:n<=60)(e:1<=g)(f:g<=8):y9 n g [((0:Int),(n:Int),(-1:Int),(0:Int))] (List.replicate n false) [0] []:=by
 have a_:∀(i:Nat) t,[((0:Int),(n:Int),(-1:Int),(0:Int))][i]? =some t->i=0/\t=((0:Int),(n:Int),(-1:Int),(0:Int)):=λi t h=>by
  cases i with
  |zero=>simp at h;exact⟨rfl,h.symm⟩
  |succ i=>simp at h
 refine⟨⟨by simp,λi t a=>?_,by simp,λx b=>?_,λj t a=>?_⟩,c,d,e,f,by simp,?_,λk l=>?_,?_⟩
 ·obtain⟨rfl,rfl⟩:=a_ i t a
  simp only;omega
 ·simp at b
  subst b;exact⟨0,_,rfl,rfl,rfl⟩
 ·obtain⟨rfl,rfl⟩:=a_ j t a
  simp[jS,vH]
 ·simp only[aqC,aqr,aty,aqy]
  have:HK [((0:Int),(n:Int),(-1:Int),(0:Int))] 0=so n:=by
   have:=mu (ts:=[((0:Int),(n:Int),(-1:Int),(0:Int))]) (i:=0) rfl;rw[show((0:Nat):Int)=0 from rfl]at this;rw[this];simp only[y8,so];rw[show((n:Int) - 0).toNat=n by omega];exact aqJ λk _=>by omega
  rw[this]
 ·simp[asn,l]
 ·have:=sn (g:=g) (ts:=[((0:Int),(n:Int),(-1:Int),(0:Int))]) (i:=0) rfl
  rw[show((0:Nat):Int)=0 from rfl]at this;simp only[left,aqc,aqZ,asy,List.sum_nil,this,aqf,aqI];rw[show((n:Int) - 0).toNat=n by omega];omega
def y9.did{n g:Nat}{a b:List Tk}{e c:bq}{L o:aX}{i:Nat}{t:Tk}(h:y9 n g a e ((i:Int)::L) o)(m:a[i]? =some t)(v:(t.2.1 - t.1).toNat<=g)(d:jL a b)(u:Tree n b L (-1))
 (q:c.length=n) (p:∀k:Nat,k<n->(c[k]? =some true↔e[k]? =some true\/(t.1<=(k:Int)/\(k:Int)<t.2.1))):y9 n g b c L (o++y8 t.1 t.2.1)/\left g a ((i:Int)::L)=left g b L+1:=by
 have r:left g b L=left g a L:=by
  unfold left;rw[aqJ λx _=>d.sz x]
 have l:left g a ((i:Int)::L)=left g b L+1:=by
  rw[r];unfold left;rw[aqc,asy,sn m,Oy v];omega
 refine⟨⟨u,h.n1,h.n2,h.g1,h.g2,q,?_,λk j=>?_,?_⟩,l⟩
 ·have f:=h.pu
  rw[aqr,mu m,<-aqm]at f;have:L.flatMap (HK b)=L.flatMap (HK a):=by rw[show HK b=HK a from funext λx=>d.un x]
  rw[this];exact f
 ·rw[p k j,h.dd k j,ap3,JQ]
 ·have:=h.nb
  rw[l,aqf]at this;rw[d.1];omega
def y9.ajS{n g:Nat}{a:List Tk}{l:bq}{L z:aX}{i:Nat}{t:Tk}{b:Int}(h:y9 n g a l ((i:Int)::L) z)(c:a[i]? =some t)(j:g<(t.2.1 - t.1).toNat)(C:b=t.1+(((t.2.1 - t.1).toNat/2:Nat):Int)):
 y9 n g (part a i t b) l ((a.length:Int)::((a.length+1:Nat):Int)::L) z/\left g a ((i:Int)::L)=left g (part a i t b) ((a.length:Int)::((a.length+1:Nat):Int)::L)+1:=by
 have v:=h.g1;have p:t.1<b:=by omega
 have q:b<t.2.1:=by omega
 have B:=cQ c;have y:=lC.part (mid:=b) c;have r:∀x∈L,∃k:Nat,x=(k:Int)/\k<a.length:=λx d=>by
  obtain⟨k,u,rfl,j,_⟩:=h.tr.lv x (by simp[d]);exact⟨k,rfl,cQ j⟩
 have m:(part a i t b)[a.length]? =some (t.1,b,(i:Int),0):=by rw[yL c,apQ (by omega),apQ (by omega),apR rfl]
 have o:(part a i t b)[a.length+1]? =some (b,t.2.1,(i:Int),0):=by rw[yL c,apQ (by omega),apQ (by omega),apQ (by omega),apR rfl]
 have A:L.map (szT g (part a i t b))=L.map (szT g a):=aqJ λx d=>by
  obtain⟨k,rfl,f⟩:=r x d;exact y.sz f
 have w:left g a ((i:Int)::L)=left g (part a i t b) ((a.length:Int)::((a.length+1:Nat):Int)::L)+1:=by
  unfold left;rw[aqc,aqc,aqc,asy,asy,asy,A,sn c,sn m,sn o,Oz v j];simp only;rw[show(b - t.1).toNat=(t.2.1 - t.1).toNat/2 by omega,show(t.2.1 - b).toNat=(t.2.1 - t.1).toNat - (t.2.1 - t.1).toNat/2 by omega];omega
 refine⟨⟨h.tr.part c p q,h.n1,h.n2,v,h.g2,h.dl,?_,h.dd,?_⟩,w⟩
 ·have e:=h.pu
  rw[aqr,mu c]at e;rw[aqr,aqr,mu m,mu o,<-aqm (y8 _ _),V2 (Int.le_of_lt p) (Int.le_of_lt q)];have:L.flatMap (HK (part a i t b))=L.flatMap (HK a):=by
   rw[atA,atA,aqJ λx d=>?_];obtain⟨k,rfl,f⟩:=r x d;exact y.un f
  rw[this];exact e
 ·have e:=h.nb
  rw[w,aqf]at e;rw[yK,aqf,aqf];omega
structure YD(n g:Nat)(ts:List Tk)(dn:bq):Prop where
 n1:1<=n
 n2:n<=60
 g1:1<=g
 g2:g<=8
 dl:dn.length=n
 t1:0<ts.length
 t2:ts.length<=200
 sh:∀(i:Nat) t,ts[i]? =some t->0<=t.1/\t.1<t.2.1/\t.2.1<=(n:Int)/\-1<=t.2.2.1/\t.2.2.1<(i:Int)/\(0<i->0<=t.2.2.1)/\0<=t.2.2.2/\t.2.2.2<=2
def y9.ok{n g:Nat}{b:List Tk}{a:bq}{L c:aX}(h:y9 n g b a L c):YD n g b a:=
 ⟨h.n1,h.n2,h.g1,h.g2,h.dl,h.tr.ne,by have:=h.len;omega,h.tr.sh⟩
def E2{N:Nat}(e:1<=N){n g:Nat}(a:1<=n)(b:n<=60)(c:1<=g)(d:g<=8):Mm N ((n:Int),(g:Int))=some true:=by
 obtain⟨N,rfl⟩:∃m,N=m+1:=⟨N - 1,by omega⟩;rw[abC,eh (by omega),eh (by omega),eh (by omega)];simp only[apU,aqQ];omega
def Bi(N:Nat){n g:Nat}{a:List Tk}{b:bq}(h:YD n g a b):∀(k i m:Nat),i+k=a.length->k<m->
 xj N m (a,((a.length:Nat):Int),(i:Int),a,(g:Int),b)=some (.inl ())
 |k,i,0,c,d=>by omega
 |0,i,m+1,c,d=>by rw[DV,dX (by omega)]
 |k+1,i,m+1,c,d=>by
  obtain⟨t,e⟩:=get_at (xs:=a) (i:=i) (by omega);obtain⟨f,j,l,o,p,q,r,u⟩:=h.sh i t e;have:=h.t2;have:=h.dl;rw[DV,eh (by omega),bd e,ob,dX (by omega),dX (by omega),dX (by omega),dX (by omega),dX (by omega),dX (by omega),dX (by omega),cE (by omega)];exact Bi N h k (i+1) m (by omega) (by omega)
def tF{N:Nat}(d:Fu+2<=N){n g:Nat}{a:List Tk}{b:bq}(h:YD n g a b):DU N (a,(g:Int),b)=some true:=by
 obtain⟨N,rfl⟩:∃m,N=m+1:=⟨N - 1,by omega⟩;have:=h.t1;have:=h.t2;have c:=bQ;rw[XH,h.dl,E2 (by omega) h.n1 h.n2 h.g1 h.g2,ob];simp only[ap9,apW];rw[dX (by omega),dX (by omega)];have:=Bi N h a.length 0 N (by omega) (by omega);rw[show((0:Nat):Int)=0 from rfl]at this;rw[this];rfl
def E3{N:Nat}(c:Fu+3<=N){n g:Nat}{a:List Tk}{b:bq}(h:YD n g a b){i:Nat}(d:i<a.length):zI N (a,(g:Int),b,(i:Int))=some 0:=by
 obtain⟨N,rfl⟩:∃m,N=m+1:=⟨N - 1,by omega⟩;rw[XI,tF (by omega) h,ob];simp only[ap9,apW];rw[dX (by omega),dX (by omega)]
def E4{N:Nat}(h:1<=N){a b c d:Int}(e:0<=a)(f:a<=b)(g:b<=60):vx N (a,b,c,d)=some (b - a):=by
 obtain⟨N,rfl⟩:∃m,N=m+1:=⟨N - 1,by omega⟩;rw[XJ,gT (by omega) (by omega)]
def E7{N:Nat}(j:Fu+4<=N){n g:Nat}{b:List Tk}{c:bq}(h:YD n g b c){i:Nat}{t:Tk}(a:b[i]? =some t):DW N (b,(g:Int),c,(i:Int))=some (decide ((g:Int)<t.2.1 - t.1)):=by
 obtain⟨N,rfl⟩:∃m,N=m+1:=⟨N - 1,by omega⟩;obtain⟨d,e,f,_⟩:=h.sh i t a;have:=h.n2;rw[XK,E3 (by omega) h (cQ a),ob,eh rfl,bd a,ob,E4 (by omega) d (by omega) (by omega),ob]
def tK{N:Nat}(c:1<=N)(a:List Tk)(b:a.length<=100000000000):Mz N a=some a:=by
 obtain⟨N,rfl⟩:∃m,N=m+1:=⟨N - 1,by omega⟩;rw[abI,cO (by omega) (by simpa using b),aqC];cases a with
 |nil=>exact sZ.2 ⟨rfl,rfl⟩
 |cons x d=>rfl
def YE{N:Nat}(c:1<=N)(a:bq)(b:a.length<=100000000000):T1 N a=some a:=by
 obtain⟨N,rfl⟩:∃m,N=m+1:=⟨N - 1,by omega⟩;rw[abK,cO (by omega) (by simpa using b),aqC];cases a with
 |nil=>exact sZ.2 ⟨rfl,rfl⟩
 |cons x d=>rfl
def YF{N:Nat}(c:1<=N)(a:bM)(b:a.length<=100000000000):TZ N a=some a:=by
 obtain⟨N,rfl⟩:∃m,N=m+1:=⟨N - 1,by omega⟩;rw[abG,cO (by omega) (by simpa using b),aqC];cases a with
 |nil=>exact sZ.2 ⟨rfl,rfl⟩
 |cons x d=>rfl
def agx{N:Nat}(b:1<=N)(a:aX):T0 N a=some a:=by
 obtain⟨N,rfl⟩:∃m,N=m+1:=⟨N - 1,by omega⟩;rw[abJ,adf,ob,eh rfl]
def Q3(t:Tk):Int:=t.1+(((t.2.1 - t.1).toNat/2:Nat):Int)
def CB{N:Nat}(p:Fu+4<=N){n g:Nat}{a:List Tk}{c:bq}(h:YD n g a c){i:Nat}{t:Tk}(b:a[i]? =some t)(r:t.2.2.2=0)(q:(g:Int)<t.2.1 - t.1):
 I_ N (a,(g:Int),c,(i:Int))=some (((a.length:Nat):Int),((a.length+1:Nat):Int),0,part a i t (Q3 t),(g:Int),c):=by
 obtain⟨N,rfl⟩:∃m,N=m+1:=⟨N - 1,by omega⟩;obtain⟨e,l,o,_⟩:=h.sh i t b;have:=h.n2;have:=h.t2;obtain⟨u,d⟩:∃u:Nat,t.2.1 - t.1=(u:Int):=⟨(t.2.1 - t.1).toNat,by omega⟩;have j:Int.tdiv (t.2.1 - t.1) 2=((u/2:Nat):Int):=by rw[d];exact yr u 2
 have f:t.1+((u/2:Nat):Int)=Q3 t:=by unfold Q3;rw[d,ap2]
 rw[XN,E3 (by omega) h (cQ b),ob,y6 rfl,bd b,ob,E4 (by omega) e (by omega) (by omega),ob,dX (by omega),dX (by omega),gT (by omega) (by omega),dX (by omega),ob,tK (by omega) a (by omega),ob,
  j,gT (x:=((u/2:Nat):Int)) (by omega) (by omega),gT (x:=t.1+((u/2:Nat):Int)) (by omega) (by omega),f,cO (by omega) (by simp;omega),ob]
 have k:(a++[(t.1,Q3 t,(i:Int),0),(Q3 t,t.2.1,(i:Int),0)])[i]? =some t:=by
  rw[aqF (cQ b)];exact b
 rw[bd k,ob,ob,cE (by omega),ap2];rfl
def V3{n g:Nat}{ts ts0:List Tk}{t:Tk}(u:t.2.1<=(n:Int))(B:n<=60)(w p f:Int)(l o:Int):∀(k:Nat) (x:Int) (a:bq),a.length=n->0<=x->x+(k:Int)=t.2.1->
 ∃c:bq,c.length=n/\(∀j:Nat,j<n->(c[j]? =some true↔a[j]? =some true\/(x<=(j:Int)/\(j:Int)<t.2.1)))/\∀N m,k<m->xy N m (x,w,p,f,t.2.1,l,o,ts,a)=some (w,p,f,t.2.1,l,o,ts,c)
 |0,x,a,d,C,z=>⟨a,d,λj q=>⟨λh=>.inl h,λh=>h.elim id λh=>by omega⟩,λN m A=>by
  obtain⟨m,rfl⟩:∃e,m=e+1:=⟨m - 1,by omega⟩;rw[D0,dX (by omega)]⟩
 |k+1,x,a,d,C,z=>by
  obtain⟨y,rfl⟩:∃y:Nat,x=(y:Int):=⟨x.toNat,by omega⟩;obtain⟨b,v⟩:=get_at (xs:=a) (i:=y) (by omega);obtain⟨c,D,E,F⟩:=V3 (ts:=ts) (ts0:=ts0) (g:=g) u B w p f l o k ((y:Int)+1) (a.set y true) (by simpa using d) (by omega) (by omega);refine⟨c,D,λj q=>?_,λN m A=>?_⟩
  ·rw[E j q,aqS]
   by_cases r:y=j
   ·subst r
    rw[apR rfl,apR (by omega)];constructor
    ·intro _;exact .inr ⟨by omega,by omega⟩
    ·intro _;exact .inl rfl
   ·rw[apQ r]
    constructor
    ·rintro(h|h)
     ·exact .inl h
     ·exact .inr ⟨by omega,h.2⟩
    ·rintro(h|h)
     ·exact .inl h
     ·exact .inr ⟨by omega,h.2⟩
  ·obtain⟨m,rfl⟩:∃e,m=e+1:=⟨m - 1,by omega⟩
   rw[D0,eh (by omega),bd v,ob,ob,gT (by omega) (by omega),ap2];exact F N m (by omega)
def Bj{n:Nat}{L:aX}:∀(k:Nat) (p:Int) (a:List Tk),p<(k:Int)->Tree n a L p->-1<=p->p<(a.length:Int)->a.length<=200->(p= -1->iq a L 0=true)->
 ∃(res:Bool) (d:List Tk),jL a d/\Tree n d L (-1)/\(res=true↔iq d L 0=true)/\∀N m,k+1<m->Cc N m (p,a)=some (if res=true then .inl d else .inr (false,d))
 |0,p,a,A,h,w,x,r,f=>by
  obtain rfl:p= -1:=by omega
  refine⟨true,a,jL.refl a,h,⟨λ_=>f rfl,λ_=>rfl⟩,λN m o=>?_⟩;obtain⟨m,rfl⟩:∃c,m=c+1:=⟨m - 1,by omega⟩;rw[tp,y6 rfl,apR rfl]
 |k+1,p,a,A,h,w,x,r,f=>by
  by_cases B:p= -1
  ·subst B
   refine⟨true,a,jL.refl a,h,⟨λ_=>f rfl,λ_=>rfl⟩,λN m o=>?_⟩;obtain⟨m,rfl⟩:∃c,m=c+1:=⟨m - 1,by omega⟩;rw[tp,y6 rfl,apR rfl]
  ·obtain⟨j,rfl⟩:∃j:Nat,p=(j:Int):=⟨p.toNat,by omega⟩
   obtain⟨t,b⟩:=get_at (xs:=a) (i:=j) (by omega);obtain⟨H,G,y,z⟩:=h.less b;obtain⟨_,_,_,_,s5,_,_,s8⟩:=h.sh j t b;have u:a.set j (t.1,t.2.1,t.2.2.1,t.2.2.2 - 1)=less a j t:=rfl;have q:(less a j t)[j]? =some (t.1,t.2.1,t.2.2.1,t.2.2.2 - 1):=by rw[jJ b,apR rfl]
   by_cases v:t.2.2.2 - 1=0
   ·obtain⟨l,g⟩:=z v
    obtain⟨res,d,C,D,E,F⟩:=Bj k t.2.2.1 (less a j t) (by omega) l (h.sh j t b).2.2.2.1 (by rw[jK];omega) (by rw[jK];exact r) g;refine⟨res,d,(jL.less b).trans C,D,E,λN m o=>?_⟩;obtain⟨m,rfl⟩:∃c,m=c+1:=⟨m - 1,by omega⟩;rw[tp,cnF (by omega),bd b,ob,ob,dX (by omega),ob,ob,ap2,gT (by omega) (by omega),u,bd q,ob];rw[dX (by show¬(0:Int)<t.2.2.2 - 1;omega),ob];exact F N m (by omega)
   ·obtain⟨l,g⟩:=y v
    refine⟨false,less a j t,jL.less b,l,⟨λe=>(by cases e),λe=>(by rw[g]at e;cases e)⟩,λN m o=>?_⟩;obtain⟨m,rfl⟩:∃c,m=c+1:=⟨m - 1,by omega⟩;rw[tp,cnF (by omega),bd b,ob,ob,dX (by omega),ob,ob,ap2,gT (by omega) (by omega),u,bd q,ob];rw[eh (by show(0:Int)<t.2.2.2 - 1;omega)];simp
def amF{n g:Nat}{a:List Tk}{f:bq}{L A:aX}{i:Nat}{t:Tk}(h:y9 n g a f ((i:Int)::L) A)(c:a[i]? =some t)(X:t.2.1 - t.1<=(g:Int)):
 ∃(j:Bool) (d:List Tk) (l:bq),y9 n g d l L (A++y8 t.1 t.2.1)/\left g a ((i:Int)::L)=left g d L+1/\jL a d/\(j=true↔L=[])/\
  ∀N,Fu+4<=N->Ja N (a,(g:Int),f,(i:Int))=some (j,0,d,(g:Int),l):=by
 obtain⟨I,w⟩:=h.tr.take c;obtain⟨q,Q,B,C,R,S,U,V⟩:=h.tr.sh i t c;have Y:=h.len;have M:=h.n2;have K:=cQ c;have z:t.2.2.2=0:=by
  obtain⟨k,u,e,o,z⟩:=h.tr.lv (i:Int) (by simp);obtain rfl:i=k:=by omega
  rw[c]at o;cases o;exact z
 obtain⟨j,d,r,v,G,H⟩:=Bj (i+1) t.2.2.1 a (by omega) I C (by omega) (by omega) w;obtain⟨l,D,E,F⟩:=V3 (g:=g) (ts:=a) (ts0:=a) (t:=t) B M (g:Int) 0 t.1 t.2.2.1 t.2.2.2 (t.2.1 - t.1).toNat t.1 f h.dl q (by omega);obtain⟨j1,j2⟩:=h.did c (by omega) r v D E;refine⟨j,d,l,j1,j2,r,G.trans v.over,λN W=>?_⟩;obtain⟨N,rfl⟩:∃m,N=m+1:=⟨N - 1,by omega⟩;have w:=bQ;obtain⟨p,y⟩:∃p:Nat,t.1=(p:Int):=⟨t.1.toNat,by omega⟩;obtain⟨b,x⟩:=get_at (xs:=f) (i:=p) (by rw[h.dl];omega);have J:b=false:=by
  cases b with
  |false=>rfl
  |true=>
   have o:=(h.dd p (by omega)).1 x;have P:=h.pu;have O:(so n).Nodup:=by
    unfold so;rw[au3,as4];exact aup.imp λh e=>h (by omega)
   have:=P.nodup_iff.2 O;rw[aqL]at this;exact absurd rfl (this.2.2 _ o _ (by rw[aqr,mu c,ap3,JQ];exact .inl ⟨by omega,by omega⟩))
 subst J;rw[XO,E3 (by omega) h.ok K,ob,y6 rfl,bd c,ob,E4 (by omega) q (by omega) (by omega),ob,dX (by omega),dX (by omega),y,bd x,ob];simp only[apW];rw[tK (by omega) a (by omega),ob,YE (by omega) f (by rw[h.dl];omega),ob,<-y,F N N (by omega),ob];obtain⟨N,rfl⟩:∃m,N=m+1:=⟨N - 1,by omega⟩;simp only;rw[abM,H N N (by omega),ob];cases j with
 |true=>rfl
 |false=>rfl
def Q4:∀(g:bh) (c d v:Int),bJ (.i .i64) (dS (.i .i64) g c v) d=if c=d then some v else bJ (.i .i64) g d
 |[],c,d,v=>by
  by_cases h:c=d
  ·subst h;simp[dS,bJ,iF]
  ·have b:iF (.i .i64) c d=false:=by simp[iF,h]
   simp[dS,bJ,b,h]
 |(x,y)::g,c,d,v=>by
  rw[dS];by_cases h:x=c
  ·subst h
   by_cases a:x=d
   ·subst a;simp[iF,bJ]
   ·have b:iF (.i .i64) x d=false:=by simp[iF,a]
    have f:iF (.i .i64) x x=true:=by simp[iF]
    simp[bJ,b,f,a]
  ·have b:iF (.i .i64) x c=false:=by simp[iF,h]
   simp only[b,apW,bJ];by_cases a:x=d
   ·subst a
    have f:iF (.i .i64) x x=true:=by simp[iF]
    rw[f,apQ (λe=>h e.symm)];rfl
   ·have f:iF (.i .i64) x d=false:=by simp[iF,a]
    rw[f];exact Q4 g c d v
def Q5(n:Nat):(so n).Nodup:=by
 unfold so;rw[au3,as4];exact aup.imp λh e=>h (by omega)
def y9.fresh{n g:Nat}{j:List Tk}{c:bq}{L o:aX}(h:y9 n g j c L o){x:Int}(f:x∈L):∃(i:Nat) (t:Tk) (a:Nat),x=(i:Int)/\j[i]? =some t/\t.2.2.2=0/\t.1=(a:Int)/\c[a]? =some false:=by
 obtain⟨i,t,rfl,d,m⟩:=h.tr.lv x f;obtain⟨p,q,r,_⟩:=h.tr.sh i t d;obtain⟨a,k⟩:∃a:Nat,t.1=(a:Int):=⟨t.1.toNat,by omega⟩;obtain⟨b,e⟩:=get_at (xs:=c) (i:=a) (by rw[h.dl];omega);refine⟨i,t,a,rfl,d,m,k,?_⟩;cases b with
 |false=>exact e
 |true=>
  have l:=(h.dd a (by omega)).1 e;have:=h.pu.nodup_iff.2 (Q5 n);rw[aqL]at this;exact absurd rfl (this.2.2 _ l _ (aq9.2 ⟨_,f,by rw[mu d,JQ];exact⟨by omega,by omega⟩⟩))
def adN{N:Nat}(l:Fu+5<=N){n g:Nat}{c:List Tk}{b:bq}{L k:aX}(h:y9 n g c b L k){x:Int}(j:x∈L):I8 N (c,(g:Int),b,x)=some true:=by
 obtain⟨N,rfl⟩:∃m,N=m+1:=⟨N - 1,by omega⟩;obtain⟨i,t,p,rfl,a,f,e,d⟩:=h.fresh j;have o:=cQ a;rw[XL,eh (by omega),eh (by omega),bd a,ob,eh f,E7 (by omega) h.ok a,ob,cd];split
 ·rfl
 ·rw[ob,e,bd d];rfl
def OB{n g:Nat}{B:List Tk}{r:bq}{L Q:aX}(h:y9 n g B r L Q)(d:bM)(a b:Int)(z:Bool)(A v:Int)(l:aX)(H:l.length<=200):∀(k j:Nat) (c:bh) (seen:aX),j+k=l.length->
 (∀y∈l.drop j,y∈L)->(seen++l.drop j).Nodup->(∀y,bJ (.i .i64) c y=if y∈seen then some 1 else none)->
 ∃q,(∀y,bJ (.i .i64) q y=if y∈seen++l.drop j then some 1 else none)/\∀N m,Fu+5<=N->k<m->xv N m (d,a,b,l,((l.length:Nat):Int),(j:Int),B,(g:Int),r,d,z,A,v,c)=some (.inl (d,a,b,B,(g:Int),r,d,z,A,v,q))
 |0,j,c,seen,G,p,o,f=>⟨c,by rw[aqP (by omega),aqy];exact f,λN m t f=>by
  obtain⟨m,rfl⟩:∃w,m=w+1:=⟨m - 1,by omega⟩;rw[DX,dX (by omega)]⟩
 |k+1,j,c,seen,G,p,o,f=>by
  obtain⟨x,D⟩:=get_at (xs:=l) (i:=j) (by omega);have C:=de D;rw[C]at p o;have K:¬x∈seen:=λF=>by
   rw[aqL]at o;exact o.2.2 _ F _ (by simp) rfl
  have J:bJ (.i .i64) c x=none:=by rw[f,apQ K]
  have I:((seen++[x])++l.drop (j+1)).Nodup:=by rw[aqm];exact o
  obtain⟨q,O,P⟩:=OB h d a b z A v l H k (j+1) (dS (.i .i64) c x 1) (seen++[x]) (by omega) (λy M=>p y (by simp[M])) I (λy=>by
   rw[Q4,f];by_cases u:x=y
   ·subst u;simp
   ·have:¬y=x:=λe=>u e.symm
    simp[u,this])
  refine⟨q,λy=>by rw[O,C];simp,λN m t R=>?_⟩;obtain⟨m,rfl⟩:∃w,m=w+1:=⟨m - 1,by omega⟩;have E:wrap .i64 ((Option.getD (bJ (.i .i64) c x) (0:Int))+(1:Int))=1:=by rw[J];rfl
  rw[DX,eh (by omega),bd D,ob,E,Q4,apR rfl,dX (by simp),adN t h (p x (by simp)),ob,cE (by omega)];exact P N m t (by omega)
def OC{n g:Nat}{z:List Tk}{v:bq}{L H:aX}(h:y9 n g z v L H)(a:bM)(E:a.length<=8)(t:Bool)(u q:Int):∀(k j:Nat) (d:bh) (seen:aX),j+k=a.length->
 (∀y∈(a.drop j).flatten,y∈L)->(∀l∈a,l.length<=200)->(seen++(a.drop j).flatten).Nodup->(∀y,bJ (.i .i64) d y=if y∈seen then some 1 else none)->
 ∀N m,Fu+5<=N->k<m->xw N m (a,((a.length:Nat):Int),(j:Int),z,(g:Int),v,a,t,u,q,d)=some (.inl ())
 |0,j,d,seen,B,e,o,b,w,N,m,f,D=>by
  obtain⟨m,rfl⟩:∃r,m=r+1:=⟨m - 1,by omega⟩;rw[DY,dX (by omega)]
 |k+1,j,d,seen,B,e,o,b,w,N,m,f,D=>by
  obtain⟨m,rfl⟩:∃r,m=r+1:=⟨m - 1,by omega⟩;obtain⟨l,p⟩:=get_at (xs:=a) (i:=j) (by omega);have A:=de p;rw[A,aqu]at e b;have C:=o l (ap_ p);rw[<-aqm]at b;obtain⟨F,x,G⟩:=OB h a ((a.length:Nat):Int) (j:Int) t u q l C l.length 0 d seen (by omega) (λy c=>e y (by simp at c⊢;exact .inl c)) (by rw[aqG];exact(aqL.1 b).1) w;have I:=bQ;rw[DY,eh (by omega),bd p,ob];have:=G N N f (by omega);rw[show((0:Nat):Int)=0 from rfl]at this;rw[this,ob];simp only;rw[cE (by omega)];exact OC h a E t u q k (j+1) F (seen++l) (by omega) (λy c=>e y (by simp at c⊢;exact .inr c)) o b (by rw[aqG]at x;exact x) N m f (by omega)
structure OD(n g P:Nat)(ts:List Tk)(dn:bq)(dq:bM)(ov:Bool)(us:aX):Prop where
 job:y9 n g ts dn dq.flatten us
 pl:dq.length=P
 p1:1<=P
 p2:P<=8
 ovr:ov=true↔dq.flatten=[]
def tM:∀(b:bM) (p:Nat) (l:aX),b[p]? =some l->∃R:aX,b.flatten.Perm (l++R)/\∀c,(b.set p c).flatten.Perm (c++R)
 |[],p,l,h=>by simp at h
 |a::b,0,l,h=>by
  simp at h;subst h;exact⟨b.flatten,by rw[aqu],λc=>by rw[as0,aqu]⟩
 |a::b,p+1,l,h=>by
  obtain⟨R,d,e⟩:=tM b p l (by simpa using h);refine⟨a++R,?_,λc=>?_⟩
  ·rw[aqu]
   exact(d.append_left a).trans (auu a l R)
  ·rw[at7,aqu]
   exact((e c).append_left a).trans (auu a c R)
def y9.held{n g:Nat}{a:List Tk}{e:bq}{L o:aX}(h:y9 n g a e L o):L.length<=60:=by
 have m:∀M:aX,(∀x∈M,x∈L)->M.length<=(M.flatMap (HK a)).length:=by
  intro M
  induction M with
  |nil=>intro _;simp
  |cons x M l=>
   intro c;have f:=l λy k=>c y (by simp[k]);obtain⟨i,t,rfl,d,_⟩:=h.tr.lv x (c x (by simp));obtain⟨p,q,_⟩:=h.tr.sh i t d;have b:1<=(HK a (i:Int)).length:=by
    rw[mu d];unfold y8;rw[ap1,List.length_range];omega
   rw[aqr,aqb,aqf];omega
 have f:=m L λx j=>j;have b:=h.pu.length_eq;have r:=h.n2;rw[aqb]at b;have:(so n).length=n:=by simp[so]
 omega
def OD.short{n g P:Nat}{j:List Tk}{b:bq}{a:bM}{i:Bool}{k:aX}(h:OD n g P j b a i k):∀l∈a,l.length<=200:=λl e=>by
 obtain⟨p,f⟩:=atu e;obtain⟨R,c,_⟩:=tM a p l f;have m:=h.job.held;have d:=c.length_eq;rw[aqb]at d;omega
def YG{n g P:Nat}{k:List Tk}{i:bq}{e:bM}{f:Bool}{r:aX}(h:OD n g P k i e f r){d c:Int}(l:0<=d)(o:d<=100000)(p:0<=c)(q:c<=100000){N:Nat}(u:Fu+6<=N):
 I9 N (k,(g:Int),i,e,f,d,c)=some true:=by
 obtain⟨N,rfl⟩:∃m,N=m+1:=⟨N - 1,by omega⟩;have v:=h.pl;have w:=h.p1;have z:=h.p2;have t:=bQ;have cnt:∀x:Int,0<=x->x<=100000->Mq N x=some true:=λx a b=>by
  obtain⟨N,rfl⟩:∃m,N=m+1:=⟨N - 1,by omega⟩;rw[abE,eh a];simp[b]
 rw[XM,tF (by omega) h.job.ok,ob];simp only[ap9,apW];rw[dX (by omega),dX (by omega),cnt d l o,ob];simp only[ap9,apW];rw[cnt c p q,ob];simp only[ap9,apW];have:=OC h.job e (by omega) f d c e.length 0 [] [] (by omega) (λy j=>by rw[aqG]at j;exact j) h.short (by rw[aqG,aqC];exact h.job.tr.nd) (λy=>by simp[bJ]) N N (by omega) (by omega);rw[show((0:Nat):Int)=0 from rfl]at this;rw[this];rfl
def vR(P:Nat)(x:Int):Nat:=((x.tmod (P:Int)+(P:Int)).tmod (P:Int)).toNat
def Q6{P:Nat}(f:1<=P)(x:Int):0<=x.tmod (P:Int)+(P:Int)/\x.tmod (P:Int)+(P:Int)<2*P/\vR P x<P/\(x.tmod (P:Int)+(P:Int)).tmod (P:Int)=((vR P x:Nat):Int):=by
 have b:=Int.tmod_lt_of_pos x (show(0:Int)<(P:Int) by omega);have c: -(P:Int)<x.tmod (P:Int):=by
  have:=Int.lt_tmod_of_pos x (show(0:Int)<(P:Int) by omega);omega
 have a:0<=x.tmod (P:Int)+(P:Int):=by omega
 have d:=Int.tmod_lt_of_pos (x.tmod (P:Int)+(P:Int)) (show(0:Int)<(P:Int) by omega);have e:=Int.tmod_nonneg (P:Int) a;unfold vR;omega
def adP{P k:Nat}(a:k<P):vR P (k:Int)=k:=by
 unfold vR;rw[yq,asa a,show((k:Nat):Int)+(P:Int)=((k+P:Nat):Int) by omega,yq,ap2,Nat.add_mod_right,asa a]
def HL{N:Nat}(g:1<=N){P:Nat}(b:1<=P)(i:P<=8)(x:Int)(s:List Tk)(s2:Int)(s3:bq)(s4:Bool)(s5 s6 s7 s8 s9:Int)(s10:Bool)(h:bM)(c:h.length=P):
 My N (x,s,s2,s3,s4,s5,s6,s7,s8,s9,s10,h)=some (((vR P x:Nat):Int),h,s,s2,s3,s4,s5,s6,s7,s8,s9,s10):=by
 obtain⟨N,rfl⟩:∃m,N=m+1:=⟨N - 1,by omega⟩;obtain⟨d,e,f,a⟩:=Q6 b x;rw[abH,c,Jw (by omega),ob,gT (by omega) (by omega),Jw (by omega),ob,a]
def YH{α:Type}{a:List α}{k:Nat}(b:k<=a.length):K0 a 0 (k:Int) (k:Int)=some (a.take k):=by
 simp[K0,b]
section
variable(s:List Tk)(s2:Int)(s3:bq)(s4:Bool)(s5 s6 s7 s8 s9:Int)(s10:Bool)
def YI{N:Nat}(g:1<=N){a:bM}{p v:Nat}{A B:aX}{x:Int}(c:a[p]? =some (A++[x]))(d:a[v]? =some B)(f:A.length<=200):
 AQ N ((p:Int),(v:Int),s,s2,s3,s4,s5,s6,s7,s8,s9,s10,a)=some (true,a.set p A,s,s2,s3,s4,s5,s6,s7,(p:Int),x,s10):=by
 obtain⟨N,rfl⟩:∃m,N=m+1:=⟨N - 1,by omega⟩;have b:((A++[x]).length:Int) - 1=((A.length:Nat):Int):=by rw[aqb,ar0];omega
 have e:(A++[x])[A.length]? =some x:=by simp
 rw[DZ,bd c,ob,ob,bd d,ob,ob,b,gT (by omega) (by omega),eh (by omega),bd e,ob,YH (by simp),ob,eh rfl,ob,ob,ap2];simp
def OE{N:Nat}(f:1<=N){a:bM}{p v:Nat}{B:aX}{x:Int}(c:a[p]? =some [])(d:a[v]? =some (x::B))(e:B.length<=200):
 AQ N ((p:Int),(v:Int),s,s2,s3,s4,s5,s6,s7,s8,s9,s10,a)=some (true,a.set v B,s,s2,s3,s4,s5,s6,s7,(v:Int),x,s10):=by
 obtain⟨N,rfl⟩:∃m,N=m+1:=⟨N - 1,by omega⟩;have b:ba (x::B) 0=some x:=rfl;rw[DZ,bd c,ob,ob,bd d,ob,ob];rw[show((([]:aX).length:Nat):Int) - 1= -1 from rfl,gT (by omega) (by omega),dX (by omega),eh (by rw[aqf];omega),b,ob,sa (by omega) (by rw[aqf];omega),ob,ob,ob,ap2];rfl
def Q7{N:Nat}(d:1<=N){a:bM}{p v:Nat}(b:a[p]? =some [])(c:a[v]? =some []):
 AQ N ((p:Int),(v:Int),s,s2,s3,s4,s5,s6,s7,s8,s9,s10,a)=some (false,a,s,s2,s3,s4,s5,s6,s7,s8,s9,s10):=by
 obtain⟨N,rfl⟩:∃m,N=m+1:=⟨N - 1,by omega⟩;rw[DZ,bd b,ob,ob,bd c,ob,ob];rw[show((([]:aX).length:Nat):Int) - 1= -1 from rfl,gT (by omega) (by omega),dX (by omega),dX (by simp)]
end
abbrev Ev:=Int×Int×Int×Bool
def Q8(b:List Tk)(a:Ev):aX:=if a.2.2.2=true\/a.2.2.1<0 then []else HK b a.2.2.1
def ajT{n g P:Nat}{a:List Tk}{q:bq}{b:bM}{o:aX}{x:Int}(h:y9 n g a q (x::b.flatten) o)(A:b.length=P)(y:1<=P)(z:P<=8){p:Nat}{Q:aX}(C:b[p]? =some Q)(W:Q.length<=200):
 ∃(d:List Tk) (f:bq) (r:bM) (E:Bool) (F:aX) (par:Bool),OD n g P d f r E F/\lC a d/\left g a (x::b.flatten)=left g d r.flatten+1/\0<=x/\x<(d.length:Int)/\F=o++(if par=true then []else HK d x)/\
  ∀(N:Nat) (l k w j:Int),Fu+6<=N->MD N ((p:Int),a,(g:Int),q,false,l,k,w,j,x,false,b)=some (0,r,d,(g:Int),f,E,l,k,w,j,x,par):=by
 obtain⟨i,t,rfl,c,K⟩:=h.tr.lv x (by simp);obtain⟨S,U,V,_⟩:=h.tr.sh i t c;have H:=cQ c;have X:=h.len;by_cases u:(g:Int)<t.2.1 - t.1
 ·obtain⟨j1,j2⟩:=h.ajS c (by omega) (show Q3 t=_ from rfl)
  obtain⟨R,M,O⟩:=tM b p Q C;have v:((a.length:Int)::((a.length+1:Nat):Int)::b.flatten).Perm (b.set p (Q++[((a.length+1:Nat):Int),(a.length:Int)])).flatten:=by
   refine List.Perm.trans ?_ (O _).symm;rw[aqm];refine List.Perm.trans ?_ (auu Q _ R).symm;refine(List.Perm.swap _ _ _).trans ?_;exact(M.cons _).cons _
  have j3:=j1.perm v;refine⟨part a i t (Q3 t),q,b.set p (Q++[((a.length+1:Nat):Int),(a.length:Int)]),false,o,true,⟨j3,by rw[ard];exact A,y,z,⟨λe=>(by cases e),λe=>?_⟩⟩,lC.part c,?_,by omega,by rw[yK];omega,by simp,λN l k w j G=>?_⟩
  ·have:=v.length_eq
   rw[e]at this;simp at this
  ·rw[j2,z8 v]
  ·obtain⟨N,rfl⟩:∃m,N=m+1:=⟨N - 1,by omega⟩
   rw[ME,E7 (by omega) h.ok c,ob,eh u,CB (by omega) h.ok c K u,ob,eh rfl,bd C,ob,ob,agx (by omega),ob,cO (by omega) (by simp;omega),ob,ob,ob,ap2]
 ·obtain⟨L,d,f,j1,j2,D,I,J⟩:=amF h c (by omega)
  have B:lC a d:=D.2;refine⟨d,f,b,L,o++y8 t.1 t.2.1,false,⟨j1,A,y,z,I⟩,B,j2,by omega,by rw[D.1];omega,?_,λN l k w j G=>?_⟩
  ·rw[apQ (by simp),B.un H,mu c]
  ·obtain⟨N,rfl⟩:∃m,N=m+1:=⟨N - 1,by omega⟩
   rw[ME,E7 (by omega) h.ok c,ob,dX u,J N (by omega),ob];rfl
def step_eq{n g P:Nat}{d:List Tk}{l:bq}{b:bM}{H:aX}(h:OD n g P d l b false H){st idl:Int}(h1:0<=st)(h2:st<100000)(h3:0<=idl)(h4:idl<100000)(p v:Int):
 ∃(e:List Tk) (q:bq) (k:bM) (o:Bool) (u:aX) (t:Int) (f:Ev),OD n g P e q k o u/\lC d e/\u=H++Q8 e f/\f.2.2.1<(e.length:Int)/\
  ((0<=f.2.2.1/\t=idl/\left g d b.flatten=left g e k.flatten+1)\/(f.2.2.1= -1/\t=idl+1/\e=d/\k=b/\o=false))/\
  (b[vR P p]? ≠some []->0<=f.2.2.1)/\
  ∀N,Fu+8<=N->zK N (d,(g:Int),l,b,false,st,idl,p,v)=some (0,e,(g:Int),q,k,o,st+1,t,f):=by
 have G:=h.pl;have z:=h.p1;have I:=h.p2;obtain⟨_,_,np,_⟩:=Q6 z p;obtain⟨_,_,nv,_⟩:=Q6 z v;obtain⟨own,r⟩:=get_at (xs:=b) (i:=vR P p) (by omega);obtain⟨U,C⟩:=get_at (xs:=b) (i:=vR P v) (by omega);have V:=h.short own (ap_ r);have a3:=h.short U (ap_ C);have S:∀N,Fu+7<=N->zK (N+1) (d,(g:Int),l,b,false,st,idl,p,v)=aW (AQ N (((vR P p:Nat):Int),((vR P v:Nat):Int),d,(g:Int),l,false,st+1,idl,((vR P p:Nat):Int),-1,-1,false,b)) λc=>
  cond c.1
   (aW (MD N (((vR P p:Nat):Int),(c.2.2.1,(c.2.2.2.1,(c.2.2.2.2.1,(c.2.2.2.2.2.1,(c.2.2.2.2.2.2.1,(c.2.2.2.2.2.2.2.1,(c.2.2.2.2.2.2.2.2.1,(c.2.2.2.2.2.2.2.2.2.1,(c.2.2.2.2.2.2.2.2.2.2.1,(c.2.2.2.2.2.2.2.2.2.2.2,c.2.1)))))))))))) λj=>
    cond (!(decide (j.1=(0:Int))))
     (some (j.1,(d,((g:Int),(l,(b,(false,(st,(idl,((0:Int),((0:Int),((0:Int),false))))))))))))
     (some ((0:Int),(j.2.2.1,(j.2.2.2.1,(j.2.2.2.2.1,(j.2.1,(j.2.2.2.2.2.1,(j.2.2.2.2.2.2.1,(j.2.2.2.2.2.2.2.1,(j.2.2.2.2.2.2.2.2.1,(j.2.2.2.2.2.2.2.2.2.1,(j.2.2.2.2.2.2.2.2.2.2.1,j.2.2.2.2.2.2.2.2.2.2.2)))))))))))))
   (cond (decide (c.2.2.2.2.2.2.2.1=(100000:Int)))
    (some ((2:Int),(d,((g:Int),(l,(b,(false,(st,(idl,((0:Int),((0:Int),((0:Int),false))))))))))))
    (some ((0:Int),(c.2.2.1,(c.2.2.2.1,(c.2.2.2.2.1,(c.2.1,(c.2.2.2.2.2.1,(c.2.2.2.2.2.2.1,((wrap .i64 (c.2.2.2.2.2.2.2.1+(1:Int))),(c.2.2.2.2.2.2.2.2.1,(c.2.2.2.2.2.2.2.2.2.1,(c.2.2.2.2.2.2.2.2.2.2.1,c.2.2.2.2.2.2.2.2.2.2.2))))))))))))):=λN F=>by
  rw[XP,YG h h1 (by omega) h3 (by omega) (by omega),ob];simp only[ap9,apW];rw[dX (by omega),YF (by omega) b (by omega),ob,HL (by omega) z I p _ _ _ _ _ _ _ _ _ _ b G,ob,HL (by omega) z I v _ _ _ _ _ _ _ _ _ _ b G,ob];dsimp only;rw[gT (x:=st+1) (by omega) (by omega)]
 have L:∀(w:bM) (x E:Int),(x::w.flatten).Perm b.flatten->w.length=P->(∀N,Fu+7<=N->AQ N (((vR P p:Nat):Int),((vR P v:Nat):Int),d,(g:Int),l,false,st+1,idl,((vR P p:Nat):Int),-1,-1,false,b)=some (true,w,d,(g:Int),l,false,st+1,idl,((vR P p:Nat):Int),E,x,false))->
  ∃(e:List Tk) (q:bq) (k:bM) (o:Bool) (u:aX) (t:Int) (f:Ev),OD n g P e q k o u/\lC d e/\u=H++Q8 e f/\f.2.2.1<(e.length:Int)/\
  ((0<=f.2.2.1/\t=idl/\left g d b.flatten=left g e k.flatten+1)\/(f.2.2.1= -1/\t=idl+1/\e=d/\k=b/\o=false))/\
  (b[vR P p]? ≠some []->0<=f.2.2.1)/\
  ∀N,Fu+8<=N->zK N (d,(g:Int),l,b,false,st,idl,p,v)=some (0,e,(g:Int),q,k,o,st+1,t,f):=by
  intro w x E J a1 hf;obtain⟨Q,O⟩:=get_at (xs:=w) (i:=vR P p) (by omega);have a0:Q.length<=200:=by
   obtain⟨R,D,_⟩:=tM w (vR P p) Q O;have e1:=D.length_eq;have e2:=J.length_eq;have e3:=h.job.held;rw[aqb]at e1;rw[aqf]at e2;omega
  obtain⟨e,q,k,o,u,par,W,X,Y,M,Z,c6,c7⟩:=ajT (h.job.perm J.symm) a1 z I O a0;refine⟨e,q,k,o,u,idl,(((vR P p:Nat):Int),E,x,par),W,X,?_,Z,.inl ⟨M,rfl,by rw[<-Y];exact z8 J.symm⟩,λ_=>M,λN F=>?_⟩
  ·rw[c6]
   unfold Q8;have:¬x<0:=by omega
   cases par<;>simp[this]
  ·obtain⟨N,rfl⟩:∃m,N=m+1:=⟨N - 1,by omega⟩
   rw[S N (by omega),hf N (by omega),ob];simp only[aqh];rw[c7 N (st+1) idl _ E (by omega),ob,y6 rfl]
 rcases auX own with rfl|⟨A,x,rfl⟩
 ·cases U with
  |nil=>
   refine⟨d,l,b,false,H,idl+1,(((vR P p:Nat):Int),-1,-1,false),h,lC.refl d,by simp[Q8],by show(-1:Int)<_;omega,.inr ⟨rfl,rfl,rfl,rfl,rfl⟩,λa2=>absurd r a2,λN F=>?_⟩;obtain⟨N,rfl⟩:∃m,N=m+1:=⟨N - 1,by omega⟩;rw[S N (by omega),Q7 _ _ _ _ _ _ _ _ _ _ (by omega) r C,ob];simp only[apW];rw[dX (by omega),gT (by omega) (by omega)]
  |cons y B=>
   obtain⟨R,D,K⟩:=tM b (vR P v) (y::B) C;refine L (b.set (vR P v) B) y ((vR P v:Nat):Int) (((K B).cons y).trans D.symm) (by rw[ard];exact G) λN F=>?_;exact OE _ _ _ _ _ _ _ _ _ _ (by omega) r C (by rw[aqf]at a3;omega)
 ·rw[auY]at r V
  obtain⟨R,D,K⟩:=tM b (vR P p) (A++[x]) r;refine L (b.set (vR P p) A) x ((vR P p:Nat):Int) ?_ (by rw[ard];exact G) λN F=>?_
  ·refine((K A).cons x).trans (List.Perm.trans ?_ D.symm)
   rw[aqm];exact(List.perm_middle (a:=x) (l₁:=A) (l₂:=R)).symm
  ·exact YI _ _ _ _ _ _ _ _ _ _ (by omega) r C (by rw[aqb]at V;omega)
structure yM where
 ts:List Tk
 dn:bq
 dq:bM
 ov:Bool
 idl:Int
 qz:List Ev
abbrev DT:=List Tk×Int×bq×bM×Bool×Int×Int×List Ev
def yM.arg(s:yM)(g:Nat):DT:=(s.ts,(g:Int),s.dn,s.dq,s.ov,((s.qz.length:Nat):Int),s.idl,s.qz)
def OF(b:List Ev):Nat:=b.countP λa=>decide (0<=a.2.2.1)
structure qA(n g P:Nat)(s:yM):Prop where
 cr:OD n g P s.ts s.dn s.dq s.ov (s.qz.flatMap (Q8 s.ts))
 ev:∀ev∈s.qz,ev.2.2.1<(s.ts.length:Int)
 did:OF s.qz+left g s.ts s.dq.flatten=tn g n
 idl:s.idl=((s.qz.length:Nat):Int) - ((OF s.qz:Nat):Int)
def agz(a:List Ev):OF a<=a.length:=ata
def adQ{b c:List Tk}(h:lC b c){a:Ev}(e:a.2.2.1<(b.length:Int)):Q8 c a=Q8 b a:=by
 unfold Q8;split
 ·rfl
 ·rename_i f
  obtain⟨k,d⟩:∃k:Nat,a.2.2.1=(k:Int):=⟨a.2.2.1.toNat,by omega⟩;rw[d];exact h.un (by omega)
def ahN{n g P:Nat}{s:yM}(h:qA n g P s)(F:s.ov=false)(R:s.qz.length<100000)(p v:Int):
 ∃b:yM,qA n g P b/\b.qz.length=s.qz.length+1/\(left g b.ts b.dq.flatten<left g s.ts s.dq.flatten\/(b.dq=s.dq/\b.ts=s.ts/\b.ov=false/\s.dq[vR P p]? =some []))/\
  ∀N,Fu+9<=N->MF N (p,v,s.arg g)=some ((0:Int),b.arg g):=by
 obtain⟨q,dn,L,ov,W,f⟩:=s;obtain⟨D,w,O,Q⟩:=h;simp only at F R D w O Q;subst F;have a0:=agz f;obtain⟨x,K,M,Y,Z,X,k,G,z,H,I,r,A,J⟩:=step_eq D (st:=((f.length:Nat):Int)) (idl:=W) (by omega) (by omega) (by omega) (by omega) p v;have V:Z=(f++[k]).flatMap (Q8 x):=by
  rw[H,auv,List.flatMap_singleton];refine ap5 (·++_) ?_;rw[atA,atA,aqJ λe a=>adQ z (w e a)]
 have a1:q.length<=x.length:=by
  by_cases B:q.length=0
  ·omega
  ·obtain⟨t,S⟩:=get_at (xs:=q) (i:=q.length - 1) (by omega)
   obtain⟨t',U,_⟩:=z _ t S;have:=cQ U;omega
 have C:OF (f++[k])=OF f+(if 0<=k.2.2.1 then 1 else 0):=by
  unfold OF;rw[asx,aut];by_cases B:0<=k.2.2.1<;>simp[B]
 refine⟨⟨x,K,M,Y,X,f++[k]⟩,⟨by simp only;rw[<-V];exact G,λe a=>?_,?_,?_⟩,by simp,?_,λN hN=>?_⟩
 ·simp only at a⊢
  rcases ap3.1 a with a|a
  ·have:=w e a;omega
  ·rw[aqe.1 a];exact I
 ·simp only
  rw[C];rcases r with⟨c,j,d⟩|⟨c,j,d,o,u⟩
  ·rw[apR c];omega
  ·rw[apQ (by omega),d,o];omega
 ·simp only
  rw[C,aqb,ar0];rcases r with⟨c,j,d⟩|⟨c,j,d,o,u⟩
  ·rw[apR c];omega
  ·rw[apQ (by omega)];omega
 ·simp only
  rcases r with⟨c,j,d⟩|⟨c,j,d,o,u⟩
  ·left;omega
  ·right
   refine⟨o,d,u,?_⟩;cases E:L[vR P p]? with
   |none=>
    have:=A (by rw[E];simp);omega
   |some l=>
    cases l with
    |nil=>rfl
    |cons y l=>
     have:=A (by rw[E];simp);omega
 ·obtain⟨N,rfl⟩:∃m,N=m+1:=⟨N - 1,by omega⟩
  simp only[yM.arg];rw[abO,J N (by omega),ob,eh rfl,cO (by omega) (by simp;omega),ob,aqb,ar0];rfl
def E8{n g P:Nat}(f:bh)(w:f.length<=200)(a:Int)(b:Bool)(c d:Int):∀(k i:Nat) (s:yM),i+k=f.length->qA n g P s->s.qz.length+k<100000->
 ∃p:yM,qA n g P p/\p.qz.length<=s.qz.length+k/\∀N m,Fu+9<=N->k<m->xA N m (f,((f.length:Nat):Int),(i:Int),a,b,c,d,s.arg g)=some (.inl (a,b,c,d,p.arg g))
 |0,i,s,v,o,u=>⟨s,o,by omega,λN m j r=>by
  obtain⟨m,rfl⟩:∃h,m=h+1:=⟨m - 1,by omega⟩;simp only[yM.arg];rw[zL,dX (by omega)]⟩
 |k+1,i,s,v,o,u=>by
  obtain⟨x,t⟩:=get_at (xs:=f) (i:=i) (by omega);cases l:s.ov with
  |true=>
   refine⟨s,o,by omega,λN m j r=>?_⟩;obtain⟨m,rfl⟩:∃h,m=h+1:=⟨m - 1,by omega⟩;simp only[yM.arg];rw[zL,eh (by omega),bd t,ob,l];rfl
  |false=>
   obtain⟨C,y,D,_,z⟩:=ahN o l (by omega) x.1 x.2;obtain⟨s2,A,E,B⟩:=E8 f w a b c d k (i+1) C (by omega) y (by omega);refine⟨s2,A,by omega,λN m j r=>?_⟩;obtain⟨m,rfl⟩:∃h,m=h+1:=⟨m - 1,by omega⟩;have e:=z N j;have q:=B N m j (by omega);simp only[yM.arg]at e q⊢;rw[zL,eh (by omega),bd t,ob,l];simp only[apW];rw[l]at e;rw[e,ob,y6 rfl,cE (by omega)];exact q
def HM(a:bM)(e:a.length<=8)(d:∀l∈a,l.length<=200):∀(k i:Nat) (x:Nat),i+k=a.length->x<=200*i->∀N m,k<m->
 xz N m ((x:Int),a,((a.length:Nat):Int),(i:Int))=some (((x+(a.drop i).flatten.length:Nat)):Int)
 |0,i,x,f,h,N,m,g=>by
  obtain⟨m,rfl⟩:∃c,m=c+1:=⟨m - 1,by omega⟩;rw[D1,dX (by omega),aqP (by omega)];rfl
 |k+1,i,x,f,h,N,m,g=>by
  obtain⟨m,rfl⟩:∃c,m=c+1:=⟨m - 1,by omega⟩;obtain⟨l,b⟩:=get_at (xs:=a) (i:=i) (by omega);have j:=d l (ap_ b);rw[D1,eh (by omega),bd b,ob,gT (by omega) (by omega),cE (by omega),show(x:Int)+((l.length:Nat):Int)=((x+l.length:Nat):Int) by omega,HM a e d k (i+1) (x+l.length) (by omega) (by omega) N m (by omega),de b,aqu,aqb];simp only[apU];omega
def agA{n g P:Nat}{s:yM}(h:qA n g P s){N:Nat}(e:Fu+1<=N)(c a:Int)(b:Bool):Jb N (s.ts,(g:Int),s.dn,s.dq,b,c,a)=some ((s.dq.flatten.length:Nat):Int):=by
 obtain⟨N,rfl⟩:∃m,N=m+1:=⟨N - 1,by omega⟩;have d:=bQ;have f:=h.cr.pl;have i:=h.cr.p2;have:=HM s.dq (by omega) h.cr.short s.dq.length 0 0 (by omega) (by omega) N N (by omega);rw[XQ];rw[show((0:Nat):Int)=0 from rfl]at this;rw[this,ob,aqG,aqq]
def E9{n g P:Nat}(r:Int)(l:Nat):∀(j k:Nat) (s:yM),k+j=P->qA n g P s->s.qz.length+j<100000->((∃q,k<=q/\q<P/\s.dq[q]? ≠some [])\/left g s.ts s.dq.flatten<l)->left g s.ts s.dq.flatten<=l->
 ∃b:yM,qA n g P b/\b.qz.length<=s.qz.length+j/\
  ((b.ov=true/\(s.ov=true->b=s)/\∀N m,Fu+10<=N->j<m->pz N m (r,(P:Int),(k:Int),s.arg g)=some (.inr ((0:Int),b.arg g)))\/
   (left g b.ts b.dq.flatten<l/\(0<j->s.ov=false)/\∀N m,Fu+10<=N->j<m->pz N m (r,(P:Int),(k:Int),s.arg g)=some (.inl (r,b.arg g))))
 |0,k,s,H,d,G,c,A=>⟨s,d,by omega,.inr ⟨by
  rcases c with⟨q,B,J,_⟩|c
  ·omega
  ·exact c,λh=>by omega,λN m a w=>by
  obtain⟨m,rfl⟩:∃f,m=f+1:=⟨m - 1,by omega⟩;simp only[yM.arg];rw[oz,dX (by omega)]⟩⟩
 |j+1,k,s,H,d,G,c,A=>by
  have R:=d.cr.p2;cases o:s.ov with
  |true=>
   refine⟨s,d,by omega,.inl ⟨o,λ_=>rfl,λN m a w=>?_⟩⟩;obtain⟨m,rfl⟩:∃f,m=f+1:=⟨m - 1,by omega⟩;simp only[yM.arg];rw[oz,eh (by omega),o];rfl
  |false=>
   have I:s.dq.flatten≠[]:=λe=>by
    have:=d.cr.ovr.2 e;rw[o]at this;cases this
   have Q:0<s.dq.flatten.length:=arD.2 I;obtain⟨i,B,J,t,K⟩:=ahN d o (by omega) (k:Int) (wrap .i64 ((wrap .i64 ((k:Int)+(1:Int)))+r));have E:(∃q,k+1<=q/\q<P/\i.dq[q]? ≠some [])\/left g i.ts i.dq.flatten<l:=by
    rcases t with t|⟨p,u,D,v⟩
    ·right;omega
    ·rw[adP (by omega)]at v
     rcases c with⟨q,O,C,z⟩|c
     ·have:q≠k:=λe=>z (e▸v)
      exact .inl ⟨q,by omega,C,by rw[p];exact z⟩
     ·right;rw[p,u];exact c
   have F:left g i.ts i.dq.flatten<=l:=by
    rcases t with t|⟨p,u,D,v⟩
    ·omega
    ·rw[p,u];exact A
   have step:∀N m,Fu+10<=N->pz N (m+1) (r,(P:Int),(k:Int),s.arg g)=pz N m (r,(P:Int),((k+1:Nat):Int),i.arg g):=λN m a=>by
    have e:=K N (by omega);have e0:=agA d (N:=N) (by omega) ((s.qz.length:Nat):Int) s.idl false;simp only[yM.arg]at e⊢;rw[o]at e;rw[oz,eh (by omega),o];simp only[apW];rw[e0,ob,dX (by omega),e,ob,y6 rfl,cE (by omega)]
   obtain⟨s2,L,S,M⟩:=E9 r l j (k+1) i (by omega) B (by omega) E F;refine⟨s2,L,by omega,?_⟩;rcases M with⟨x,_,y⟩|⟨x,_,y⟩
   ·refine .inl ⟨x,λe=>(by cases e),λN m a w=>?_⟩
    obtain⟨m,rfl⟩:∃f,m=f+1:=⟨m - 1,by omega⟩;rw[step N m a];exact y N m a (by omega)
   ·refine .inr ⟨x,λ_=>rfl,λN m a w=>?_⟩
    obtain⟨m,rfl⟩:∃f,m=f+1:=⟨m - 1,by omega⟩;rw[step N m a];exact y N m a (by omega)
def OG{n g P:Nat}:∀(R:Nat) (r:Int) (s:yM),qA n g P s->left g s.ts s.dq.flatten<=R->s.qz.length+P*R+P<100000->
 ∃i:yM,qA n g P i/\i.ov=true/\i.qz.length<=s.qz.length+P*left g s.ts s.dq.flatten/\∀N m,Fu+10<=N->R<m->Cd N m (r,s.arg g)=some ((0:Int),i.arg g):=by
 intro R
 induction R with
 |zero=>
  intro r s a z A;have y:s.dq.flatten=[]:=by
   have:=a.cr.job.len.2.1;exact auk.1 (by omega)
  have f:=a.cr.ovr.2 y;have D:=a.cr.p1;have E:=a.cr.p2;refine⟨s,a,f,by omega,λN m d k=>?_⟩;obtain⟨m,rfl⟩:∃b,m=b+1:=⟨m - 1,by omega⟩;obtain⟨w,rfl⟩:∃b,N=b+1:=⟨N - 1,by omega⟩;simp only[yM.arg];rw[tv,a.cr.pl,oz,eh (by omega),f];rfl
 |succ R H=>
  intro r s a z A;have D:=a.cr.p1;have E:=a.cr.p2;have U:P*(R+1)=P*R+P:=Nat.mul_succ P R;have M:=bQ;cases f:s.ov with
  |true=>
   refine⟨s,a,f,by omega,λN m d k=>?_⟩;obtain⟨m,rfl⟩:∃b,m=b+1:=⟨m - 1,by omega⟩;obtain⟨w,rfl⟩:∃b,N=b+1:=⟨N - 1,by omega⟩;simp only[yM.arg];rw[tv,a.cr.pl,oz,eh (by omega),f];rfl
  |false=>
   have t:s.dq.flatten≠[]:=λe=>by
    have:=a.cr.ovr.2 e;rw[f]at this;cases this
   have h:∃q,0<=q/\q<P/\s.dq[q]? ≠some []:=by
    obtain⟨x,F⟩:=asU _ t;obtain⟨l,C,G⟩:=arR.1 F;obtain⟨q,h⟩:=atu C;refine⟨q,aql _,by rw[<-a.cr.pl];exact cQ h,λe=>?_⟩;rw[h]at e;cases e;cases G
   have Q:1<=left g s.ts s.dq.flatten:=by
    have:=a.cr.job.len.2.1;have:=arD.2 t;omega
   obtain⟨j,u,V,I⟩:=E9 r (left g s.ts s.dq.flatten) P 0 s (by omega) a (by omega) (.inl h) (apT _);obtain⟨c,B⟩:∃c,left g s.ts s.dq.flatten=c+1:=⟨left g s.ts s.dq.flatten - 1,by omega⟩;have S:P*left g s.ts s.dq.flatten=P*c+P:=by rw[B];exact Nat.mul_succ P c
   rcases I with⟨v,_,o⟩|⟨v,_,o⟩
   ·refine⟨j,u,v,by omega,λN m d k=>?_⟩
    obtain⟨m,rfl⟩:∃b,m=b+1:=⟨m - 1,by omega⟩;have e:=o N N d (by omega);simp only[yM.arg]at e⊢;rw[show((0:Nat):Int)=0 from rfl]at e;rw[tv,a.cr.pl,e,ob]
   ·obtain⟨s2,J,K,W,L⟩:=H (wrap .i64 (r+(1:Int))) j u (by omega) (by omega)
    have O:P*left g j.ts j.dq.flatten<=P*c:=arL P (by omega);refine⟨s2,J,K,by omega,λN m d k=>?_⟩;obtain⟨m,rfl⟩:∃b,m=b+1:=⟨m - 1,by omega⟩;have e:=o N N d (by omega);have p:=L N m d (by omega);simp only[yM.arg]at e p⊢;rw[show((0:Nat):Int)=0 from rfl]at e;rw[tv,a.cr.pl,e,ob];exact p
def iI(n P:Nat):yM:=⟨[((0:Int),(n:Int),(-1:Int),(0:Int))],List.replicate n false,(List.replicate P ([]:aX)).set 0 [0],false,0,[]⟩
def Q9{P:Nat}(a:1<=P):((List.replicate P ([]:aX)).set 0 [0]).flatten=[0]:=by
 obtain⟨P,rfl⟩:∃q,P=q+1:=⟨P - 1,by omega⟩;rw[ark,as0,aqu,List.flatten_replicate_nil];rfl
def Q_{n g P:Nat}(b:1<=n)(c:n<=60)(d:1<=g)(e:g<=8)(f:1<=P)(h:P<=8):qA n g P (iI n P):=by
 have a:=Q9 f;refine⟨⟨?_,by simp[iI],f,h,?_⟩,λj i=>(by simp[iI]at i),?_,by simp[iI,OF]⟩
 ·simp only[iI,a,aty]
  exact y9.first b c d e
 ·simp only[iI,a];simp
 ·have:=(y9.first (g:=g) b c d e).nb
  simp only[iI,a,OF,List.countP_nil];simp only[aqf,aqI]at this;omega
def adR{n g P:Nat}(b:1<=n)(c:n<=60)(d:1<=g)(e:g<=8)(h:1<=P)(i:P<=8){N:Nat}(j:3<=N):
 I7 N ((n:Int),(g:Int),(P:Int))=some ((0:Int),(iI n P).ts,(g:Int),(iI n P).dn,(iI n P).dq,false,0,0):=by
 obtain⟨N,rfl⟩:∃m,N=m+1:=⟨N - 1,by omega⟩;have f:I6 N ((n:Int),(g:Int))=some ((0:Int),[((0:Int),(n:Int),(-1:Int),(0:Int))],(g:Int),List.replicate n false):=by
  obtain⟨N,rfl⟩:∃m,N=m+1:=⟨N - 1,by omega⟩;rw[XF,E2 (by omega) b c d e,ob];simp only[ap9,apW];rw[mj (by omega) (by omega) (by omega),ob,ap2]
 have a:ba (List.replicate P ([]:aX)) 0=some []:=by
  obtain⟨P,rfl⟩:∃q,P=q+1:=⟨P - 1,by omega⟩;rfl
 rw[XG,dX (by omega),dX (by omega),f,ob,y6 rfl,mj (by omega) (by omega) (by omega),ob,ap2,a,ob,ob];rfl
def adS{n g P:Nat}(c:1<=n)(j:n<=60)(d:1<=g)(k:g<=8)(l:1<=P)(e:P<=8)(a:bh)(w:a.length<=200):
 ∃s:yM,qA n g P s/\s.ov=true/\s.qz.length<=a.length+P*tn g n/\∀N,Fu+12<=N->MJ N ((n:Int),(g:Int),(P:Int),a)=some ((0:Int),s.arg g):=by
 have z:=bQ;have v:=Q_ c j d k l e;obtain⟨b,f,x,p⟩:=E8 (g:=g) a w 0 false 0 0 a.length 0 (iI n P) (by omega) v (by simp[iI];omega);have E:=OA d n n (apT _) c;have o:left g b.ts b.dq.flatten<=tn g n:=by have:=f.did;omega
 have C:P*left g b.ts b.dq.flatten<=P*tn g n:=arL P o;have D:P*tn g n<=8*119:=arp e (by omega);have B:(iI n P).qz.length=0:=rfl;obtain⟨s2,q,r,y,t⟩:=OG (tn g n) 0 b f o (by omega);refine⟨s2,q,r,by omega,λN A=>?_⟩;obtain⟨N,rfl⟩:∃m,N=m+1:=⟨N - 1,by omega⟩;have h:=p N N (by omega) (by omega);rw[abR,adR c j d k l e (by omega),ob,y6 rfl];rw[show((0:Nat):Int)=0 from rfl]at h;have u:xA N N (a,((a.length:Nat):Int),0,0,false,0,0,(iI n P).ts,(g:Int),(iI n P).dn,(iI n P).dq,false,0,0,[])=some (.inl (0,false,0,0,b.arg g)):=h;simp only;rw[u,ob];obtain⟨N,rfl⟩:∃m,N=m+1:=⟨N - 1,by omega⟩;have i:=t N N (by omega) (by omega);simp only[yM.arg]at i⊢;rw[abQ,i,ob,ob]
def adT{a b:Int}(h:a<b):y8 a b=a::y8 (a+1) b:=by
 rw[<-V2 (a:=a) (m:=a+1) (b:=b) (by omega) (by omega)];have:y8 a (a+1)=[a]:=by
  unfold y8;rw[show(a+1 - a).toNat=1 by omega];simp
 rw[this];rfl
def agB{a b:Int}(h:b<=a):y8 a b=[]:=by
 unfold y8;rw[show(b - a).toNat=0 by omega];rfl
def V4(a b:Int):(y8 a b).length=(b - a).toNat:=by simp[y8]
def HN(b:List Tk)(a:Ev):bh:=if a.2.2.2=true\/a.2.2.1<0 then []else match b[a.2.2.1.toNat]? with
 |some t=>[(t.1,t.2.1)]
 |none=>[]
def YJ(b:List Tk)(a:Ev):(HN b a).flatMap (λs=>y8 s.1 s.2)=Q8 b a:=by
 unfold HN Q8;split
 ·rfl
 ·unfold HK
  cases c:b[a.2.2.1.toNat]? with
  |some t=>simp
  |none=>rfl
def Bl(c:List Tk)(g:Int)(n:bq)(o:bM)(v:Bool)(w u:Int)(b:List Ev)(z:b.length<=100000)(p:∀a∈b,a.2.2.1<(c.length:Int)):∀(k i:Nat) (d:bh),i+k=b.length->d.length<=i->∀N m,k<m->
 pA N m (b,((b.length:Nat):Int),(i:Int),c,g,n,o,v,w,u,d)=some (d++(b.drop i).flatMap (HN c))
 |0,i,d,y,B,N,m,A=>by
  obtain⟨m,rfl⟩:∃l,m=l+1:=⟨m - 1,by omega⟩;rw[GY,dX (by omega),aqP (by omega)];simp
 |k+1,i,d,y,B,N,m,A=>by
  obtain⟨m,rfl⟩:∃l,m=l+1:=⟨m - 1,by omega⟩;obtain⟨a,h⟩:=get_at (xs:=b) (i:=i) (by omega);have E:=p a (ap_ h);have j:=λD C=>Bl c g n o v w u b z p k (i+1) D (by omega) C N m (by omega);rw[GY,eh (by omega),bd h,ob,cb,cE (by omega),de h,aqr];by_cases f:a.2.2.2=true
  ·rw[apR f,j d (by omega)]
   have:HN c a=[]:=by unfold HN;rw[apR (.inl f)]
   rw[this];rfl
  ·rw[apQ f,cd]
   by_cases e:a.2.2.1<0
   ·rw[apR e,j d (by omega)]
    have:HN c a=[]:=by unfold HN;rw[apR (.inr e)]
    rw[this];rfl
   ·rw[apQ e,dX (by omega)]
    obtain⟨x,r⟩:∃x:Nat,a.2.2.1=(x:Int):=⟨a.2.2.1.toNat,by omega⟩;obtain⟨t,q⟩:=get_at (xs:=c) (i:=x) (by omega);rw[r,bd q,ob,cO (by omega) (by simp;omega),ob,j _ (by rw[aqb,ar0];omega)];have:HN c a=[(t.1,t.2.1)]:=by
     unfold HN;rw[apQ (by simp[f,e]),r,ap2,q]
    rw[this,aqm]
def Bm(a b:Int)(l:List Ev)(s s2:Int)(v:bh)(f:0<=s)(g:s2<=60)(c:Nat)(h:s+(c:Int)=s2):∀(k j:Nat) (d:aX),j+k=c->d.length+k<=1000->∀N m,k<m->
 xB N m (a,b,(c:Int),(j:Int),l,d,s,s2,v)=some (a,b,l,d++y8 (s+(j:Int)) s2,v)
 |0,j,d,i,o,N,m,n=>by
  obtain⟨m,rfl⟩:∃e,m=e+1:=⟨m - 1,by omega⟩;rw[D2,dX (by omega),agB (by omega),aqy]
 |k+1,j,d,i,o,N,m,n=>by
  obtain⟨m,rfl⟩:∃e,m=e+1:=⟨m - 1,by omega⟩;rw[D2,eh (by omega),gT (x:=s+(j:Int)) (by omega) (by omega),cO (by omega) (by simp;omega),ob,cE (by omega),
   Bm a b l s s2 v f g c h k (j+1) _ (by omega) (by rw[aqb,ar0];omega) N m (by omega),adT (a:=s+(j:Int)) (by omega),aqm]
  rw[show s+((j+1:Nat):Int)=s+(j:Int)+1 by omega];rfl
def Bn(l:List Ev)(v:bh)(r:v.length<=100000)(g:∀s∈v,0<=s.1/\s.1<=s.2/\s.2<=60):∀(k i:Nat) (a:aX),i+k=v.length->a.length+((v.drop i).flatMap λs=>y8 s.1 s.2).length<=1000->∀N m,Fu<=N->k<m->
 xC N m (((v.length:Nat):Int),(i:Int),l,a,v)=some (l,a++(v.drop i).flatMap λs=>y8 s.1 s.2)
 |0,i,a,p,h,N,m,f,q=>by
  obtain⟨m,rfl⟩:∃d,m=d+1:=⟨m - 1,by omega⟩;rw[D3,dX (by omega),aqP (by omega)];simp
 |k+1,i,a,p,h,N,m,f,q=>by
  obtain⟨m,rfl⟩:∃d,m=d+1:=⟨m - 1,by omega⟩;obtain⟨s,b⟩:=get_at (xs:=v) (i:=i) (by omega);obtain⟨j,t,n⟩:=g s (ap_ b);rw[de b,aqr,aqb,V4]at h;obtain⟨c,o⟩:∃c:Nat,s.2 - s.1=(c:Int):=⟨(s.2 - s.1).toNat,by omega⟩;have u:=bQ;have e:=Bm ((v.length:Nat):Int) (i:Int) l s.1 s.2 v j n c (by omega) c 0 a (by omega) (by omega) N N (by omega);rw[show((0:Nat):Int)=0 from rfl,Int.add_zero]at e;rw[D3,eh (by omega),bd b,ob,ob,gT (by omega) (by omega),o,e,ob];dsimp only;rw[cE (by omega),Bn l v r g k (i+1) _ (by omega) (by rw[aqb,V4];omega) N m f (by omega),de b,aqr,aqm]
def adU{n g P:Nat}(y:1<=n)(z:n<=60)(A:1<=g)(B:g<=8)(C:1<=P)(D:P<=8){d:bh}(G:d.length<=200){s:yM}(f:qA n g P s)(o:s.qz.length<=100000)(v:∀N,Fu+12<=N->MJ N ((n:Int),(g:Int),(P:Int),d)=some ((0:Int),s.arg g)){N:Nat}(F:Fu+13<=N):
 kj N ((n:Int),(g:Int),(P:Int),d)=some (((s.qz.length:Nat):Int),0,s.qz.flatMap (Q8 s.ts)):=by
 obtain⟨N,rfl⟩:∃m,N=m+1:=⟨N - 1,by omega⟩;have E:=bQ;have l:I5 N ((g:Int),(P:Int),d)=some true:=by
  obtain⟨N,rfl⟩:∃m,N=m+1:=⟨N - 1,by omega⟩;rw[GW,eh (by omega),eh (by omega),eh (by omega),eh (by omega)];simp only[apU,aqQ];omega
 have h:Ug N (s.arg g)=some (s.qz.flatMap (HN s.ts)):=by
  obtain⟨N,rfl⟩:∃m,N=m+1:=⟨N - 1,by omega⟩;have:=Bl s.ts (g:Int) s.dn s.dq s.ov ((s.qz.length:Nat):Int) s.idl s.qz o f.ev s.qz.length 0 [] (by omega) (by simp) N N (by omega);rw[show((0:Nat):Int)=0 from rfl,aqG,aqC]at this;simp only[yM.arg];rw[abS,this,ob]
 have j:(s.qz.flatMap (HN s.ts)).flatMap (λq=>y8 q.1 q.2)=s.qz.flatMap (Q8 s.ts):=by
  rw[List.flatMap_assoc];rw[show(λb=>(HN s.ts b).flatMap λq=>y8 q.1 q.2)=Q8 s.ts from funext λb=>YJ s.ts b]
 have H:(s.qz.flatMap (Q8 s.ts)).length<=60:=by
  have:=f.cr.job.pu.length_eq;rw[aqb]at this;have e:(so n).length=n:=by simp[so]
  omega
 have r:(s.qz.flatMap (HN s.ts)).length<=100000:=by
  have:∀c:List Ev,(c.flatMap (HN s.ts)).length<=c.length:=λc=>by
   induction c with
   |nil=>simp
   |cons b c I=>
    have:(HN s.ts b).length<=1:=by
     unfold HN;split
     ·simp
     ·split<;>simp
    rw[aqr,aqb,aqf];omega
  have:=this s.qz;omega
 have p:∀q∈s.qz.flatMap (HN s.ts),0<=q.1/\q.1<=q.2/\q.2<=60:=λq a=>by
  obtain⟨b,_,a⟩:=aq9.1 a;unfold HN at a;split at a
  ·cases a
  ·split at a
   ·rename_i t u
    rw[aqe.1 a];obtain⟨k,w,x,_⟩:=f.cr.job.tr.sh _ t u;exact⟨k,by omega,by show t.2.1<=60;omega⟩
   ·cases a
 have i:=Bn s.qz (s.qz.flatMap (HN s.ts)) r p (s.qz.flatMap (HN s.ts)).length 0 [] (by omega) (by rw[aqG,j,aqI,aqq];omega) N N (by omega) (by omega);rw[show((0:Nat):Int)=0 from rfl,aqG,aqC,j]at i;have e:=v N (by omega);simp only[yM.arg]at e h;rw[GZ,dX (by omega),dX (by omega),l,ob];simp only[ap9,apW];rw[dX (by omega),e,ob,y6 rfl,h,ob,i,ob]
end Go.Proofs.YtmdbmigbihboaaaGreatDoor.Sp
namespace Go.Proofs.YtmdbmigbihboaaaGreatDoor
variable{d e:Nat}{a t:Type}
section
open Go Go.RowKit Go.Sort
def adV{s:List a}{x:a}(h:d<s.length):(s.set d x).take (d+1)=s.take d++[x]:=by
 rw[atd,List.set_eq_take_append_cons_drop];simp[h,aq_ (Nat.le_of_lt h),ar8,aqD];omega
def set_drop{s:List a}{x:a}(h:d<e):(s.set d x).drop e=s.drop e:=by
 rw[List.drop_set,apR h]
def yN{α β:Type}{F:Nat->Int->Int->List α->Option β}{keep:α->Bool}{fin:Int->List α->β}(p:∀m i j s,F (m+1) i j s=if j<((s.length:Nat):Int)then(aW (ba s j) λx=>if keep x=true then(aW (ba s i) λ_=>F m (wrap .i64 (i+1)) (wrap .i64 (j+1)) (s.set i.toNat x))else F m i (wrap .i64 (j+1)) s)else some (fin i s)){a:List α}(r:a.length<=100000):
 ∀(d m i j:Nat) (s:List α),a.length - j<=d->d<m->j<=a.length->i<=j->s.length=a.length->s.take i=(a.take j).filter keep->s.drop j=a.drop j->∃(k:Nat) (g:List α),F m (i:Int) (j:Int) s=some (fin (k:Int) g)/\k<=g.length/\g.length=a.length/\g.take k=a.filter keep
 |d,0,_,_,_,_,h,_,_,_,_,_=>absurd h (by omega)
 |d,m+1,i,j,s,u,v,w,z,n,o,b=>by
  rw[p];by_cases c:j<a.length
  ·obtain⟨x,e⟩:=get_at (xs:=a) (i:=j) c
   have q:s[j]? =some x:=by
    have:=ap5 (λl:List α=>l[0]?) b;simpa[e]using this
   rw[apR (by omega),bd q,ob];by_cases f:keep x=true
   ·obtain⟨y,t⟩:=get_at (xs:=s) (i:=i) (by omega)
    rw[apR f,bd t,ob,cE (by omega),cE (by omega),ap2];refine yN p r (d - 1) m (i+1) (j+1) _ (by omega) (by omega) (by omega) (by omega) (by rw[ard];exact n) ?_ ?_
    ·rw[cP e,asg,<-o,adV (by omega)]
     simp[f]
    ·rw[set_drop (by omega)]
     rw[de q,de e]at b;exact(auo b).2
   ·rw[apQ f,cE (by omega)]
    refine yN p r (d - 1) m i (j+1) s (by omega) (by omega) (by omega) (by omega) n ?_ ?_
    ·rw[cP e,asg,o,List.filter_cons_of_neg f];simp
    ·rw[de q,de e]at b
     exact(auo b).2
  ·rw[apQ (by omega)]
   refine⟨i,s,rfl,by omega,n,?_⟩;rw[o,aqt (by omega)]
def V5{s:List a}(j:d<=s.length)(e:s≠[])(z:a)(g:List a->Option t):cond (((true && true) && true) && (!(l4 s))) (aW (jm s (d:Int) ((s.length:Nat):Int)) λ_=>aW (WY s (d:Int) (((s.length:Nat):Int) - (d:Int)) z) λf=>aW (jm f (0:Int) (d:Int)) λh=>g h) none=g (s.take d):=by
 have b:l4 s=false:=by cases s with
  |nil=>exact absurd rfl e
  |cons x l=>rfl
 have c:(K7 s d (((s.length:Nat):Int) - (d:Int)).toNat z).take d=s.take d:=by
  unfold K7;rw[auR (by rw[aqD];omega),ar8,Nat.min_self]
 have i:d<=(K7 s d (((s.length:Nat):Int) - (d:Int)).toNat z).length:=by
  unfold K7;rw[aqb,aqD];omega
 rw[b];simp only[aur,aq5,aqh];rw[sa (by omega) (by omega),ob];unfold WY;rw[apR ⟨by omega,by omega,by omega⟩,ob,ap2,r_ (by omega) (by omega),ob,ap2,c]
def OH{F:Nat->Nat->Option t}{keep:a->Bool}{s:List a}{no:t}{yes:Nat->t}(p:∀m i x,i<s.length->s[i]? =some x->F (m+1) i=if keep x=true then F m (i+1)else some (yes i))(l:∀m,F (m+1) s.length=some no){m:Nat}(q:s.length<m):
 (F m 0=some no/\∀x∈s,keep x=true)\/∃(k:Nat) (x:a),F m 0=some (yes k)/\s[k]? =some x/\keep x=false/\∀y∈s.take k,keep y=true:=by
 obtain⟨b,f,o⟩:=lp (F:=λm k (_:Unit)=>F m k) (n:=s.length) (Q:=λb=>(b=no/\∀x∈s,keep x=true)\/∃(k:Nat) (x:a),b=yes k/\s[k]? =some x/\keep x=false/\∀y∈s.take k,keep y=true) (I:=λk _=>∀y∈s.take k,keep y=true) (λm k _ g d=>by
  obtain⟨x,e⟩:=get_at (xs:=s) (i:=k) g;rw[p m k x g e];cases j:keep x with
  |true=>
   refine .inl ⟨(),λy c=>?_,apR rfl⟩;rw[cP e]at c;rcases ap3.1 c with c|c
   ·exact d y c
   ·rw[aqe.1 c];exact j
  |false=>exact .inr ⟨_,apQ (by decide),.inr ⟨k,x,rfl,e,j,d⟩⟩) (λm _ d=>⟨_,l m,.inl ⟨rfl,by rw[aqt (apT _)]at d;exact d⟩⟩) (m:=m) (i:=0) (s:=()) (by omega) (by omega) (by simp)
 rcases o with⟨rfl,h⟩|⟨k,x,rfl,h⟩
 ·exact .inl ⟨f,h⟩
 ·exact .inr ⟨k,x,f,h⟩
def Bo(h:CH)(e:Int×Int):Bool:= !(decide ((bJ vQ h e).getD 0=0))
def agC(w:Fu+4<=d)(s:bh)(h:CH)(t:s.length<=100000):af3 d (s,h)=some (s.filter (Bo h),h):=by
 obtain⟨d,rfl⟩:∃m,d=m+3:=⟨d - 3,by omega⟩;have v:=bQ;have l:∀(M:Nat) (x:Int×Int),Nd (M+1) (x.1,x.2,h)=some (!(Bo h x),h):=λM x=>by
  rw[ab_];unfold Bo;rw[Bool.not_not]
 have f:=OH (F:=λm k=>Jl (d+1) m (s,((s.length:Nat):Int),(k:Int),h)) (keep:=Bo h) (s:=s) (no:=.inl h) (yes:=λk=>.inr ((k:Int),h)) (λm i x f u=>by
  rw[Nf,eh (by omega),bd u,ob,l,ob];simp only;cases Bo h x with
  |true=>rw[ap9,apW,cE (by omega),apR rfl]
  |false=>rw[aq5,aqh,apQ (by decide)]) (λm=>by rw[Nf,dX (by omega)]) (m:=d+1) (by omega)
 rw[show((0:Nat):Int)=(0:Int)from rfl]at f;rw[af4,af2];rcases f with⟨b,a⟩|⟨k,x,b,a,q,r⟩
 ·rw[b,ob]
  simp only[ob];rw[eh trivial,atB.2 a]
 ·have z:=Sp.cQ a
  obtain⟨A,B,n,o,g,p⟩:=yN (F:=λm i j s=>Ee (d+2) m (i,j,s,h)) (keep:=Bo h) (fin:=λi s=>(i,s,h)) (λm i j s=>by
   rw[ach,cd];by_cases c:j<((s.length:Nat):Int)
   ·rw[apR c,apR c]
    cases ba s j with
    |none=>rfl
    |some x=>
     rw[ob,ob,ob,l,ob];simp only;cases Bo h x with
     |true=>
      rw[ap9,aq5,aqh,apR rfl];cases ba s i with
      |none=>rfl
      |some y=>rw[ob,ob]
     |false=>rw[aq5,ap9,apW,apQ (by decide)]
   ·rw[apQ c,apQ c]) t s.length (d+2) k (k+1) s (by omega) (by omega) (by omega) (by omega) rfl (by rw[cP a,asg,atB.2 r];simp[q]) rfl
  rw[b,ob];simp only[ob];rw[dX (by omega),cE (by omega),n,ob];simp only;rw[V5 o (λe=>by rw[e]at g;simp at g;omega) ((0:Int),(0:Int)),p]
def adW{s:Sc}(z v:a)(x:s.cZ)(f:s.key=true):∀b:List (s.cZ×a),PX (dS s b x z) ((Iy s b x:Nat):Int) v=some (dS s b x v):=by
 have e:∀(l:List (s.cZ×a)) (k:Nat),PX l (k:Int) v=(l[k]?).map λp=>l.set k (p.1,v):=λl k=>by
  unfold PX;rw[apR (by omega),ap2]
 intro b
 induction b with
 |nil=>rw[e];rfl
 |cons p b c=>
  rw[e]at c⊢;simp only[dS,Iy];cases iF s p.1 x with
  |true=>rfl
  |false=>
   simp only[apW];rw[arF];cases d:(dS s b x z)[Iy s b x]? with
   |none=>rw[d]at c;cases c
   |some q=>
    rw[d]at c;simp only[aq3,apU]at c⊢;rw[at7,c]
def Cn(m:CH)(k:Nat)(p:Int×Int->Prop):Prop:=∀e,0<=(bJ vQ m e).getD 0/\(bJ vQ m e).getD 0<=(k:Int)/\((bJ vQ m e).getD 0=0↔¬p e)
def Cn.put{m:CH}{p:Int×Int->Prop}(h:Cn m d p)(r:d<=100000)(x:Int×Int):Cn (dS vQ m x (wrap .i64 ((bJ vQ m x).getD 0+1))) (d+1) λe=>p e\/e=x:=λe=>by
 obtain⟨k,l,n⟩:=h x;rw[gT (by omega) (by omega)];have g:=Ou (s:=vQ) rfl x e ((bJ vQ m x).getD 0+1) m;by_cases c:x=e
 ·have:=g.1 c
  rw[this];refine⟨by show 0<=_+1;omega,by show _+1<=_;omega,λa=>?_,λa=>absurd (.inr c.symm) a⟩;have q:(bJ vQ m x).getD 0+1=0:=a;omega
 ·have:=g.2 c
  obtain⟨i,o,f⟩:=h e;rw[this];refine⟨i,by omega,λa b=>?_,λa=>f.2 λj=>a (.inl j)⟩;rcases b with b|b
  ·exact f.1 a b
  ·exact c b.symm
def CC{N:Nat}(P:Fu+18<=N){f:List ca}(h:GR d f)(l:bh)(R:l.length<=10000):
 (zM N ((d:Int),f,l)=some (10,[])/\¬∀x∈l,lM (d:Int) x)\/∃q,zM N ((d:Int),f,l)=some (0,q)/\(∀x∈l,lM (d:Int) x)/\q.Sublist (cN f)/\∀e,e∈q↔e∈cN f/\e∈l.map dm:=by
 obtain⟨N,rfl⟩:∃M,N=M+1:=⟨N - 1,by omega⟩;have O:=bQ;have S:=h.len;obtain⟨b,u,G⟩:=lp (F:=λm k (s:CH)=>xY N m (l,((l.length:Nat):Int),(k:Int),(d:Int),f,s)) (n:=l.length) (Q:=λb=>(b=.inr 10/\¬∀x∈l,lM (d:Int) x)\/∃s,b=.inl ((d:Int),f,s)/\(∀x∈l,lM (d:Int) x)/\Cn s l.length λe=>e∈l.map dm)
  (I:=λk s=>Cn s k (λe=>e∈(l.take k).map dm)/\∀x∈l.take k,lM (d:Int) x) (λm k s C p=>by
   obtain⟨x,g⟩:=get_at (xs:=l) (i:=k) C;have v:=ap_ g;obtain⟨H,J⟩:=p;rw[Ef,eh (by omega),bd g,ob,(EY x).1,(EY x).2,cd];have t:lM (d:Int) x↔¬(dm x).1<0/\¬(d:Int)<=(dm x).2:=by unfold lM dm;omega
   by_cases n:(dm x).1<0
   ·rw[apR n];exact .inr ⟨_,rfl,.inl ⟨rfl,λh=>(t.1 (h x v)).1 n⟩⟩
   rw[apQ n,cd];by_cases o:(d:Int)<=(dm x).2
   ·rw[apR o];exact .inr ⟨_,rfl,.inl ⟨rfl,λh=>(t.1 (h x v)).2 o⟩⟩
   rw[apQ o];refine .inl ⟨dS vQ s (dm x) (wrap .i64 ((bJ vQ s (dm x)).getD 0+1)),⟨?_,λy j=>?_⟩,?_⟩
   ·have E:=H.put (by omega) (dm x)
    intro e;have r:(e∈(l.take k).map dm\/e=dm x)↔e∈(l.take (k+1)).map dm:=by rw[cP g,aqH,ap3,List.map_singleton,aqe]
    obtain⟨w,z,A⟩:=E e;exact⟨w,z,A.trans (not_congr r)⟩
   ·rw[cP g]at j
    rcases ap3.1 j with j|j
    ·exact J y j
    ·rw[aqe.1 j];exact t.2 ⟨n,o⟩
   ·have r:=adW (s:=vQ) ((bJ vQ s (dm x)).getD 0) (wrap .i64 ((bJ vQ s (dm x)).getD 0+1)) (dm x) rfl s
    have B:PX (dS vQ s ((dm x).1,(dm x).2) ((bJ vQ s ((dm x).1,(dm x).2)).getD 0)) ((Iy vQ s ((dm x).1,(dm x).2):Nat):Int) (wrap .i64 ((bJ vQ s ((dm x).1,(dm x).2)).getD 0+1))=some (dS vQ s (dm x) (wrap .i64 ((bJ vQ s (dm x)).getD 0+1))):=r;rw[B,ob,cE (by omega)]) (λm s p=>⟨_,by rw[Ef,dX (by omega)],.inr ⟨s,rfl,by have a:=p.2;rw[aqt (apT _)]at a;exact a,by have a:=p.1;rw[aqt (apT _)]at a;exact a⟩⟩) (m:=N) (i:=0) (s:=[]) (by omega) (by omega) ⟨λe=>⟨asp _,asp _,λ_ h=>(by simp at h),λ_=>rfl⟩,λx g=>by simp at g⟩
 rw[show((0:Nat):Int)=(0:Int)from rfl]at u;rw[X2,h.right (by omega),ob];simp only[ap9,apW];rw[u,ob];rcases G with⟨rfl,D⟩|⟨s,rfl,K,L⟩
 ·exact .inl ⟨rfl,D⟩
 ·simp only
  rw[z7 (by omega) h,ob,agC (by omega) _ _ (by simp[cN];omega),ob];refine .inr ⟨_,rfl,K,List.filter_sublist,λe=>?_⟩;rw[arN];have:=(L e).2.2;unfold Bo;rw[aq1,decide_eq_false_iff_not];by_cases c:e∈l.map dm
  ·exact⟨λh=>⟨h.1,c⟩,λh=>⟨h.1,λa=>this.1 a c⟩⟩
  ·exact⟨λh=>absurd (this.2 c) h.2,λh=>absurd h.2 c⟩
end
variable{E:Int}{i:List ca}{D:Nat}{A:bM}
section
open Go Go.RowKit Go.Sort
def YK(c:1<=d)(a:aX)(b:a.length<=100000000000):Vc d a=some a:=by
 obtain⟨d,rfl⟩:∃m,d=m+1:=⟨d - 1,by omega⟩;rw[acE,cO (by omega) (by simpa using b),aqC];cases a with
 |nil=>exact sZ.2 ⟨rfl,rfl⟩
 |cons x e=>rfl
def agD(A:Fu+4<=d)(f:Int)(b:bM)(s:aX)(v:s.length<=100000):af7 d (f,b,s)=some (s.filter λt=>decide (t<f)):=by
 obtain⟨d,rfl⟩:∃m,d=m+3:=⟨d - 3,by omega⟩;have z:=bQ;have n:∀(M:Nat) (x:Int),ND (M+1) (x,f,b)=some (!(decide (x<f))):=λM x=>by
  rw[acF];by_cases c:x<f
  ·rw[aqk c,aqn (by omega)];rfl
  ·rw[aqn c,aqk (by omega)];rfl
 have h:=OH (F:=λm k=>Ct (d+1) m (s,f,b,((s.length:Nat):Int),(k:Int))) (keep:=λt=>decide (t<f)) (s:=s) (no:=.inl ()) (yes:=λk=>.inr (k:Int)) (λm i x h w=>by
  rw[Hi,eh (by omega),bd w,ob,n,ob];cases decide (x<f)with
  |true=>rw[ap9,apW,cE (by omega),apR rfl]
  |false=>rw[aq5,aqh,apQ (by decide)]) (λm=>by rw[Hi,dX (by omega)]) (m:=d+1) (by omega)
 rw[show((0:Nat):Int)=(0:Int)from rfl]at h;rw[af8,acH];rcases h with⟨g,a⟩|⟨k,x,g,a,r,u⟩
 ·rw[g,ob]
  simp only[ob];rw[eh trivial,atB.2 a]
 ·have B:=Sp.cQ a
  obtain⟨C,D,o,p,l,q⟩:=yN (F:=λm i j s=>Ex (d+2) m (f,b,i,j,s)) (keep:=λt=>decide (t<f)) (fin:=λi s=>(i,s)) (λm i j s=>by
   rw[acL,cd];by_cases c:j<((s.length:Nat):Int)
   ·rw[apR c,apR c]
    cases ba s j with
    |none=>rfl
    |some x=>
     rw[ob,ob,ob,n,ob];cases decide (x<f)with
     |true=>
      rw[ap9,aq5,aqh,apR rfl];cases ba s i with
      |none=>rfl
      |some y=>rw[ob,ob]
     |false=>rw[aq5,ap9,apW,apQ (by decide)]
   ·rw[apQ c,apQ c]) v s.length (d+2) k (k+1) s (by omega) (by omega) (by omega) (by omega) rfl (by rw[cP a,asg,atB.2 u];simp only[ar1,r];simp) rfl
  rw[g,ob];simp only[ob];rw[dX (by omega),cE (by omega),o,ob];simp only;rw[V5 p (λe=>by rw[e]at l;simp at l;omega) (0:Int),q]
def JR(n:Nat)(a:bM)(v:Nat):aX:=(vt n (dQ a v)).mergeSort λx y=>decide (x<=y)
def adX:E∈JR d A e↔E∈vt d (dQ A e):=(auh _ _).mem_iff
def E_{N:Nat}(i:Fu+12<=N)(h:b9 d A)(b:e<d):NF N ((d:Int),A,(e:Int))=some (0,JR d A e):=by
 obtain⟨N,rfl⟩:∃m,N=m+1:=⟨N - 1,by omega⟩;have g:=bQ;have a:=h.ring b;have j:=h.small.2 _ a.2.2.1;rw[acM,z1 (by omega) h _ (by simp),apR (λw f=>by rw[aqe.1 f];omega),ob,y6 rfl,ady (by omega) h b,ob,bd a.1,ob,YK (by omega) _ (by omega),ob,agD (by omega) _ _ _ (by omega),ob];have c:((dQ A e).filter λt=>decide (t<(d:Int))).length<1099511627776:=by have:=as_ (λt=>decide (t<(d:Int))) (dQ A e);omega
 rw[ec,aqk c,aqh,ob];rfl
def V6(h:b9 d A)(a:e<d):(e:Int)∈JR d A e:=by
 rw[adX];have:=(h.ring a).2.1;exact(iU a).2 this
def yO(h:b9 d A)(a:e<d):(JR d A e).length<=1000:=by
 unfold JR vt;rw[auT];exact aqM (as_ _ _) (h.small.2 _ (h.ring a).2.2.1)
def V7(A B:aX)(v:Int):aX:=if v∈A then []else if(if zD (A.length:Int) (B.length:Int)=0 then zD (A.headD 0) (B.headD 0)else zD (A.length:Int) (B.length:Int))<0 then A else B
def OI{N:Nat}(w:Fu+20<=N)(n:Nat)(a:List ca)(s:a.length<=100000)(u v:Int):
 (∃e:Int,Ew N ((n:Int),a,u,v)=some (0,e)/\(e=1/\¬GR n a\/e=10/\¬lM (n:Int) (u,v)\/e=6/\GR n a/\lM (n:Int) (u,v)))\/
  ∃(k:Nat) (x:ca),Ew N ((n:Int),a,u,v)=some ((k:Int),0)/\GR n a/\lM (n:Int) (u,v)/\a[k]? =some x/\(x.1,x.2.1)=dm (u,v):=by
 obtain⟨N,rfl⟩:∃m,N=m+1:=⟨N - 1,by omega⟩;obtain⟨b,p,j⟩:=tH (N:=N) (by omega) (n:Int) a s;rw[ap2]at j;rw[NC,p,ob];cases b with
 |false=>exact .inl ⟨1,rfl,.inl ⟨rfl,λh=>by have:=j.2 ⟨by omega,h⟩;cases this⟩⟩
 |true=>
  have h:=(j.1 rfl).2;have g:=EY (u,v);simp only at g;simp only[ap9,apW];rw[g.1,g.2,cd];have f:lM (n:Int) (u,v)↔¬(dm (u,v)).1<0/\¬(n:Int)<=(dm (u,v)).2:=by unfold lM dm;simp only;omega
  by_cases c:(dm (u,v)).1<0
  ·rw[apR c];exact .inl ⟨10,rfl,.inr (.inl ⟨rfl,λh=>(f.1 h).1 c⟩)⟩
  rw[apQ c,cd];by_cases d:(n:Int)<=(dm (u,v)).2
  ·rw[apR d];exact .inl ⟨10,rfl,.inr (.inl ⟨rfl,λh=>(f.1 h).2 d⟩)⟩
  rw[apQ d];obtain⟨i,q,r⟩:=adH (N:=N) (by omega) h u v;rw[q,ob,cd];rcases r with rfl|⟨k,x,rfl,t,l,o⟩
  ·rw[apR (by omega)];exact .inl ⟨6,rfl,.inr (.inr ⟨rfl,h,f.2 ⟨c,d⟩⟩)⟩
  ·rw[apQ (by omega)];exact .inr ⟨k,x,rfl,h,f.2 ⟨c,d⟩,t,by unfold dm;rw[l,o]⟩
def agE{N:Nat}(F:Fu+22<=N)(h:GR d i)(s:e<d)(t:D<d)(o:Int):∃f,Ey N ((d:Int),i,(e:Int),(D:Int),o)=some (f,V7 (JR d (EU d (gI i o)) e) (JR d (EU d (gI i o)) D) (D:Int)):=by
 obtain⟨N,rfl⟩:∃m,N=m+1:=⟨N - 1,by omega⟩;have E:=bQ;have G:=h.len;have n:=h.JP o;have eW:lM (d:Int) ((e:Int),(D:Int)):=⟨by simp;omega,by simp;omega⟩;have j:∃g f:Int,Ew N ((d:Int),i,(e:Int),(D:Int))=some (g,f)/\f≠1/\f≠10:=by
  rcases OI (N:=N) (by omega) d i (by omega) (e:Int) (D:Int)with⟨f,j,l⟩|⟨k,x,j,_⟩
  ·refine⟨0,f,j,?_⟩
   rcases l with⟨_,l⟩|⟨_,l⟩|⟨rfl,_⟩
   ·exact absurd h l
   ·exact absurd eW l
   ·exact⟨by decide,by decide⟩
  ·exact⟨k,0,j,by decide,by decide⟩
 obtain⟨g,f,j,l,w⟩:=j;have z:=E_ (N:=N) (by omega) n s;have C:=E_ (N:=N) (by omega) n t;have u:=V6 n s;have v:=V6 n t;have H:=yO n s;have I:=yO n t;rw[Hl,j,ob,dX l,dX w,EX (by omega) h,ob];simp only;rw[z,ob,C,ob];simp only;generalize JR d (EU d (gI i o)) e=A at*;generalize JR d (EU d (gI i o)) D=B at*;obtain⟨M,rfl⟩:∃M,N=M+8:=⟨N - 8,by omega⟩;rw[has_eq (M+8) (by omega) _ _ (by omega),ob];unfold V7;by_cases c:(D:Int)∈A
 ·rw[aqk c,aqh,apR c];exact⟨_,rfl⟩
 ·rw[aqn c,apW,apQ c]
  obtain⟨a,p,rfl⟩:∃a p,A=a::p:=atr λf=>by rw[f]at u;cases u
  obtain⟨b,r,rfl⟩:∃b r,B=b::r:=atr λf=>by rw[f]at v;cases v
  rw[show M+8=(M+5)+3 from rfl,po,ob,show ba (a::p) 0=some a from rfl,show ba (b::r) 0=some b from rfl,ob,ob,ob,ob,po,ob,show M+5+3=(M+3)+5 from rfl,Qq,ob,cd];simp only[aro];have y:∀q:Int,∃f:Int,(if q<0 then some ((0:Int),a::p)else some (0,b::r))=some (f,if q<0 then a::p else b::r):=λq=>by
   by_cases c:q<0
   ·rw[apR c,apR c];exact⟨_,rfl⟩
   ·rw[apQ c,apQ c];exact⟨_,rfl⟩
  exact y _
def YL{A B:aX}(b:A.length<=d)(c:B.length<=d):(V7 A B E).length<=d:=by
 unfold V7;have a:∀q:Int,(if q<0 then A else B).length<=d:=λq=>by split<;>assumption
 split
 ·simp
 ·exact a _
def Fa{x y:ca}(a:i[d]? =some x)(h:(y.1,y.2.1)=(x.1,x.2.1)):cN (i.set d y)=cN i:=by
 unfold cN;rw[arP,h];refine arC λj=>?_;rw[aqS];split
 ·rename_i e
  subst e;have b:=Sp.cQ a;rw[apR (by simpa using b),aqd,a];rfl
 ·rfl
def ib(a:List ca):(cN a).length=a.length:=by simp[cN]
def OJ{N:Nat}(j:1<=N){x:ca}(h:i[d]? =some x)(s:Int)(a b:Bool)(c e f g:Int):∃y:ca,NH N ((d:Int),s,a,b,c,e,f,g,i)=some (s,a,b,c,e,wrap .i64 (f+1),g,i.set d y)/\(y.1,y.2.1)=(x.1,x.2.1):=by
 obtain⟨N,rfl⟩:∃m,N=m+1:=⟨N - 1,by omega⟩;rw[acN,bd h,ob,ob,ap2];exact⟨_,rfl,rfl⟩
def amG(hN:Fu+24<=d)(h1:1<=e)(c:List ca)(hl:c.length<=100000)(u v:Nat)(Z:u<e)(hv:v<e)(w:Int)(l o:Bool)(p t G j:Int):
 ∃(b:Bool) (a0:List ca) (t2 t3:Bool) (t4 t5 t6:Int),Vq d ((u:Int),(v:Int),w,(e:Int),l,o,p,t,G,j,c)=some (b,a0,(e:Int),t2,t3,t4,t5,t6,j)/\cN a0=cN c:=by
 obtain⟨d,rfl⟩:∃m,d=m+1:=⟨d - 1,by omega⟩;have hF:=bQ;obtain⟨a,B,S,a4⟩:∃a B,Ey d ((e:Int),c,(u:Int),(v:Int),w)=some (a,B)/\B.length<=1000:=by
  obtain⟨b,K,P⟩:=tH (N:=d - 2) (by omega) (e:Int) c hl;rw[ap2]at P;cases b with
  |true=>
   have h:=(P.1 rfl).2;obtain⟨a,he⟩:=agE (N:=d) (by omega) h Z hv w;exact⟨a,_,he,YL (yO (h.JP w) Z) (yO (h.JP w) hv)⟩
  |false=>
   obtain⟨M,rfl⟩:∃M,d=M+2:=⟨d - 2,by omega⟩;rw[show M+2 - 2=M by omega]at K;exact⟨1,[],by rw[Hl,NC,K,ob];rfl,by simp⟩
 obtain⟨b1,L,V,rfl⟩:=lp (F:=λm k (q:bh)=>Cu d m (w,((B.length:Nat):Int),(k:Int),(e:Int),l,o,p,t,G,j,B,c,q)) (n:=B.length) (Q:=λb=>∃V,b=(w,(e:Int),l,o,p,t,G,j,c,V)) (I:=λ_ _=>True) (λm k q C _=>by
  obtain⟨x,g⟩:=get_at (xs:=B) (i:=k) C;exact .inl ⟨_,trivial,by rw[Ho,eh (by omega),bd g,ob,ob,cE (by omega)]⟩) (λm q _=>⟨_,by rw[Ho,dX (by omega)],q,rfl⟩) (m:=d) (i:=0) (s:=[]) (by omega) (by omega) trivial
 obtain⟨M,rfl⟩:∃M,d=M+1:=⟨d - 1,by omega⟩;obtain⟨b2,N,X,A,H,W,rfl,R,a1⟩:=lp (F:=λm k (q:Int×aX×List ca×bh)=>pK (M+1) m (w,((c.length:Nat):Int),(k:Int),(e:Int),l,o,p,t,q.1,j,q.2.1,q.2.2.1,q.2.2.2)) (n:=c.length) (Q:=λb=>∃(X:Int) (A:aX) (H:List ca) (W:bh),b=((e:Int),l,o,p,t,X,j,A,H,W)/\(A.length<=c.length/\∀x∈A,∃i:Nat,x=(i:Int)/\i<c.length)/\cN H=cN c)
  (I:=λk q=>(q.2.1.length<=k/\∀x∈q.2.1,∃i:Nat,x=(i:Int)/\i<c.length)/\cN q.2.2.1=cN c) (λm k q C D=>by
   obtain⟨⟨i1,E⟩,f⟩:=D;have a2:q.2.2.1.length=c.length:=by rw[<-ib,f,ib]
   obtain⟨x,g⟩:=get_at (xs:=q.2.2.1) (i:=k) (by omega);rw[Hn,eh (by omega),bd g,ob,ob,FX,cE (by omega)];split
   ·rw[ob]
    cases K:x.2.2.2 with
    |false=>
     rw[aq5,aqh,cO (by omega) (by simp;omega),ob];refine .inl ⟨(q.1,q.2.1++[(k:Int)],q.2.2.1,q.2.2.2),⟨⟨by simp;omega,λy n=>?_⟩,f⟩,rfl⟩;rcases ap3.1 n with n|n
     ·exact E y n
     ·exact⟨k,aqe.1 n,C⟩
    |true=>
     rw[ap9,apW,ob,NG,ob];simp only;rw[cd];split
     ·obtain⟨y,n,U⟩:=OJ (N:=M+1) (by omega) g (e:Int) l o p t q.1 j
      rw[n,ob];exact .inl ⟨(wrap .i64 (q.1+1),q.2.1,q.2.2.1.set k y,q.2.2.2),⟨⟨atH i1,E⟩,by rw[Fa g U];exact f⟩,rfl⟩
     ·exact .inl ⟨q,⟨⟨by omega,E⟩,f⟩,rfl⟩
   ·exact .inl ⟨q,⟨⟨by omega,E⟩,f⟩,rfl⟩) (λm q D=>⟨_,by rw[Hn,dX (by omega)],q.1,q.2.1,q.2.2.1,q.2.2.2,rfl,D.1,D.2⟩) (m:=M+1) (i:=0) (s:=(G,[],c,V)) (by omega) (by omega) ⟨⟨by simp,λx g=>by cases g⟩,rfl⟩
 obtain⟨b3,O,hq⟩:=lp (F:=λm k (q:Int×List ca×bh)=>tw (M+1) m (((A.length:Nat):Int),(k:Int),(e:Int),l,o,p,t,q.1,j,A,q.2.1,q.2.2)) (n:=A.length) (Q:=λb=>∃(r:Int) (J:List ca),cN J=cN c/\(b=.inl ((e:Int),l,o,p,t,r,j,J)\/∃x y,b=.inr (true,(e:Int),l,true,x,y,r,j,J)))
  (I:=λ_ q=>cN q.2.1=cN c) (λm k q C f=>by
   have a2:q.2.1.length=c.length:=by rw[<-ib,f,ib]
   obtain⟨z,hz⟩:=get_at (xs:=A) (i:=k) C;obtain⟨i,rfl,P⟩:=R.2 z (ap_ hz);obtain⟨x,g⟩:=get_at (xs:=q.2.1) (i:=i) (by omega);have a3:=R.1;rw[Hm,eh (by omega),bd hz,ob,ob,bd g,ob,NG,ob,cd,cE (by omega)];split
   ·exact .inl ⟨q,f,rfl⟩
   ·rw[cd]
    split
    ·obtain⟨y,n,U⟩:=OJ (N:=M+1) (by omega) g (e:Int) l o p t q.1 j
     rw[n,ob];exact .inl ⟨(wrap .i64 (q.1+1),q.2.1.set i y,q.2.2),by rw[Fa g U];exact f,rfl⟩
    ·rw[cd]
     split
     ·have S:(q.2.1.set i (x.1,x.2.1,x.2.2.1,true))[i]? =some (x.1,x.2.1,x.2.2.1,true):=by rw[aqS,apR rfl,apR (by omega)]
      rw[ob,ap2,bd S,ob,ob];exact .inr ⟨_,rfl,q.1,_,by rw[Fa g (y:=(x.1,x.2.1,x.2.2.1,true)) rfl];exact f,.inr ⟨_,_,rfl⟩⟩
     ·exact .inl ⟨q,f,rfl⟩) (λm q f=>⟨_,by rw[Hm,dX (by omega)],q.1,q.2.1,f,.inl rfl⟩) (m:=M+1) (i:=0) (s:=(X,H,W)) (by have:=R.1;omega) (by omega) a1
 rw[show((0:Nat):Int)=(0:Int)from rfl]at L N O;simp only at L N O;rw[acO,S,ob];simp only;rw[L,ob];simp only;rw[N,ob];simp only;rw[O,ob];obtain⟨r,J,Y,rfl|⟨x,y,rfl⟩⟩:=hq
 ·exact⟨_,_,_,_,_,_,_,rfl,Y⟩
 ·exact⟨_,_,_,_,_,_,_,rfl,Y⟩
end
section
open Go Go.RowKit Go.Sort
def Ra(j:Fu+3<=d)(a b:List ca)(k:a.length<=100000)(l:b.length<=100000):Vb d [a,b]=some (a++b):=by
 obtain⟨M,rfl⟩:∃M,d=M+4:=⟨d - 4,by rw[bQ]at j;omega⟩;have c:ba ([a,b]:List (List ca)) (0:Int)=some a:=rfl;have e:ba ([a,b]:List (List ca)) (1:Int)=some b:=rfl;have f:wrap .i64 ((0:Int)+1)=1:=by decide
 have g:wrap .i64 ((1:Int)+1)=2:=by decide
 have h:Cs (M+3) (M+3) ([a,b],0,[a,b],((([a,b]:List (List ca)).length:Nat):Int),0)=some ([a,b],((a.length+b.length:Nat):Int)):=by
  rw[zP,eh (by simp),c,ob,cd,gT (x:=(0:Int)+((a.length:Nat):Int)) (by omega) (by omega),apQ (by omega),f,zP,eh (by simp),e,ob,cd,gT (x:=(0:Int)+((a.length:Nat):Int)+((b.length:Nat):Int)) (by omega) (by omega),apQ (by omega),g,zP,dX (by simp)];congr 2;omega
 have i:Cr (M+3) (M+3) ([a,b],((([a,b]:List (List ca)).length:Nat):Int),0,[])=some (a++b):=by
  rw[zO,eh (by simp),c,ob,cO (by omega) (by simp;omega),ob,f,zO,eh (by simp),e,ob,cO (by omega) (by simp;omega),ob,g,zO,dX (by simp)];simp
 rw[show M+4=(M+3)+1 from rfl,acD,h,ob];unfold eM;rw[aqk (by simp only;omega)];simp only[aqh,ob];rw[i,ob]
def OK{N:Nat}(A:Fu+24<=N){n:Nat}(z:1<=n){u v:Nat}(B:u<n)(C:v<n)(i:Int)(j k:Bool)(l o p I:Int)(J:Bool)(f:Int):∀(d m:Nat) (a:Int) (e:List ca) (r s:Bool) (t w x:Int),a+1<=d->-1<=a->a<=100->d<m->e.length<=100000->
 ∃(g:List ca) (D E:Bool) (F G H:Int),ye N m (a,i,j,k,l,o,p,(u:Int),(v:Int),I,J,(n:Int),r,s,t,w,x,f,e)=some (i,j,k,l,o,p,(n:Int),D,E,F,G,H,f,g)/\cN g=cN e
 |d,0,_,_,_,_,_,_,_,_,_,_,h,_=>absurd h (by omega)
 |d,m+1,a,e,r,s,t,w,x,V,W,U,X,y=>by
  rw[QD];cases J with
  |false=>exact⟨_,_,_,_,_,_,rfl,rfl⟩
  |true=>
   rw[aqh,cd];by_cases c:0<=a
   ·obtain⟨b,g,O,P,Q,R,S,K,q⟩:=amG A z e y u v B C a r s t w x f
    rw[apR c,K,ob];cases b with
    |true=>exact⟨_,_,_,_,_,_,rfl,q⟩
    |false=>
     simp only[aq5,aqh];rw[gT (by omega) (by omega)];obtain⟨Y,D,E,F,G,H,L,M⟩:=OK A z B C i j k l o p I true f (d - 1) m (a - 1) g O P Q R S (by omega) (by omega) (by omega) (by omega) (by rw[<-ib,q,ib];exact y);exact⟨_,_,_,_,_,_,L,M.trans q⟩
   ·rw[apQ c];exact⟨_,_,_,_,_,_,rfl,rfl⟩
def agF(n:Nat):Oq n<=6:=by
 unfold Oq
 repeat' split
 all_goals omega
def ajU{N:Nat}(C:Fu+26<=N){n:Nat}(ts:List ca)(y:ts.length<=100000){u v:Nat}(F:u<v):∃(e:Int) (a:List ca) (o p:Bool) (q r s:Int),Jo N ((n:Int),ts,(u:Int),(v:Int))=some (e,(n:Int),a,o,p,q,r,s)/\
 ((e≠0/\a=ts)\/e=0/\a.length<=ts.length/\(cN a).Sublist (cN ts)/\((u:Int),(v:Int))∉cN a):=by
 obtain⟨N,rfl⟩:∃m,N=m+1:=⟨N - 1,by omega⟩;have B:=bQ;rw[Yd];rcases OI (N:=N) (by omega) n ts y (u:Int) (v:Int)with⟨e,f,b⟩|⟨k,x,f,h,eW,c,l⟩
 ·rw[f,ob,cnF (by simp only;rcases b with⟨rfl,_⟩|⟨rfl,_⟩|⟨rfl,_⟩<;>decide)]
  exact⟨_,_,_,_,_,_,_,rfl,.inl ⟨by rcases b with⟨rfl,_⟩|⟨rfl,_⟩|⟨rfl,_⟩<;>decide,rfl⟩⟩
 ·have D:=Sp.cQ c
  have A:=h.tie x (ap_ c);unfold na at A;unfold lM at eW;simp only at eW;have E:=agF n;have d:x.1=(u:Int)/\x.2.1=(v:Int):=by
   unfold dm at l;simp only[aqa]at l;omega
  rw[f,ob,y6 rfl];simp only;rw[bd c,ob,r_ (by omega) (by omega),ob,cE (by omega),sa (by omega) (by omega),ob,ap2,ap2,Ra (by omega) _ _ (by rw[aqD];omega) (by rw[arH];omega),ob,adF (by omega) h.lo h.hi,ob,d.1,d.2];have t:(ts.take k++ts.drop (k+1)).length<=100000:=by rw[aqb,aqD,arH];omega
  obtain⟨a,G,H,I,J,K,b,g⟩:=OK (N:=N) (by omega) h.lo (u:=u) (v:=v) (by omega) (by omega) 0 false false 0 0 0 x.2.2.1 x.2.2.2 (Oq n:Int) (x.2.2.1.toNat+1) N x.2.2.1 _ x.2.2.2 false 0 0 0 (by omega) (by omega) (by omega) (by omega) t;rw[b,ob];have i:cN (ts.take k++ts.drop (k+1))=(cN ts).eraseIdx k:=by
   unfold cN;rw[List.eraseIdx_eq_take_drop_succ,aqH,ase,asu]
  refine⟨_,_,_,_,_,_,_,rfl,.inr ⟨rfl,?_,?_,λj=>?_⟩⟩
  ·rw[<-ib,g,ib,aqb,aqD,arH];omega
  ·rw[g,i];exact auq _ _
  ·rw[g,i]at j
   have w:(cN ts)[k]? =some ((u:Int),(v:Int)):=by
    unfold cN;rw[aqd,c,aq3,d.1,d.2]
   have z:=(ku w).nodup_iff.1 (tJ (EZ h.VP));exact(aq2.1 z).1 j
def OL{e:Int×Int}(h:e.1<e.2):dm e=e:=by
 obtain⟨a,b⟩:=e;simp only at h;unfold dm;simp only;exact asZ (by simp only;omega) (by simp only;omega)
def drop_eq{N:Nat}(hN:Fu+30<=N){a:List ca}(h:GR d a)(l:bh)(S:l.length<=10000):∃(e:Int) (g:List ca) (all:List (Bool×Bool×(Int×Int)×Int)),pM N ((d:Int),a,l)=some (e,(d:Int),g,all)/\
 ((e≠0/\g=a)\/e=0/\(cN g).Sublist (cN a)/\(∀x∈cN g,x∉l.map dm)/\(l=[]->g=a)):=by
 obtain⟨N,rfl⟩:∃m,N=m+1:=⟨N - 1,by omega⟩;have hF:=bQ;have a1:=h.len;rw[Hq];rcases CC (N:=N) (by omega) h l S with⟨r,_⟩|⟨f,r,eW,A,z⟩
 ·rw[r,ob,cnF (by simp)]
  exact⟨_,_,_,rfl,.inl ⟨by decide,rfl⟩⟩
 ·have a0:f.length<=400:=by have:=A.length_le;rw[ib]at this;omega
  rw[r,ob,y6 rfl];simp only;obtain⟨b,t,V⟩:=lp (F:=λm k (q:List (Bool×Bool×(Int×Int)×Int)×List ca)=>yf N m (((f.length:Nat):Int),(k:Int),(d:Int),a,(0:Int),q.1,(d:Int),q.2,f)) (n:=f.length) (Q:=λb=>(∃e,b=.inr (e,(d:Int),a)/\e≠0)\/∃all n,b=.inl ((0:Int),all,(d:Int),n)/\(cN n).Sublist (cN a)/\(∀x∈f,x∉cN n)/\(f=[]->n=a))
   (I:=λk q=>q.1.length<=k/\q.2.length<=a.length/\(cN q.2).Sublist (cN a)/\(∀x∈f.take k,x∉cN q.2)/\(f=[]->q.2=a)) (λm k q R o=>by
    obtain⟨i1,i2,X,Y,i5⟩:=o;obtain⟨x,c⟩:=get_at (xs:=f) (i:=k) R;have W:=V1 h.tie x (A.subset (ap_ c));obtain⟨C,D⟩:=x;simp only at W;obtain⟨u,rfl⟩:∃u:Nat,C=(u:Int):=⟨C.toNat,by omega⟩;obtain⟨v,rfl⟩:∃v:Nat,D=(v:Int):=⟨D.toNat,by omega⟩;obtain⟨e,g,E,G,H,J,K,L,p⟩:=ajU (N:=N) (by omega) (n:=d) q.2 (by omega) (u:=u) (v:=v) (by omega);rw[vz,eh (by omega),bd c,ob,ob];simp only;rw[L,ob,FX];rcases p with⟨p,M⟩|⟨rfl,M,w,O⟩
    ·rw[apQ p];exact .inr ⟨_,rfl,.inl ⟨e,rfl,p⟩⟩
    ·rw[apR rfl,cO (by omega) (by simp;omega),ob,cE (by omega)]
     refine .inl ⟨(q.1++[(E,G,(H,J),K)],g),⟨by simp;omega,by simp only;omega,w.trans X,λy j=>?_,λe=>by rw[e]at c;simp at c⟩,rfl⟩;rw[cP c]at j;rcases ap3.1 j with j|j
     ·exactλh=>Y y j (w.subset h)
     ·rw[aqe.1 j];exact O) (λm q o=>⟨_,by rw[vz,dX (by omega)],.inr ⟨q.1,q.2,rfl,o.2.2.1,by have:=o.2.2.2.1;rw[aqt (apT _)]at this;exact this,o.2.2.2.2⟩⟩) (m:=N) (i:=0) (s:=([],a)) (by omega) (by omega) ⟨by simp,apT _,List.Sublist.refl _,by simp,λ_=>rfl⟩
  rw[show((0:Nat):Int)=(0:Int)from rfl]at t;simp only at t;rw[t,ob];rcases V with⟨e,rfl,P⟩|⟨all,n,rfl,B,Z,q3⟩
  ·exact⟨_,_,_,rfl,.inl ⟨P,rfl⟩⟩
  ·refine⟨_,_,_,rfl,.inr ⟨rfl,B,λx c U=>Z x ((z x).2 ⟨B.subset c,U⟩) c,λe=>q3 ?_⟩⟩
   rw[arz];intro x c;have:=((z x).1 c).2;rw[e]at this;simp at this
end
section
open Go Go.RowKit Go.Sort
def Rc(n:Int):Prop:=0<=n/\n<65536
def yP{N:Nat}(c:1<=N)(n:Int):∃b,vw N n=some b/\(b=true↔Rc n):=by
 obtain⟨N,rfl⟩:∃m,N=m+1:=⟨N - 1,by omega⟩;refine⟨_,Xz N n,?_⟩;have a:wrap .u16 n=n % 65536:=by simp[wrap,IntKind.bits,IntKind.signed]
 rw[aqQ,a,gT (by omega) (by omega)];unfold Rc;omega
def OM(e:Int×Int):Prop:=Rc e.1/\Rc e.2
def Re(a:Int×Int×Int):Prop:=(1<=a.1/\a.1<=4)/\Rc a.2.1/\Rc a.2.2
def adY{N:Nat}(h:2<=N)(e:Int×Int):∃b,TB N (e.1,e.2)=some b/\(b=false↔OM e):=by
 obtain⟨N,rfl⟩:∃m,N=m+1:=⟨N - 1,by omega⟩;obtain⟨a,f,c⟩:=yP (N:=N) (by omega) e.1;obtain⟨b,g,d⟩:=yP (N:=N) (by omega) e.2;rw[abk,f,ob,g];unfold OM;rw[<-c,<-d];cases a<;>cases b<;>exact⟨_,rfl,by simp⟩
def adZ{N:Nat}(j:2<=N)(e:Int×Int×Int):∃b,TG N (e.1,e.2.1,e.2.2)=some b/\(b=false↔Re e):=by
 obtain⟨N,rfl⟩:∃m,N=m+2:=⟨N - 2,by omega⟩;obtain⟨a,g,d⟩:=yP (N:=N+1) (by omega) e.2.1;obtain⟨b,h,f⟩:=yP (N:=N+1) (by omega) e.2.2;have i:I0 (N+1) e.1=some (decide (1<=e.1/\e.1<=4)):=by
  rw[XA,cd];by_cases c:1<=e.1<;>simp[c]
 rw[abo,i,ob,g,h];unfold Re;rw[<-d,<-f];by_cases c:1<=e.1/\e.1<=4
 ·rw[aqk c]
  cases a<;>cases b<;>exact⟨_,rfl,by simp[c]⟩
 ·rw[aqn c]
  exact⟨_,rfl,by simp[c]⟩
def agG{N:Nat}(u:Fu+4<=N)(l:bh)(v:l.length<=100000):∃b,abn N l=some b/\(b=false↔∀e∈l,OM e):=by
 obtain⟨N,rfl⟩:∃m,N=m+2:=⟨N - 2,by omega⟩;have t:=bQ;obtain⟨b,g,r⟩:=lp (F:=λm k (_:Unit)=>B8 N m (l,((l.length:Nat):Int),(k:Int))) (n:=l.length) (Q:=λb=>(b=.inl ()/\∀e∈l,OM e)\/∃k:Nat,b=.inr (k:Int)/\¬∀e∈l,OM e) (I:=λk _=>∀e∈l.take k,OM e) (λm k s j d=>by
  obtain⟨x,f⟩:=get_at (xs:=l) (i:=k) j;have p:=ap_ f;obtain⟨o,q,a⟩:=adY (N:=N) (by omega) x;rw[GN,eh (by omega),bd f,ob,q,ob];cases o with
  |true=>exact .inr ⟨_,rfl,.inr ⟨k,rfl,λh=>by have:=a.2 (h x p);cases this⟩⟩
  |false=>
   refine .inl ⟨(),λe c=>?_,by rw[apW,cE (by omega)]⟩;rw[cP f]at c;rcases ap3.1 c with c|c
   ·exact d e c
   ·rw[aqe.1 c];exact a.1 rfl) (λm s d=>⟨_,by rw[GN,dX (by omega)],.inl ⟨rfl,by rw[aqt (apT _)]at d;exact d⟩⟩) (m:=N) (i:=0) (s:=()) (by omega) (by omega) (by simp)
 rw[show((0:Nat):Int)=(0:Int)from rfl]at g;rw[af0,abm,g,ob];rcases r with⟨rfl,h⟩|⟨k,rfl,h⟩
 ·exact⟨_,rfl,λ_=>h,λ_=>rfl⟩
 ·refine⟨_,rfl,λa=>?_,λa=>absurd a h⟩
  have:=arZ a;omega
def agH{N:Nat}(u:Fu+4<=N)(l:ju)(v:l.length<=100000):∃b,abr N l=some b/\(b=false↔∀e∈l,Re e):=by
 obtain⟨N,rfl⟩:∃m,N=m+2:=⟨N - 2,by omega⟩;have t:=bQ;obtain⟨b,g,r⟩:=lp (F:=λm k (_:Unit)=>B9 N m (l,((l.length:Nat):Int),(k:Int))) (n:=l.length) (Q:=λb=>(b=.inl ()/\∀e∈l,Re e)\/∃k:Nat,b=.inr (k:Int)/\¬∀e∈l,Re e) (I:=λk _=>∀e∈l.take k,Re e) (λm k s j d=>by
  obtain⟨x,f⟩:=get_at (xs:=l) (i:=k) j;have p:=ap_ f;obtain⟨o,q,a⟩:=adZ (N:=N) (by omega) x;rw[GO,eh (by omega),bd f,ob,q,ob];cases o with
  |true=>exact .inr ⟨_,rfl,.inr ⟨k,rfl,λh=>by have:=a.2 (h x p);cases this⟩⟩
  |false=>
   refine .inl ⟨(),λe c=>?_,by rw[apW,cE (by omega)]⟩;rw[cP f]at c;rcases ap3.1 c with c|c
   ·exact d e c
   ·rw[aqe.1 c];exact a.1 rfl) (λm s d=>⟨_,by rw[GO,dX (by omega)],.inl ⟨rfl,by rw[aqt (apT _)]at d;exact d⟩⟩) (m:=N) (i:=0) (s:=()) (by omega) (by omega) (by simp)
 rw[show((0:Nat):Int)=(0:Int)from rfl]at g;rw[af1,abq,g,ob];rcases r with⟨rfl,h⟩|⟨k,rfl,h⟩
 ·exact⟨_,rfl,λ_=>h,λ_=>rfl⟩
 ·refine⟨_,rfl,λa=>?_,λa=>absurd a h⟩
  have:=arZ a;omega
def WR(k:Int)(b:bh)(c:ju):Prop:=
 ((k=1\/k=2)/\c=[]/\b.length<=60/\∀e∈b,OM e)\/(k=3/\b=[]/\c.length<=60/\∀a∈c,Re a)
def z_{N:Nat}(z:Fu+6<=N)(k:Int)(a:bh)(d:ju)(u:a.length<=100000)(w:d.length<=100000):∃b,I1 N (k,a,d)=some b/\(b=true↔WR k a d):=by
 obtain⟨N,rfl⟩:∃m,N=m+2:=⟨N - 2,by omega⟩;obtain⟨q,s,l⟩:=agG (N:=N+1) (by omega) a u;obtain⟨r,t,n⟩:=agH (N:=N+1) (by omega) d w;have p:∀b:Bool,(b=true↔k=1\/k=2)->∃c,(aW (some (k,b,k,a,d)) λe=>cond e.2.1
  (cond (decide ((((List.length e.2.2.2.2):Nat):Int)=(0:Int)))
   (cond (decide ((((List.length e.2.2.2.1):Nat):Int)<=(60:Int)))
    (aW (abn (N+1) e.2.2.2.1) λx=>
     some (!x))
    (some false))
   (some false))
  (cond (decide (e.1=(3:Int)))
   (cond (decide ((((List.length e.2.2.2.1):Nat):Int)=(0:Int)))
    (cond (decide ((((List.length e.2.2.2.2):Nat):Int)<=(60:Int)))
     (aW (abr (N+1) e.2.2.2.2) λy=>
      some (!y))
     (some false))
    (some false))
   (some false)))=some c/\(c=true↔WR k a d):=λb o=>by
   rw[ob];simp only;unfold WR;cases b with
   |true=>
    have g:=o.1 rfl;rw[aqh,cd];by_cases f:d=[]
    ·subst f
     rw[apR (by simp),cd];by_cases j:a.length<=60
     ·rw[apR (by omega),s,ob]
      refine⟨_,rfl,?_⟩;cases q
      ·exact⟨λ_=>.inl ⟨g,rfl,j,l.1 rfl⟩,λ_=>rfl⟩
      ·refine⟨λh=>(by cases h),?_⟩
       rintro(⟨_,_,_,h⟩|⟨h,_⟩)
       ·exact absurd (l.2 h) (by simp)
       ·omega
     ·rw[apQ (by omega)]
      refine⟨_,rfl,λh=>(by cases h),?_⟩;rintro(⟨_,_,h,_⟩|⟨h,_⟩)<;>omega
    ·have v:d.length≠0:=λh=>f (aqT h)
     rw[apQ (by omega)];refine⟨_,rfl,λh=>(by cases h),?_⟩;rintro(⟨_,h,_⟩|⟨h,_⟩)
     ·exact absurd h f
     ·omega
   |false=>
    have g:¬(k=1\/k=2):=λh=>by have:=o.2 h;cases this
    rw[apW,cd];by_cases i:k=3
    ·rw[apR i,cd]
     by_cases f:a=[]
     ·subst f
      rw[apR (by simp),cd];by_cases j:d.length<=60
      ·rw[apR (by omega),t,ob]
       refine⟨_,rfl,?_⟩;cases r
       ·exact⟨λ_=>.inr ⟨i,rfl,j,n.1 rfl⟩,λ_=>rfl⟩
       ·refine⟨λh=>(by cases h),?_⟩
        rintro(⟨h,_⟩|⟨_,_,_,h⟩)
        ·exact absurd h g
        ·exact absurd (n.2 h) (by simp)
      ·rw[apQ (by omega)]
       refine⟨_,rfl,λh=>(by cases h),?_⟩;rintro(⟨h,_⟩|⟨_,_,h,_⟩)
       ·exact absurd h g
       ·omega
     ·have v:a.length≠0:=λh=>f (aqT h)
      rw[apQ (by omega)];refine⟨_,rfl,λh=>(by cases h),?_⟩;rintro(⟨h,_⟩|⟨_,h,_⟩)
      ·exact absurd h g
      ·exact absurd h f
    ·rw[apQ i]
     refine⟨_,rfl,λh=>(by cases h),?_⟩;rintro(⟨h,_⟩|⟨h,_⟩)
     ·exact absurd h g
     ·exact absurd h i
 rw[XB,Qw,cd];by_cases c:k=1
 ·rw[apR c];exact p true (by simp[c])
 ·rw[apQ c];exact p (decide (k=2)) (by simp[c])
def sq(a:Int×Int×Int):aX:=if a.1=1 then [a.2.1,a.2.2]else if a.1=2\/a.1=3 then [a.2.1]else []
def uZ(a:bh)(qs:ju):aX:=a.flatMap (λe=>[e.1,e.2])++qs.flatMap sq
def Fb(a:Int×Int×Int):(sq a).length<=2:=by unfold sq;split<;>(try split)<;>simp
def ad0(b:1<=d)(a:Int×Int×Int):TK d (a.1,a.2.1,a.2.2)=some (sq a):=by
 obtain⟨d,rfl⟩:∃m,d=m+1:=⟨d - 1,by omega⟩;rw[abt,cd,cd,cd];unfold sq;split
 ·rfl
 ·split
  ·rw[apR (by omega)]
  ·split
   ·rw[apR (by omega)]
   ·rw[apQ (by omega)]
def V8(t:Fu+3<=d)(k:Int)(a:bh)(c:ju)(u:a.length<=1000)(w:c.length<=1000):TT d (k,a,c)=some (uZ a c):=by
 obtain⟨d,rfl⟩:∃m,d=m+1:=⟨d - 1,by omega⟩;have r:=bQ;have j:=lpv (F:=λm i (s:aX)=>Ca d m (a,((a.length:Nat):Int),(i:Int),k,a,c,s)) (n:=a.length) (b:=(k,a,c,a.flatMap λe=>[e.1,e.2])) (I:=λi s=>s=(a.take i).flatMap (λe=>[e.1,e.2])/\s.length<=2*i) (λm i s h f=>by
  obtain⟨x,g⟩:=get_at (xs:=a) (i:=i) h;have:=f.2;exact⟨s++[x.1,x.2],⟨by rw[f.1,cP g,auv];rfl,by simp;omega⟩,by rw[GQ,eh (by omega),bd g,ob,cO (by omega) (by simp;omega),ob,cE (by omega)]⟩) (λm s f=>by rw[GQ,dX (by omega),f.1,aqt (apT _)]) (m:=d) (i:=0) (s:=[]) (by omega) (by omega) ⟨by simp,by simp⟩
 have p:∀l:bh,(l.flatMap λe=>[e.1,e.2]).length=2*l.length:=λl=>by
  induction l with
  |nil=>rfl
  |cons x l q=>rw[aqr,aqb,q];simp;omega
 have o:=lpv (F:=λm i (s:aX)=>B_ d m (c,((c.length:Nat):Int),(i:Int),s)) (n:=c.length) (b:=uZ a c) (I:=λi s=>s=(a.flatMap λe=>[e.1,e.2])++(c.take i).flatMap sq/\s.length<=2000+2*i) (λm i s h f=>by
  obtain⟨x,g⟩:=get_at (xs:=c) (i:=i) h;have:=f.2;have v:=Fb x;exact⟨s++sq x,⟨by rw[f.1,cP g,auv,aqm];simp,by rw[aqb];omega⟩,by rw[GP,eh (by omega),bd g,ob,ad0 (by omega),ob,cO (by omega) (by omega),ob,cE (by omega)]⟩) (λm s f=>by rw[GP,dX (by omega),f.1,aqt (apT _)];rfl) (m:=d) (i:=0) (s:=a.flatMap λe=>[e.1,e.2]) (by omega) (by omega) ⟨by simp,by rw[p];omega⟩
 rw[show((0:Nat):Int)=(0:Int)from rfl]at j o;rw[abu,j,ob];simp only;rw[o,ob]
def HO(b:bh)(a:ju)(g:b.length<=1000)(h:a.length<=1000):(uZ b a).length<=4000:=by
 have d:∀l:bh,(l.flatMap λe=>[e.1,e.2]).length=2*l.length:=λl=>by
  induction l with
  |nil=>rfl
  |cons x l c=>rw[aqr,aqb,c];simp;omega
 have f:∀l:ju,(l.flatMap sq).length<=2*l.length:=λl=>by
  induction l with
  |nil=>simp
  |cons x l c=>rw[aqr,aqb,aqf];have:=Fb x;omega
 have:=f a;unfold uZ;rw[aqb,d];omega
def ON{N:Nat}(t:Fu+4<=N)(n:Int)(e:List ca)(a:aX)(d:a.length<=100000):∃b,TY N (a,n,e)=some (b,n,e)/\(b=false↔∀v∈a,v<n):=by
 obtain⟨N,rfl⟩:∃m,N=m+2:=⟨N - 2,by omega⟩;have r:=bQ;obtain⟨b,l,q⟩:=lp (F:=λm k (_:Unit)=>Cb N m (a,((a.length:Nat):Int),(k:Int),n,e)) (n:=a.length) (Q:=λb=>(b=.inl (n,e)/\∀v∈a,v<n)\/∃k:Nat,b=.inr ((k:Int),n,e)/\¬∀v∈a,v<n) (I:=λk _=>∀v∈a.take k,v<n) (λm k s o f=>by
  obtain⟨x,j⟩:=get_at (xs:=a) (i:=k) o;have p:=ap_ j;obtain⟨M,rfl⟩:∃M,N=M+1:=⟨N - 1,by omega⟩;rw[GU,eh (by omega),bd j,ob,abw,ob];simp only;rw[cd];by_cases c:n<=x
  ·rw[apR c];exact .inr ⟨_,rfl,.inr ⟨k,rfl,λh=>by have:=h x p;omega⟩⟩
  ·rw[apQ c,cE (by omega)]
   refine .inl ⟨(),λv d=>?_,rfl⟩;rw[cP j]at d;rcases ap3.1 d with d|d
   ·exact f v d
   ·rw[aqe.1 d];omega) (λm s f=>⟨_,by rw[GU,dX (by omega)],.inl ⟨rfl,by rw[aqt (apT _)]at f;exact f⟩⟩) (m:=N) (i:=0) (s:=()) (by omega) (by omega) (by simp)
 rw[show((0:Nat):Int)=(0:Int)from rfl]at l;rw[abz,aby,l,ob];rcases q with⟨rfl,h⟩|⟨k,rfl,h⟩
 ·exact⟨_,rfl,λ_=>h,λ_=>rfl⟩
 ·refine⟨_,rfl,λg=>?_,λg=>absurd g h⟩
  have:=arZ g;simp only at this;omega
end
end Go.Proofs.YtmdbmigbihboaaaGreatDoor
namespace Go.Proofs.YtmdbmigbihboaaaGreatDoor.Dd
def lp{σ β:Type}{F:Nat->Nat->σ->Option β}{n:Nat}{I:Nat->σ->Prop}{Q:β->Prop}(g:∀m i s,i<n->I i s->(∃d,I (i+1) d/\F (m+1) i s=F m (i+1) d)\/∃b,F (m+1) i s=some b/\Q b)
 (f:∀m s,I n s->∃b,F (m+1) n s=some b/\Q b):∀{m i:Nat} {s:σ},n - i<m->i<=n->I i s->∃b,F m i s=some b/\Q b
 |0,i,s,h,_,_=>absurd h (by omega)
 |m+1,i,s,h,k,e=>by
  by_cases c:i<n
  ·rcases g m i s c e with⟨d,a,j⟩|a
   ·rw[j];exact lp g f (by omega) (by omega) a
   ·exact a
  ·obtain rfl:i=n:=by omega
   exact f m s e
def Rf{σ β:Type}{F:Nat->Nat->σ->Option β}{n:Nat}{I:Nat->σ->Prop}{Q:β->Prop}(g:∀m i s,i<n->I i s->∃a,I (i+1) a/\F (m+1) i s=F m (i+1) a)(e:∀m s,I n s->∃b,F (m+1) n s=some b/\Q b)
 {m:Nat} {s:σ} (h:n<m) (c:I 0 s):∃b,F m 0 s=some b/\Q b:=lp (λm i s f d=>.inl (g m i s f d)) e (by omega) (by omega) c
def wU(x:Int):wrap .u32 x=x % 4294967296:=auw x
def ad1{α:Type}{a:List α}{f:Nat->α}{k:Nat}(b:k<a.length)(h:∀j,j<k->a[j]? =some (f j)):∀j,j<k+1->(a.set k (f k))[j]? =some (f j):=λj d=>by
 rw[aqS];by_cases c:k=j
 ·subst c;rw[apR rfl,apR b]
 ·rw[apQ c];exact h j (by omega)
def yQ{α:Type}{a:List α}{f:Nat->α}{n:Nat}(b:a.length=n)(h:∀j,j<n->a[j]? =some (f j)):a=(List.range n).map f:=by
 refine arC λj=>?_;by_cases c:j<n
 ·rw[h j c,aqd,as2 c];rfl
 ·rw[aqE (by omega),aqE (by simp;omega)]
def oP(l:aX)(i:Nat):Int:=(l.take i).sum % 4294967296
def OO{l:aX}{i:Nat}{x:Int}(h:l[i]? =some x):oP l (i+1)=(oP l i+x) % 4294967296:=by
 unfold oP;rw[List.take_add_one,h];simp
def bS(l:aX)(b i:Nat):aX:=(l.take ((i+1)*b)).drop (i*b)
def ad2(l:aX)(b i:Nat):l.take (i*b)++bS l b i=l.take ((i+1)*b):=by
 unfold bS;have:l.take (i*b)=(l.take ((i+1)*b)).take (i*b):=by
  rw[ar8,aq_ (ar6 _ (by omega))]
 rw[this,arK]
def JS(l:aX)(b i:Nat):(bS l b i).length=min ((i+1)*b) l.length - i*b:=by simp[bS]
def JT{l:aX}{b:Nat}{a:aX}:∀(i:Nat),(∀j,j<i->a[j]? =some ((bS l b j).sum % 4294967296))->oP a i=oP l (i*b)
 |0,_=>by simp[oP]
 |i+1,h=>by
  rw[OO (h i (by omega)),JT i (λj c=>h j (by omega))];unfold oP;rw[<-ad2,atC];simp
def amH{l:aX}{b i k:Nat}(a:k<=b):(oP l (i*b)+oP (bS l b i) k) % 4294967296=oP l (i*b+k):=by
 have:l.take (i*b)++(bS l b i).take k=l.take (i*b+k):=by
  unfold bS;rw[List.take_drop,ar8,atb,aq_ (by omega)];have:l.take (i*b)=(l.take (i*b+k)).take (i*b):=by
   rw[ar8,aq_ (by omega)]
  rw[this,arK]
 unfold oP;rw[<-this,atC];simp
def gk(l:aX):aX:=(List.range l.length).map (oP l)
def vJ{l:aX}{i:Nat}(h:i<l.length):(gk l)[i]? =some (oP l i):=by
 unfold gk;rw[aqd,as2 h];rfl
def Fc{N:Nat}(h:Fu+3<=N)(l:aX)(p:l.length<=100000):G2 N l=some (oP l l.length,gk l):=by
 obtain⟨N,rfl⟩:∃M,N=M+2:=⟨N - 2,by omega⟩;have g:=bQ;obtain⟨b,d,rfl⟩:=Rf (F:=λm k (s:Int×aX)=>Ce (N+1) m (s.1,l,((l.length:Nat):Int),(k:Int),s.2)) (n:=l.length) (Q:=λb=>b=(oP l l.length,gk l)) (I:=λk s=>s.1=oP l k/\s.2.length=l.length/\∀j,j<k->s.2[j]? =some (oP l j)) (λm k s c a=>by
  obtain⟨x,e⟩:=get_at (xs:=l) (i:=k) c;obtain⟨y,f⟩:=get_at (xs:=s.2) (i:=k) (by rw[a.2.1];exact c);refine⟨(oP l (k+1),s.2.set k (oP l k)),⟨rfl,by simp[a.2.1],ad1 (by rw[a.2.1];exact c) a.2.2⟩,?_⟩;rw[G3,eh (by omega),bd e,ob,bd f,ob,ob,G1,ob,wU,a.1,<-OO e,cE (by omega)];rfl) (λm s a=>⟨_,by rw[G3,dX (by omega)],by rw[a.1,yQ a.2.1 a.2.2];rfl⟩) (m:=N+1) (s:=(0,List.replicate l.length 0)) (by omega) ⟨by simp[oP],by simp,λj o=>by omega⟩
 rw[abU,mj (by omega) (by omega) (by omega),ob,ap2];rw[show((0:Nat):Int)=(0:Int)from rfl]at d;rw[d,ob]
def vK(n b:Nat):Nat:=(n+b - 1)/b
def Aa{n b i:Nat}(a:1<=b):i<vK n b↔i*b<n:=by
 unfold vK;rw[Nat.lt_iff_add_one_le,atx (by omega),atb];omega
def Fe{n b:Nat}(a:1<=b):vK n b<=n:=by
 unfold vK;rcases as3 n with h|h
 ·subst h;rw[aui (by omega)];omega
 ·rw[Nat.div_le_iff_le_mul_add_pred (by omega)]
  have:n<=b*n:=Nat.le_mul_of_pos_left n (by omega);omega
def CB{N:Nat}(m:1<=N){l:aX}{b i:Nat}(n:b<=100)(f:1<=b)(o:l.length<=100000)(g:i<vK l.length b):D4 N (l,(i:Int),(b:Int))=some (bS l b i):=by
 obtain⟨N,rfl⟩:∃M,N=M+1:=⟨N - 1,by omega⟩;have h:=(Aa f).1 g;have a:(i:Int)*(b:Int)=((i*b:Nat):Int):=by rw[arM]
 have d:((i:Int)+1)*(b:Int)=(((i+1)*b:Nat):Int):=by rw[arM];rfl
 have j:(i+1)*b=i*b+b:=atb _ _;have k:i<=i*b:=au4 i (by omega);rw[XR,show wrap .i64 ((i:Int)+1)=(i:Int)+1 from gT (by omega) (by omega),a,d,gT (x:=((i*b:Nat):Int)) (by omega) (by omega),gT (x:=(((i+1)*b:Nat):Int)) (by omega) (by omega)];have e:(if(((i+1)*b:Nat):Int)<((l.length:Nat):Int)then(((i+1)*b:Nat):Int)else((l.length:Nat):Int))=((min ((i+1)*b) l.length:Nat):Int):=by split<;>omega
 rw[e,QI (by omega) (by omega) (by omega),ob];unfold bS;rw[ap2,ap2];congr 2;rcases as7 ((i+1)*b) l.length with c|c
 ·rw[aq_ c]
 ·rw[as8 c,aqt (apT _),aqt c]
def ad3(g P:Int)(b:bh):Prop:=∀n:Nat,n<=60->∃(t:Nat) (a:aX),a.Perm (Sp.so n)/\t<=100000/\∀N,Fu+13<=N->kj N ((n:Int),g,P,b)=some ((t:Int),0,a)
def amI{g P:Nat}(b:1<=g)(e:g<=8)(f:1<=P)(c:P<=8){a:bh}(k:a.length<=200):ad3 (g:Int) (P:Int) a:=λn j=>by
 rcases as3 n with h|h
 ·subst h
  refine⟨0,[],by simp[Sp.so],by omega,λN i=>?_⟩;obtain⟨N,rfl⟩:∃m,N=m+2:=⟨N - 2,by omega⟩;rw[GZ,dX (by omega),dX (by omega),GW,eh (by omega),eh (by omega),eh (by omega),eh (by omega),ob,aqk (show((a.length:Nat):Int)<=4000 by omega)];rfl
 ·obtain⟨s,d,p,t,q⟩:=Sp.adS (n:=n) (by omega) j b e f c a k
  have u:=Sp.OA (g:=g) b n n (apT _) (by omega);have r:P*Sp.tn g n<=8*119:=arp c (by omega);have o:=d.cr.ovr.1 p;have l:=d.cr.job.pu;rw[o,aty,aqy]at l;exact⟨_,_,l,by omega,λN i=>Sp.adU (by omega) j b e f c k d (by omega) q i⟩
def yR{n:Nat}{x:Int}:x∈Sp.so n↔∃i:Nat,x=(i:Int)/\i<n:=by
 unfold Sp.so;simp only[ap4,aqR];constructor
 ·rintro⟨i,h,rfl⟩;exact⟨i,rfl,h⟩
 ·rintro⟨i,rfl,h⟩;exact⟨i,h,rfl⟩
def YM{N:Nat}(c:2<=N){n b:Nat}(e:n<=1000)(a:1<=b)(d:b<=100):I4 N ((n:Int),(b:Int))=some ((vK n b:Nat):Int):=by
 obtain⟨N,rfl⟩:∃M,N=M+2:=⟨N - 2,by omega⟩;have:=Fe (n:=n) a;rw[XE,dX (by omega),dX (by omega),GV,eh (by omega),ob,aqk (by omega)];simp only[ap9,apW];rw[show wrap .i64 ((n:Int)+(b:Int))=((n+b:Nat):Int) by rw[gT (by omega) (by omega)];omega,show wrap .i64 (((n+b:Nat):Int) - 1)=((n+b - 1:Nat):Int) by rw[gT (by omega) (by omega)];omega,QJ (by omega),ob,yr];rw[show(n+b - 1)/b=vK n b from rfl,gT (by omega) (by omega)]
def V9{N:Nat}(hN:Fu+20<=N){g P:Int}{Y:bh}(hO:ad3 g P Y){l:aX}(hl:l.length<=60){b:Nat}(w:1<=b)(H:b<=100):
 ∃t:Nat,t<=200000/\D5 N (l,(b:Int),g,P,Y)=some (oP l l.length,(t:Int),0,gk l):=by
 obtain⟨N,rfl⟩:∃M,N=M+2:=⟨N - 2,by omega⟩;have hF:=bQ;have ab:=Fe (n:=l.length) w;obtain⟨t,f,G,ht,J⟩:=hO (vK l.length b) (by omega);refine⟨2*t,by omega,?_⟩;have ac:f.length<=60:=by rw[G.length_eq];simp[Sp.so];omega
 have X:∀{k:Nat} {x:Int},f[k]? =some x->∃i:Nat,x=(i:Int)/\i<vK l.length b:=λh=>yR.1 (G.mem_iff.1 (ap_ h));obtain⟨b1,O,p,rfl,a5,W⟩:=Rf (F:=λm k (s:aX)=>Cg N m (l,(b:Int),(t:Int),((f.length:Nat):Int),(k:Int),f,s)) (n:=f.length) (Q:=λr=>∃p:aX,r=(l,(b:Int),(t:Int),f,p)/\p.length=vK l.length b/\∀j,j<vK l.length b->p[j]? =some ((bS l b j).sum % 4294967296))
  (I:=λk s=>s.length=vK l.length b/\∀j:Nat,(j:Int)∈f.take k->s[j]? =some ((bS l b j).sum % 4294967296)) (λm k s C e=>by
   obtain⟨x,z⟩:=get_at (xs:=f) (i:=k) C;obtain⟨i,rfl,q⟩:=X z;obtain⟨y,K⟩:=get_at (xs:=s) (i:=i) (by rw[e.1];exact q);have E:(bS l b i).length<=100000:=by rw[JS];omega
   refine⟨s.set i ((bS l b i).sum % 4294967296),⟨by simp[e.1],λj o=>?_⟩,?_⟩
   ·rw[aqS]
    by_cases c:i=j
    ·subst c;rw[apR rfl,apR (by rw[e.1];exact q)]
    ·rw[apQ c]
     rw[cP z]at o;rcases ap3.1 o with o|o
     ·exact e.2 j o
     ·have:=aqe.1 o;omega
   ·rw[G6,eh (by omega),bd z,ob,ob,CB (by omega) H w (by omega) q,ob,Fc (by omega) _ E,ob,bd K,ob,ob,cE (by omega)]
    unfold oP;rw[aqt (apT _)];rfl) (λm s e=>⟨_,by rw[G6,dX (by omega)],s,rfl,e.1,λj o=>e.2 j (by rw[aqt (apT _)];exact G.mem_iff.2 (yR.2 ⟨j,rfl,o⟩))⟩) (m:=N) (s:=List.replicate (vK l.length b) 0) (by omega) ⟨by simp,λj o=>by simp at o⟩
 have a0:oP p p.length=oP l l.length:=by
  rw[a5,JT _ W];unfold oP;have a2:l.length<=vK l.length b*b:=by
   rcases aso (vK l.length b*b) l.length with c|c
   ·have:=(Aa w).2 c;omega
   ·exact c
  rw[aqt a2,aqt (apT _)]
 have a7:(gk p).length=p.length:=by simp[gk]
 have eW:∀i:Nat,i<vK l.length b->∀(v:Int) (D:aX),D.length=l.length->∃r,xE N N (l,(b:Int),oP l l.length,(t:Int),(i:Int),((f.length:Nat):Int),v,(((gk (bS l b i)).length:Nat):Int),((0:Nat):Int),D,gk p,f,gk (bS l b i))=some r/\∃B:aX,r=(l,(b:Int),oP l l.length,(t:Int),((f.length:Nat):Int),v,B,gk p,f)/\
  B.length=l.length/\∀j:Nat,(i*b<=j->j<(i+1)*b->j<l.length->B[j]? =some (oP l j))/\(j<i*b\/(i+1)*b<=j->B[j]? =D[j]?):=λi q v D J=>by
  have E:=JS l b i;have a9:=(Aa w).1 q;have h2:(i+1)*b=i*b+b:=atb _ _;have a8:i<=i*b:=au4 i (by omega);have Z:(i:Int)*(b:Int)=((i*b:Nat):Int):=by rw[arM]
  have aa:(gk (bS l b i)).length=(bS l b i).length:=by simp[gk]
  refine Rf (F:=λm k (s:aX)=>xE N m (l,(b:Int),oP l l.length,(t:Int),(i:Int),((f.length:Nat):Int),v,(((gk (bS l b i)).length:Nat):Int),(k:Int),s,gk p,f,gk (bS l b i))) (n:=(bS l b i).length)
   (I:=λk s=>s.length=l.length/\∀j:Nat,(i*b<=j->j<i*b+k->s[j]? =some (oP l j))/\(j<i*b\/i*b+k<=j->s[j]? =D[j]?)) (λm k s C e=>?_) (λm s e=>⟨_,by rw[G4,dX (by omega)],s,rfl,e.1,λj=>⟨λA L h5=>(e.2 j).1 A (by omega),λA=>(e.2 j).2 (by omega)⟩⟩) (by omega) ⟨J,λj=>⟨λA L=>by omega,λ_=>rfl⟩⟩
  have S:i*b+k<l.length:=by omega
  obtain⟨y,K⟩:=get_at (xs:=s) (i:=i*b+k) (by rw[e.1];exact S);have a1:(gk p)[i]? =some (oP l (i*b)):=by rw[vJ (by omega),JT i λj o=>W j (by omega)]
  refine⟨s.set (i*b+k) (oP l (i*b+k)),⟨by simp[e.1],λj=>⟨λA L=>?_,λA=>?_⟩⟩,?_⟩
  ·rw[aqS]
   by_cases c:i*b+k=j
   ·subst c;rw[apR rfl,apR (by rw[e.1];exact S)]
   ·rw[apQ c];exact(e.2 j).1 A (by omega)
  ·rw[aqS,apQ (by omega)]
   exact(e.2 j).2 (by omega)
  ·rw[G4,eh (by omega),bd (vJ C),ob,ob,bd a1,ob,ob,show N=(N - 1)+1 by omega,G1,<-show N=(N - 1)+1 by omega,ob,wU,amH (by omega),Z,show wrap .i64 ((i*b:Nat):Int)=((i*b:Nat):Int)from gT (by omega) (by omega),show wrap .i64 (((i*b:Nat):Int)+(k:Int))=((i*b+k:Nat):Int) by rw[gT (by omega) (by omega)];omega,bd K,ob,ob,cE (by omega),ap2]
 obtain⟨b2,R,rfl⟩:=Rf (F:=λm k (s:aX)=>Cf N m (l,(b:Int),oP l l.length,(t:Int),((f.length:Nat):Int),(k:Int),s,gk p,f)) (n:=f.length) (Q:=λr=>r=(oP l l.length,(t:Int),gk l))
  (I:=λk s=>s.length=l.length/\∀j:Nat,j<l.length->((j/b:Nat):Int)∈f.take k->s[j]? =some (oP l j)) (λm k s C e=>by
   obtain⟨x,z⟩:=get_at (xs:=f) (i:=k) C;obtain⟨i,rfl,q⟩:=X z;have E:(bS l b i).length<=100000:=by rw[JS];omega
   obtain⟨r,V,B,rfl,a4,U⟩:=eW i q (k:Int) s e.1;refine⟨B,⟨a4,λj o u=>?_⟩,?_⟩
   ·rw[cP z]at u
    by_cases c:j/b=i
    ·subst c
     exact(U j).1 (au5 _ _) (by have:=Nat.lt_div_mul_add (a:=j) (b:=b) (by omega);rw[atb];exact this) o
    ·have a3:((j/b:Nat):Int)∈f.take k:=by
      rcases ap3.1 u with u|u
      ·exact u
      ·have:=aqe.1 u;omega
     rw[(U j).2 ?_]
     ·exact e.2 j o a3
     ·rcases aso (j/b) i with d|d
      ·exact .inl ((Nat.div_lt_iff_lt_mul (by omega)).1 d)
      ·exact .inr ((atx (by omega)).1 (by omega))
   ·rw[show((0:Nat):Int)=(0:Int)from rfl]at V
    rw[G5,eh (by omega),bd z,ob,ob,CB (by omega) H w (by omega) q,ob,Fc (by omega) _ E,ob];simp only;rw[V,ob,cE (by omega)]) (λm s e=>⟨_,by rw[G5,dX (by omega)],by
    rw[yQ e.1 λj o=>e.2 j o (by rw[aqt (apT _)];exact G.mem_iff.2 (yR.2 ⟨_,rfl,(Aa w).2 (Nat.lt_of_le_of_lt (au5 _ _) o)⟩))];rfl⟩) (m:=N) (s:=List.replicate l.length 0) (by omega) ⟨by simp,λj o u=>by simp at u⟩
 have a6:p.length<=100000:=by omega
 rw[XS,abW,show N=(N - 1)+1 by omega,GV,<-show N=(N - 1)+1 by omega,eh (by omega),ob,aqk (by omega)];simp only[ap9,apW];rw[dX (by omega),YM (by omega) (by omega) w H,ob,J N (by omega),ob,y6 rfl,mj (by omega) (by omega) (by omega),ob,ap2];simp only;rw[show((0:Nat):Int)=(0:Int)from rfl]at O R;rw[O,ob];simp only;rw[Fc (by omega) p a6,ob,mj (by omega) (by omega) (by omega),ob,ap2,a0,R,ob,ob];simp only;rw[gT (by omega) (by omega)];have e2:(2:Int)*(t:Int)=((2*t:Nat):Int):=by omega
 rw[e2]
def HP{α:Type}(f:α->Nat)(d:Nat)(l:List α):l.countP (λi=>decide (f i<d+1))=l.countP (λi=>decide (f i<d))+l.countP (λi=>decide (f i=d)):=by
 induction l with
 |nil=>rfl
 |cons x l c=>
  simp only[List.countP_cons,c,aqQ];by_cases a:f x<d
  ·rw[apR (by omega),apR a,apQ (by omega)];omega
  ·by_cases b:f x=d
   ·rw[apR (by omega),apQ a,apR b];omega
   ·rw[apQ (by omega),apQ a,apQ b];omega
def sx{α:Type}{f:α->Nat}{l:List α}{k:Nat}{x:α}(h:l[k]? =some x)(d:Nat):(l.take (k+1)).countP (λi=>decide (f i=d))=(l.take k).countP (λi=>decide (f i=d))+if f x=d then 1 else 0:=by
 rw[cP h,asx,List.countP_cons];simp
def ad4{α:Type}{f:α->Nat}{l:List α}{k:Nat}{x:α}(h:l[k]? =some x):l.countP (λi=>decide (f i<f x))+(l.take k).countP (λi=>decide (f i=f x))<l.length:=by
 have b:=HP f (f x) l;have c:l.countP (λi=>decide (f i<f x+1))<=l.length:=ata;have a:(l.take (k+1)).countP (λi=>decide (f i=f x))<=l.countP (λi=>decide (f i=f x)):=(List.take_sublist _ _).countP_le;rw[sx h,apR rfl]at a;omega
def ahO{b:Nat}(a:b<=16):2^b<=65536/\1<=2^b:=⟨auy (by omega) a,Nat.one_le_two_pow⟩
def HQ{N:Nat}(c:1<=N){b:Nat}(a:1<=b)(d:b<=16):Ml N (b:Int)=some ((vK 32 b:Nat):Int):=by
 obtain⟨N,rfl⟩:∃M,N=M+1:=⟨N - 1,by omega⟩;have:=Fe (n:=32) a;rw[abA,dX (by omega),dX (by omega),show wrap .i64 ((32:Int)+(b:Int))=((32+b:Nat):Int) by rw[gT (by omega) (by omega)];omega,show wrap .i64 (((32+b:Nat):Int) - 1)=((32+b - 1:Nat):Int) by rw[gT (by omega) (by omega)];omega,QJ (by omega),ob,yr];rw[show(32+b - 1)/b=vK 32 b from rfl,gT (by omega) (by omega)]
def OP(b p:Nat)(x:Int):Nat:=(x.fdiv (2^(p*b)) % 2^b).toNat
def Ff{x:Int}(e:0<=x)(k:x<4294967296){b p:Nat}(c:1<=b)(f:b<=16)(m:p<vK 32 b):OP b p x<2^b/\∀M,3<=M->MQ M (x,(p:Int),(b:Int))=some (OP b p x:Int):=by
 unfold OP;have r:=ahO f;have o:p*b<32:=(Aa c).1 m;have j:(p:Int)*(b:Int)=((p*b:Nat):Int):=by rw[arM]
 have d:(2:Int)^b=((2^b:Nat):Int):=by simp
 have g:0<=x.fdiv (2^(p*b))/\x.fdiv (2^(p*b))<4294967296:=by
  have:(0:Int)<2^(p*b):=Int.pow_pos (by decide);rw[aus _ (by omega)];exact⟨Int.ediv_nonneg e (by omega),Int.lt_of_le_of_lt (Int.ediv_le_self _ e) k⟩
 have l:(0:Int)<2^b:=Int.pow_pos (by decide);refine⟨?_,λM s=>?_⟩
 ·have i:=Int.emod_nonneg (x.fdiv (2^(p*b))) (show(2:Int)^b≠0 by omega)
  have q:=Int.emod_lt_of_pos (x.fdiv (2^(p*b))) l;omega
 obtain⟨M,rfl⟩:∃K,M=K+3:=⟨M - 3,by omega⟩;have u:=Fe (n:=32) c;rw[ab0,abZ,eh (by omega),HQ (by omega) c f,ob,ob,aqk (by omega)];simp only[ap9,apW];rw[j,show wrap .i64 ((p*b:Nat):Int)=((p*b:Nat):Int)from gT (by omega) (by omega)];have h:∀n:Nat,n<32->wrap .u64 (n:Int)=(n:Int):=λn t=>by simp[wrap,IntKind.bits,IntKind.signed];omega
 rw[h _ o,h b (by omega)];unfold Zp PE;rw[apQ (by omega),apQ (by omega),ob,ob,ap2,ap2,aq_ (show p*b<=IntKind.bits .u32 by show p*b<=32;omega),aq_ (show b<=IntKind.bits .u32 by show b<=32;omega),Int.one_mul,wU,wU,d,show((2^b:Nat):Int) % 4294967296=((2^b:Nat):Int) by omega,show(((2^b:Nat):Int) - 1) % 4294967296=((2^b:Nat):Int) - 1 by omega,<-d,Ik];rw[bits_mask .u32 32 (by decide) (λn a b=>by rw[auw];omega) b (by omega) _ g.1 (by simpa using g.2)];have i:=Int.emod_nonneg (x.fdiv (2^(p*b))) (show(2:Int)^b≠0 by omega);congr 1;omega
def Y6(l:aX):Prop:=∀x∈l,0<=x/\x<4294967296
def FJ(n:Nat)(l:aX):Prop:=∀x∈l,∃i:Nat,x=(i:Int)/\i<n
def FJ.get{n:Nat}{l:aX}(h:FJ n l){k:Nat}{x:Int}(a:l[k]? =some x):∃i:Nat,x=(i:Int)/\i<n:=h x (ap_ a)
def FJ.set{n:Nat}{l:aX}(h:FJ n l){i k:Nat}(b:i<n):FJ n (l.set k (i:Int)):=λx c=>by
 rcases asz c with a|a
 ·exact h x a
 ·exact⟨i,a,b⟩
def FJ.zero{n m:Nat}(h:0<m->0<n):FJ n (List.replicate m 0):=λx a=>by
 have:=List.mem_replicate.1 a;exact⟨0,this.2,h (by omega)⟩
def amJ{N:Nat}(hN:Fu+5<=N){l g:aX}(hk:Y6 l)(a4:l.length<=1000)(a6:g.length<=1000)(U:FJ l.length g){b p:Nat}(G:1<=b)(C:b<=16)(J:p<vK 32 b):
 ∃O,Jd N (l,g,(p:Int),(b:Int))=some O/\O.length=g.length/\FJ l.length O:=by
 obtain⟨N,rfl⟩:∃M,N=M+1:=⟨N - 1,by omega⟩;have hF:=bQ;have h2:=ahO C;have L:∀{k:Nat} {x:Int},g[k]? =some x->∃(i:Nat) (y:Int),x=(i:Int)/\i<l.length/\l[i]? =some y/\0<=y/\y<4294967296/\l.getD x.toNat 0=y:=λh=>by
  obtain⟨i,rfl,w⟩:=U.get h;obtain⟨y,v⟩:=get_at (xs:=l) (i:=i) w;have:=hk y (ap_ v);exact⟨i,y,rfl,w,v,this.1,this.2,by rw[ap2,ari,v];rfl⟩
 obtain⟨f,hf⟩:∃f:Int->Nat,f=λx=>OP b p (l.getD x.toNat 0):=⟨_,rfl⟩;have H:∀x,f x=OP b p (l.getD x.toNat 0):=λx=>by rw[hf]
 have a5:∀{k:Nat} {x:Int},g[k]? =some x->f x<2^b:=λh=>by
  obtain⟨i,y,_,_,_,a,c,e⟩:=L h;rw[H,e];exact(Ff a c G C J).1
 obtain⟨r1,W,t,rfl,c1,c2,c3⟩:=Rf (F:=λm k (s:aX)=>xH N m (l,g,(p:Int),(b:Int),g,((g.length:Nat):Int),(k:Int),s)) (n:=g.length) (Q:=λr=>∃t:aX,r=(l,g,(p:Int),(b:Int),t)/\t.length=2^b+1/\t[0]? =some 0/\∀d,d<2^b->t[d+1]? =some ((g.countP λi=>decide (f i=d):Nat):Int))
  (I:=λk s=>s.length=2^b+1/\s[0]? =some 0/\∀d,d<2^b->s[d+1]? =some (((g.take k).countP λi=>decide (f i=d):Nat):Int)) (λm k s B j=>by
   obtain⟨x,u⟩:=get_at (xs:=g) (i:=k) B;obtain⟨i,y,rfl,w,v,P,R,S⟩:=L u;have o:=Ff P R G C J;have D:f (i:Int)=OP b p y:=by rw[H,S]
   have E:=j.2.2 _ o.1;have a3:((g.take k).countP λi=>decide (f i=OP b p y))<=g.length:=aqM ata (by rw[aqD];omega);refine⟨s.set (OP b p y+1) (((g.take (k+1)).countP λi=>decide (f i=OP b p y):Nat):Int),⟨by simp[j.1],by rw[aqS,apQ (by omega)];exact j.2.1,λd A=>?_⟩,?_⟩
   ·rw[aqS]
    by_cases c:OP b p y=d
    ·subst c;rw[apR rfl,apR (by omega)]
    ·rw[apQ (by omega),sx u,apQ (by omega)];exact j.2.2 d A
   ·rw[D9,eh (by omega),bd u,ob,bd v,ob,o.2 N (by omega),ob,show wrap .u32 ((OP b p y:Int)+1)=((OP b p y+1:Nat):Int) by rw[aoD (by omega) (by omega)];omega,bd E,ob,ob,ob,ob,cE (by omega),sx u,apR D,ap2,cE (by omega)]) (λm s j=>⟨_,by rw[D9,dX (by omega)],s,rfl,j.1,j.2.1,λd o=>by rw[j.2.2 d o,aqt (apT _)]⟩) (m:=N) (s:=List.replicate (2^b+1) 0) (by omega) ⟨by simp,by simp,λd o=>by rw[asn,apR (by omega)];simp⟩
 have c4:∀d,d<=0->t[d]? =some ((g.countP λi=>decide (f i<d):Nat):Int):=λd o=>by
  obtain rfl:d=0:=by omega
  rw[c2];simp
 obtain⟨r2,X,a0,rfl,d1,d2⟩:=Rf (F:=λm k (s:aX)=>xG N m (l,g,(p:Int),(b:Int),((2^b:Nat):Int),(k:Int),s)) (n:=2^b) (Q:=λr=>∃t:aX,r=(l,g,(p:Int),(b:Int),t)/\t.length=2^b+1/\∀d,d<=2^b->t[d]? =some ((g.countP λi=>decide (f i<d):Nat):Int))
  (I:=λk s=>s.length=2^b+1/\(∀d,d<=k->s[d]? =some ((g.countP λi=>decide (f i<d):Nat):Int))/\∀d,k<=d->d<2^b->s[d+1]? =some ((g.countP λi=>decide (f i=d):Nat):Int)) (λm k s B j=>by
   have Z:=j.2.1 k (apT _);have a2:=j.2.2 k (apT _) B;have l1:(g.countP λi=>decide (f i<k))<=g.length:=ata;have l2:(g.countP λi=>decide (f i=k))<=g.length:=ata;refine⟨s.set (k+1) ((g.countP λi=>decide (f i<k+1):Nat):Int),⟨by simp[j.1],λd o=>?_,λd o A=>?_⟩,?_⟩
   ·rw[aqS]
    by_cases c:k+1=d
    ·subst c;rw[apR rfl,apR (by omega)]
    ·rw[apQ c];exact j.2.1 d (by omega)
   ·rw[aqS,apQ (by omega)];exact j.2.2 d (by omega) A
   ·rw[D8,eh (by omega),cE (by omega),bd a2,ob,ob,bd Z,ob,ob,ob,ob,HP,ap2,show wrap .i64 (((g.countP λi=>decide (f i=k):Nat):Int)+((g.countP λi=>decide (f i<k):Nat):Int))=(((g.countP λi=>decide (f i<k))+(g.countP λi=>decide (f i=k)):Nat):Int) by rw[gT (by omega) (by omega)];omega]) (λm s j=>⟨_,by rw[D8,dX (by omega)],s,rfl,j.1,j.2.1⟩) (m:=N) (s:=t) (by omega) ⟨c1,c4,λd _ o=>c3 d o⟩
 obtain⟨r3,Y,e1,e2⟩:=Rf (F:=λm k (s:aX×aX)=>xF N m (l,(p:Int),(b:Int),g,((g.length:Nat):Int),(k:Int),s.1,s.2)) (n:=g.length) (Q:=λr=>r.length=g.length/\FJ l.length r)
  (I:=λk s=>s.1.length=2^b+1/\(∀d,d<2^b->s.1[d]? =some ((g.countP (λi=>decide (f i<d))+(g.take k).countP (λi=>decide (f i=d)):Nat):Int))/\s.2.length=g.length/\FJ l.length s.2) (λm k s B j=>by
   obtain⟨x,u⟩:=get_at (xs:=g) (i:=k) B;have K:=ad4 (f:=f) u;obtain⟨i,y,rfl,w,v,P,R,S⟩:=L u;have o:=Ff P R G C J;have D:f (i:Int)=OP b p y:=by rw[H,S]
   have E:=j.2.1 _ o.1;rw[D]at K;obtain⟨q,V⟩:∃q,q=g.countP (λi=>decide (f i<OP b p y))+(g.take k).countP (λi=>decide (f i=OP b p y)):=⟨_,rfl⟩;rw[<-V]at E K;obtain⟨z,hz⟩:=get_at (xs:=s.2) (i:=q) (by rw[j.2.2.1];exact K);refine⟨(s.1.set (OP b p y) ((q+1:Nat):Int),s.2.set q (i:Int)),⟨by simp[j.1],λd A=>?_,by simp[j.2.2.1],j.2.2.2.set w⟩,?_⟩
   ·rw[aqS]
    by_cases c:OP b p y=d
    ·subst c;rw[apR rfl,apR (by omega),sx u,apR D,V];rfl
    ·rw[apQ c,sx u,apQ (by omega)];exact j.2.1 d A
   ·rw[D7,eh (by omega),bd u,ob,bd v,ob,o.2 N (by omega),ob,bd E,ob,ob,bd hz,ob,ob,ob,ob,ob,ob,cE (by omega),cE (by omega),ap2,ap2]) (λm s j=>⟨_,by rw[D7,dX (by omega)],j.2.2.1,j.2.2.2⟩) (m:=N) (s:=(a0,List.replicate g.length 0)) (by omega) ⟨d1,λd o=>by rw[d2 d (by omega)];simp,by simp,FJ.zero λh=>by
    obtain⟨x,u⟩:=get_at (xs:=g) (i:=0) h;obtain⟨i,_,w⟩:=U.get u;omega⟩
 refine⟨r3,?_,e1,e2⟩;have u1:wrap .u64 (b:Int)=(b:Int):=by simp[wrap,IntKind.bits,IntKind.signed];omega
 have e3:(2:Int)^b=((2^b:Nat):Int):=by simp
 rw[XT,u1];unfold PE;rw[apQ (by omega),ob,ap2,aq_ (show b<=IntKind.bits .i64 by show b<=64;omega),Int.one_mul,e3,show wrap .i64 ((2^b:Nat):Int)=((2^b:Nat):Int)from gT (by omega) (by omega),cE (by omega),mj (by omega) (by omega) (by omega),ob,ap2];rw[show((0:Nat):Int)=(0:Int)from rfl]at W X Y;rw[W,ob];simp only;rw[show wrap .i64 (((t.length:Nat):Int) - 1)=((2^b:Nat):Int) by rw[gT (by omega) (by omega)];omega,X,ob];simp only;rw[mj (by omega) (by omega) (by omega),ob,ap2,Y,ob]
end Go.Proofs.YtmdbmigbihboaaaGreatDoor.Dd
namespace Go.Proofs.YtmdbmigbihboaaaGreatDoor.Dd
structure Bp(bits block g P:Int)(amK:bh):Prop where
 bi:1<=bits/\bits<=16
 bl:1<=block/\block<=100
 o:ad3 g P amK
def ad5{N:Nat}(Z:Fu+25<=N){e f g P:Int}{v:bh}(O:Bp e f g P v){a:aX}(G:Y6 a)(H:a.length<=60):
 ∃(t:Nat) (l:aX),t<=6400000/\Je N (a,e,f,g,P,v)=some ((t:Int),0,l)/\l.length=a.length/\FJ a.length l:=by
 obtain⟨N,rfl⟩:∃M,N=M+1:=⟨N - 1,by omega⟩;have Y:=bQ;obtain⟨⟨U,V⟩,⟨W,X⟩,E⟩:=O;obtain⟨b,rfl⟩:∃b:Nat,e=(b:Int):=⟨e.toNat,by omega⟩;obtain⟨c,rfl⟩:∃c:Nat,f=(c:Int):=⟨f.toNat,by omega⟩;obtain⟨t,L,K⟩:=V9 (N:=N) (by omega) E H (b:=c) (by omega) (by omega);have J:=Fe (n:=32) (b:=b) (by omega);have a0:0<vK 32 b:=(Aa (by omega)).2 (by omega);have a3:t*vK 32 b<=200000*32:=arp L J;obtain⟨r1,q,R,rfl,w,y⟩:=Rf (F:=λm k (s:aX)=>xJ N m (a,(b:Int),((vK 32 b:Nat):Int),(t:Int),((a.length:Nat):Int),(k:Int),s)) (n:=a.length) (Q:=λr=>∃o:aX,r=(a,(b:Int),((vK 32 b:Nat):Int),(t:Int),o)/\o.length=a.length/\FJ a.length o)
  (I:=λk s=>s.length=k/\FJ a.length s) (λm k s i d=>by
   refine⟨s++[(k:Int)],⟨by simp[d.1],λx j=>?_⟩,?_⟩
   ·rcases ap3.1 j with h|h
    ·exact d.2 x h
    ·exact⟨k,aqe.1 h,i⟩
   ·rw[Ea,eh (by omega),cO (by omega) (by simp;omega),ob,cE (by omega)]) (λm s d=>⟨_,by rw[Ea,dX (by omega)],s,rfl,d.1,d.2⟩) (m:=N) (s:=[]) (by omega) ⟨rfl,λx j=>by cases j⟩
 obtain⟨r2,u,S,rfl,z,A⟩:=Rf (F:=λm k (s:aX)=>xI N m (a,(b:Int),((vK 32 b:Nat):Int),(t:Int),((vK 32 b:Nat):Int),(k:Int),s)) (n:=vK 32 b) (Q:=λr=>∃o:aX,r=(((vK 32 b:Nat):Int),(t:Int),o)/\o.length=a.length/\FJ a.length o)
  (I:=λk s=>s.length=a.length/\FJ a.length s) (λm k s i d=>by
   obtain⟨o,B,C,D⟩:=amJ (N:=N) (by omega) G (by omega) (by omega) d.2 (b:=b) (p:=k) (by omega) (by omega) i;exact⟨o,⟨by rw[C,d.1],D⟩,by rw[D_,eh (by omega),B,ob,cE (by omega)]⟩) (λm s d=>⟨_,by rw[D_,dX (by omega)],s,rfl,d.1,d.2⟩) (m:=N) (s:=R) (by omega) ⟨w,y⟩
 refine⟨t*vK 32 b,S,by omega,?_,z,A⟩;rw[XU,HQ (by omega) (by omega) (by omega),ob,dX (by omega),K,ob,y6 rfl];rw[show((0:Nat):Int)=(0:Int)from rfl]at q u;simp only;rw[q,ob];simp only;rw[u,ob];simp only;rw[show(t:Int)*((vK 32 b:Nat):Int)=((t*vK 32 b:Nat):Int) by rw[arM],gT (by omega) (by omega)]
def ad6{N:Nat}(h:Fu+2<=N)(o:aX)(j:o.length<=1000)(n:Int):∃b,Jf N (o,n)=some b:=by
 obtain⟨N,rfl⟩:∃M,N=M+1:=⟨N - 1,by omega⟩;have g:=bQ;obtain⟨r,c,_⟩:=lp (F:=λm k (s:bh)=>xL N m (o,n,o,((o.length:Nat):Int),(k:Int),s)) (n:=o.length) (Q:=λr=>True) (I:=λk s=>True) (λm k s e d=>by
  obtain⟨x,f⟩:=get_at (xs:=o) (i:=k) e;rw[Eb,eh (by omega),bd f,ob,cd,cd,cd,cE (by omega)];split
  ·exact .inr ⟨_,rfl,trivial⟩
  ·split
   ·exact .inr ⟨_,rfl,trivial⟩
   ·split
    ·exact .inr ⟨_,rfl,trivial⟩
    ·exact .inl ⟨_,trivial,rfl⟩) (λm s d=>⟨_,by rw[Eb,dX (by omega)],trivial⟩) (m:=N) (i:=0) (s:=[]) (by omega) (by omega) trivial
 rw[XW];rw[show((0:Nat):Int)=(0:Int)from rfl]at c;rw[c,ob];cases r with
 |inl a=>exact⟨_,rfl⟩
 |inr b=>exact⟨_,rfl⟩
def YN{N:Nat}(B:Fu+4<=N){c o:aX}(q:Y6 c)(u:o.length<=1000)(v:FJ c.length o):∃b s,Uw N (c,o)=some (b,s)/\Y6 s/\s.length<=o.length:=by
 obtain⟨N,rfl⟩:∃M,N=M+1:=⟨N - 1,by omega⟩;have A:=bQ;obtain⟨b,l⟩:=ad6 (N:=N) (by omega) o u ((c.length:Nat):Int);rw[ab1,l,ob];cases b with
 |false=>exact⟨_,_,rfl,(λx a=>by cases a),by simp⟩
 |true=>
  obtain⟨r,e,g,j⟩:=Rf (F:=λm k (s:aX)=>Ch N m (c,o,((o.length:Nat):Int),(k:Int),s)) (n:=o.length) (Q:=λr=>Y6 r/\r.length<=o.length) (I:=λk s=>Y6 s/\s.length<=k) (λm k s t d=>by
   obtain⟨x,a⟩:=get_at (xs:=o) (i:=k) t;obtain⟨i,rfl,p⟩:=v.get a;obtain⟨y,f⟩:=get_at (xs:=c) (i:=i) p;have C:=d.2;refine⟨s++[y],⟨λz w=>?_,by simp;omega⟩,?_⟩
   ·rcases ap3.1 w with h|h
    ·exact d.1 z h
    ·rw[aqe.1 h];exact q y (ap_ f)
   ·rw[G7,eh (by omega),bd a,ob,bd f,ob,cO (by omega) (by simp;omega),ob,cE (by omega)]) (λm s d=>⟨_,by rw[G7,dX (by omega)],d⟩) (m:=N) (s:=[]) (by omega) ⟨(λx a=>by cases a),by simp⟩
  rw[show((0:Nat):Int)=(0:Int)from rfl]at e;simp only[ap9,apW];rw[e,ob];exact⟨_,_,rfl,g,j⟩
def YO{N:Nat}(j:Fu+3<=N)(s:aX)(o:s.length<=1000):∃l,UA N s=some l/\l.length=s.length:=by
 obtain⟨N,rfl⟩:∃M,N=M+1:=⟨N - 1,by omega⟩;have h:=bQ;obtain⟨r,b,d⟩:=Rf (F:=λm k (l:bq)=>xN N m (s,s,((s.length:Nat):Int),(k:Int),l)) (n:=s.length) (Q:=λr=>r.length=s.length) (I:=λk l=>l.length=s.length) (λm k l e a=>by
  obtain⟨x,f⟩:=get_at (xs:=s) (i:=k) e;obtain⟨y,c⟩:=get_at (xs:=l) (i:=k) (by omega);rw[G8,eh (by omega),bd f,ob,cd];split
  ·exact⟨l.set k true,by rw[ard];exact a,by rw[bd c,ob,ob,cE (by omega),ap2]⟩
  ·obtain⟨z,g⟩:=get_at (xs:=s) (i:=k - 1) (by omega)
   exact⟨l.set k (!(decide (z=x))),by rw[ard];exact a,by rw[show wrap .i64 ((k:Int) - 1)=((k - 1:Nat):Int) by rw[gT (by omega) (by omega)];omega,bd g,ob,bd c,ob,ob,cE (by omega),ap2]⟩) (λm l a=>⟨_,by rw[G8,dX (by omega)],a⟩) (m:=N) (s:=List.replicate s.length false) (by omega) (by simp)
 rw[show((0:Nat):Int)=(0:Int)from rfl]at b;rw[ab2,mj (by omega) (by omega) (by omega),ob,ap2,b,ob];exact⟨_,rfl,d⟩
def qF(a:bq):aX:=a.map λb=>if b then 1 else 0
def ad7{N:Nat}(u:Fu+3<=N)(a:bq)(w:a.length<=1000):Jg N (a,false)=some (qF a):=by
 obtain⟨N,rfl⟩:∃M,N=M+1:=⟨N - 1,by omega⟩;have t:=bQ;obtain⟨r,f,rfl⟩:=Rf (F:=λm k (l:aX)=>rY N m (false,a,((a.length:Nat):Int),(k:Int),l)) (n:=a.length) (Q:=λr=>r=qF a) (I:=λk l=>l=qF (a.take k)++List.replicate (a.length - k) 0) (λm k l p b=>by
  obtain⟨x,o⟩:=get_at (xs:=a) (i:=k) p;have d:(qF (a.take k)).length=k:=by simp[qF];omega
  have c:l[k]? =some 0:=by rw[b,aq7 (by omega),d,asn,apR (by omega)]
  have g:∀v:Int,v=(if x then 1 else 0)->l.set k v=qF (a.take (k+1))++List.replicate (a.length - (k+1)) 0:=λv q=>by
   rw[b,atn _ _ (by omega),d,atp,show a.length - k=(a.length - (k+1))+1 by omega,ark,as0,cP o,q];simp[qF]
  rw[Ec,eh (by omega),bd o,ob];cases x with
  |true=>
   refine⟨_,g 1 rfl,?_⟩;rw[show(!(true==false))=true from rfl,aqh,bd c,ob,ob,cE (by omega),ap2]
  |false=>
   refine⟨_,g 0 rfl,?_⟩;have:l.set k 0=l:=by
    refine arC λj=>?_;rw[aqS];split
    ·rename_i e;subst e;rw[c];split
     ·rfl
     ·rename_i h;have:=Sp.cQ c;omega
    ·rfl
   rw[show(!(false==false))=false from rfl,apW,this,cE (by omega)]) (λm l b=>⟨_,by rw[Ec,dX (by omega)],by rw[b,aqt (apT _)];simp⟩) (m:=N) (s:=List.replicate a.length 0) (by omega) (by simp[qF])
 rw[show((0:Nat):Int)=(0:Int)from rfl]at f;rw[XX,mj (by omega) (by omega) (by omega),ob,ap2,f,ob]
def CD(a:bq):0<=(qF a).sum/\(qF a).sum<=a.length:=by
 induction a with
 |nil=>simp[qF]
 |cons x l b=>cases x<;>simp[qF]at b⊢<;>omega
def OQ(a:bq)(i:Nat):(qF a).take i=qF (a.take i):=by simp[qF,ase]
def ajV(a:bq)(b:a.length<=60)(i:Nat):oP (qF a) i=(qF (a.take i)).sum:=by
 have h:=CD (a.take i);have:(a.take i).length<=a.length:=by rw[aqD];omega
 unfold oP;rw[OQ];omega
def ad8{a:bq}{i:Nat}(h:(qF a)[i]? =some 1):(qF (a.take i)).sum<(qF a).sum:=by
 have b:(qF a).sum=((qF a).take (i+1)).sum+((qF a).drop (i+1)).sum:=by rw[<-atC,arK]
 rw[cP h,atC,OQ]at b;have c:(qF a).drop (i+1)=qF (a.drop (i+1)):=by simp[qF,asu]
 have d:=CD (a.drop (i+1));rw[c]at b;simp at b;omega
def ad9{N:Nat}(hN:Fu+25<=N){K j g P:Int}{J:bh}(X:Bp K j g P J)(a:bq)(w:a.length<=60):∃(t:Nat) (o:aX),t<=300000/\Jh N (a,j,g,P,J)=some ((t:Int),0,o)/\FJ a.length o/\o.length<=a.length:=by
 obtain⟨N,rfl⟩:∃M,N=M+2:=⟨N - 2,by omega⟩;have hF:=bQ;obtain⟨_,⟨Z,c2⟩,u⟩:=X;obtain⟨c,rfl⟩:∃c:Nat,j=(c:Int):=⟨j.toNat,by omega⟩;have A:(qF a).length=a.length:=by simp[qF]
 obtain⟨t,ht,E⟩:=V9 (N:=N) (by omega) u (l:=qF a) (by omega) (b:=c) (by omega) (by omega);obtain⟨t2,f,B,a4,S⟩:=u a.length w;have a3:=CD a;have C:=ajV a w;have a5:f.length<=60:=by rw[B.length_eq];simp[Sp.so];omega
 obtain⟨q,V⟩:∃q:Nat,(qF a).sum=(q:Int):=⟨(qF a).sum.toNat,by omega⟩;have W:oP (qF a) a.length=(q:Int):=by rw[C,aqt (apT _),V]
 rw[A]at E;obtain⟨r,D,o,rfl,h1,L⟩:=Rf (F:=λm k (l:aX)=>xQ N m (qF a,(t:Int),(t2:Int),((f.length:Nat):Int),(k:Int),gk (qF a),l,f)) (n:=f.length) (Q:=λr=>∃o:aX,r=((t:Int),(t2:Int),o)/\o.length=q/\FJ a.length o) (I:=λk l=>l.length=q/\FJ a.length l) (λm k l R d=>by
  obtain⟨x,G⟩:=get_at (xs:=f) (i:=k) R;obtain⟨i,rfl,O⟩:=yR.1 (B.mem_iff.1 (ap_ G));obtain⟨y,H⟩:=get_at (xs:=qF a) (i:=i) (by omega);rw[G9,eh (by omega),bd G,ob,ob,bd H,ob,cd,cE (by omega)];split
  ·rename_i e
   subst e;have a2:=ad8 H;have a0:=CD (a.take i);have a1:=C i;obtain⟨p,U⟩:∃p:Nat,oP (qF a) i=(p:Int):=⟨(oP (qF a) i).toNat,by omega⟩;obtain⟨z,Y⟩:=get_at (xs:=l) (i:=p) (by rw[d.1];omega);have v:=vJ (l:=qF a) (i:=i) (by omega);rw[U]at v;exact⟨l.set p (i:Int),⟨by simp[d.1],d.2.set O⟩,by rw[bd v,ob,ob,bd Y,ob,ob,ap2]⟩
  ·exact⟨l,d,rfl⟩) (λm l d=>⟨_,by rw[G9,dX (by omega)],l,rfl,d.1,d.2⟩) (m:=N) (s:=List.replicate q 0) (by omega) ⟨by simp,FJ.zero λh=>by omega⟩
 rw[show((0:Nat):Int)=(0:Int)from rfl]at D;refine⟨t+t2,o,by omega,?_,L,by omega⟩;rw[XY,ad7 (by omega) a (by omega),ob,ab4,E,ob,y6 rfl,A,S N (by omega),ob,y6 rfl];simp only;rw[W,mj (by omega) (by omega) (by omega),ob,ap2,D,ob,ob];simp only;rw[show wrap .i64 ((t:Int)+(t2:Int))=((t+t2:Nat):Int) by rw[gT (by omega) (by omega)];omega]
def Jx{N:Nat}(hN:Fu+30<=N){p q g P:Int}{D:bh}(B:Bp p q g P D){f:aX}(w:Y6 f)(Y:f.length<=60):∃(t:Nat) (o:aX),t<=7000000/\Jj N (f,p,q,g,P,D)=some ((t:Int),0,o)/\Y6 o/\o.length<=f.length:=by
 obtain⟨N,rfl⟩:∃M,N=M+2:=⟨N - 2,by omega⟩;have hF:=bQ;obtain⟨c,a4,a0,K,ol,op⟩:=ad5 (N:=N) (by omega) B w Y;obtain⟨b,s,L,su,sl⟩:=YN (N:=N) (by omega) w (by omega) op;obtain⟨U,O,S⟩:=YO (N:=N) (by omega) s (by omega);obtain⟨t2,a,a3,R,u,J⟩:=ad9 (N:=N) (by omega) B U (by omega);rw[S]at u J;obtain⟨r,A,o,E,rfl,h1,V⟩:=Rf (F:=λm k (l:aX×aX)=>Ci N m ((c:Int),(t2:Int),((a.length:Nat):Int),(k:Int),s,a,l.1,l.2)) (n:=a.length) (Q:=λr=>∃o E:aX,r=((c:Int),(t2:Int),o,E)/\o.length=a.length/\Y6 o) (I:=λk l=>l.1.length=k/\l.2.length=k/\Y6 l.1) (λm k l X d=>by
  obtain⟨x,e⟩:=get_at (xs:=a) (i:=k) X;obtain⟨i,rfl,W⟩:=u.get e;obtain⟨y,C⟩:=get_at (xs:=s) (i:=i) W;have G:=d.1;have H:=d.2.1;obtain⟨v,Z⟩:∃v,Ji N N ((c:Int),(t2:Int),(k:Int),(i:Int),((s.length:Nat):Int),((a.length:Nat):Int),(k:Int),s,a,l.1,l.2)=some ((c:Int),(t2:Int),(i:Int),v,((a.length:Nat):Int),(k:Int),s,a,l.1,l.2):=by
   obtain⟨M,rfl⟩:∃M,N=M+1:=⟨N - 1,by omega⟩;rw[XZ,cd,cE (by omega)];split
   ·obtain⟨z,j⟩:=get_at (xs:=a) (i:=k+1) (by omega)
    exact⟨z,by rw[bd j,ob,ob]⟩
   ·exact⟨_,rfl⟩
  refine⟨(l.1++[y],l.2++[wrap .i64 (v - (i:Int))]),⟨by simp[G],by simp[H],λz j=>?_⟩,?_⟩
  ·rcases ap3.1 j with h|h
   ·exact d.2.2 z h
   ·rw[aqe.1 h];exact su y (ap_ C)
  ·rw[G_,eh (by omega),bd e,ob,ob,Z,ob]
   simp only;rw[bd C,ob,ob,cO (by omega) (by simp;omega),ob,cO (by omega) (by simp;omega),ob,cE (by omega)]) (λm l d=>⟨_,by rw[G_,dX (by omega)],l.1,l.2,rfl,d.1,d.2.2⟩) (m:=N) (s:=([],[])) (by omega) ⟨rfl,rfl,λx e=>by cases e⟩
 rw[show((0:Nat):Int)=(0:Int)from rfl]at A;refine⟨c+t2,o,by omega,?_,V,by omega⟩;rw[X0,ab6,K,ob,y6 rfl];simp only;rw[L,ob];simp only;rw[O,ob,R,ob,y6 rfl];simp only;rw[A,ob,ob];simp only;rw[show wrap .i64 ((c:Int)+(t2:Int))=((c+t2:Nat):Int) by rw[gT (by omega) (by omega)];omega]
def ajW{N:Nat}(o:2<=N)(u v:Int):∃k b,I2 N (u,v)=some (k,b)/\(b=true->0<=k/\k<4294967296)/\(0<=u->u<65536->0<=v->v<65536->b=true):=by
 obtain⟨N,rfl⟩:∃M,N=M+2:=⟨N - 2,by omega⟩;have j:∀n:Int,DR (N+1) n=some (decide (0<=n/\n<65536)):=λn=>by
  rw[XC,cd];split
  ·rename_i h;congr 1;exact arq.2 ⟨λd=>⟨h,d⟩,λd=>d.2⟩
  ·rename_i h;rw[aqn λd=>h d.1]
 rw[XD,j,ob,FX,j];by_cases g:0<=u/\u<65536
 ·rw[apR g,ob,FX]
  by_cases i:0<=v/\v<65536
  ·rw[apR i]
   refine⟨_,_,rfl,λ_=>?_,λ_ _ _ _=>rfl⟩;have l:(2:Int)^(min (Int.toNat (16:Int)) (32:Nat))=65536:=by decide
   rw[l,Ik,wU (if v<u then v else u),wU (if v>u then v else u),wU];have m:0<=(if v<u then v else u)/\(if v<u then v else u)<65536:=by split<;>omega
   have d:0<=(if v>u then v else u)/\(if v>u then v else u)<65536:=by split<;>omega
   generalize(if v<u then v else u)=a at*;generalize(if v>u then v else u)=c at*;rw[bits_join .u32 32 (by decide) (λn a b=>by rw[auw];omega) 16 _ _ (by omega) (by omega) (by omega) (by omega) (by omega) (by omega)];omega
  ·rw[apQ i]
   exact⟨_,_,rfl,λh=>(by cases h),λ_ _ e f=>absurd ⟨e,f⟩ i⟩
 ·rw[apQ g]
  exact⟨_,_,rfl,λh=>(by cases h),λe f _ _=>absurd ⟨e,f⟩ g⟩
def agI{N:Nat}(e:1<=N){k:Int}(c:0<=k)(d:k<4294967296):Jk N k=some (k/65536,k % 65536):=by
 obtain⟨N,rfl⟩:∃M,N=M+1:=⟨N - 1,by omega⟩;have a:(2:Int)^(min (Int.toNat (16:Int)) (32:Nat))=65536:=by decide
 have b:wrap .u16 k=k % 65536:=by simp[wrap,IntKind.bits,IntKind.signed]
 rw[X1,a,b,aus _ (by omega),gT (by omega) (by omega),gT (by omega) (by omega)]
def OS{N:Nat}(hN:Fu+35<=N){j p g P:Int}{q:bh}(X:Bp j p g P q)(l:bh)(L:l.length<=60):
 ∃(t:Nat) (e:Int) (o:bh),t<=7000000/\Ed N (l,j,p,g,P,q)=some ((t:Int),e,o)/\(∀x∈o,0<=x.1/\0<=x.2)/\o.length<=(l.filter λx=>decide (x.1≠x.2)).length/\((∀x∈l,0<=x.1/\x.1<65536/\0<=x.2/\x.2<65536)->e=0):=by
 obtain⟨N,rfl⟩:∃M,N=M+1:=⟨N - 1,by omega⟩;have hF:=bQ;have D:∀m:bh,(m.filter λx=>decide (x.1≠x.2)).length<=m.length:=λm=>as_ _ _;obtain⟨r,E,R⟩:=lp (F:=λm k (s:aX)=>xX N m (l,((l.length:Nat):Int),(k:Int),j,p,g,P,q,s)) (n:=l.length) (Q:=λr=>(∃s:aX,r=.inl (j,p,g,P,q,s)/\s.length=(l.filter λx=>decide (x.1≠x.2)).length/\Y6 s)\/r=.inr (0,10)/\¬∀x∈l,0<=x.1/\x.1<65536/\0<=x.2/\x.2<65536)
  (I:=λk s=>s.length=((l.take k).filter λx=>decide (x.1≠x.2)).length/\Y6 s) (λm k s A a=>by
   obtain⟨⟨u,v⟩,d⟩:=get_at (xs:=l) (i:=k) A;obtain⟨Y,b,w,y,C⟩:=ajW (N:=N) (by omega) u v;have a0:s.length<=60:=by have:=D (l.take k);rw[a.1];rw[aqD]at this;omega
   rw[Hb,eh (by omega),bd d,ob];simp only;rw[w,ob];simp only;cases b with
   |false=>exact .inr ⟨_,rfl,.inr ⟨rfl,λh=>by
    have:=h _ (ap_ d);have:=C this.1 this.2.1 this.2.2.1 this.2.2.2;cases this⟩⟩
   |true=>
    simp only[ap9,apW];rw[FX];by_cases c:u=v
    ·rw[apR c]
     exact .inl ⟨s,⟨by rw[cP d,asg,aqb,a.1];simp[c],a.2⟩,by rw[cE (by omega)]⟩
    ·rw[apQ c,cO (by omega) (by simp;omega),ob,cE (by omega)]
     refine .inl ⟨s++[Y],⟨by rw[cP d,asg,aqb,aqb,a.1];simp[c],λz B=>?_⟩,rfl⟩;rcases ap3.1 B with h|h
     ·exact a.2 z h
     ·rw[aqe.1 h];exact y rfl) (λm s a=>⟨_,by rw[Hb,dX (by omega)],.inl ⟨s,rfl,by rw[a.1,aqt (apT _)],a.2⟩⟩) (m:=N) (i:=0) (s:=[]) (by omega) (by omega) ⟨by simp,λx d=>by cases d⟩
 rw[show((0:Nat):Int)=(0:Int)from rfl]at E;rw[ab7,E,ob];rcases R with⟨s,rfl,S,U⟩|⟨rfl,O⟩
 ·have V:s.length<=60:=by rw[S];exact aqM (D l) L
  obtain⟨t,o,W,w,y,C⟩:=Jx (N:=N) (by omega) X U V;simp only;rw[w,ob];simp only;obtain⟨r2,G,f,rfl,Z,J⟩:=Rf (F:=λm k (s:bh)=>Cj N m ((t:Int),0,((o.length:Nat):Int),(k:Int),s,o)) (n:=o.length) (Q:=λr=>∃f:bh,r=((t:Int),0,f)/\f.length=o.length/\∀x∈f,0<=x.1/\0<=x.2) (I:=λk s=>s.length=k/\∀x∈s,0<=x.1/\0<=x.2) (λm k s A a=>by
   obtain⟨x,d⟩:=get_at (xs:=o) (i:=k) A;have H:=y x (ap_ d);have K:=a.1;refine⟨s++[(x/65536,x % 65536)],⟨by simp[K],λz B=>?_⟩,by rw[Ha,eh (by omega),bd d,ob,ob,agI (by omega) H.1 H.2,ob,cO (by omega) (by simp;omega),ob,cE (by omega)]⟩;rcases ap3.1 B with h|h
   ·exact a.2 z h
   ·rw[aqe.1 h];simp only;omega) (λm s a=>⟨_,by rw[Ha,dX (by omega)],s,rfl,a.1,a.2⟩) (m:=N) (s:=[]) (by omega) ⟨rfl,λx d=>by cases d⟩
  rw[show((0:Nat):Int)=(0:Int)from rfl]at G;rw[G,ob];exact⟨t,0,f,W,rfl,J,by omega,λ_=>rfl⟩
 ·exact⟨0,10,[],by omega,rfl,(λx d=>by cases d),by simp,λh=>absurd h O⟩
end Go.Proofs.YtmdbmigbihboaaaGreatDoor.Dd
namespace Go.Proofs.YtmdbmigbihboaaaGreatDoor
variable{E:Int}{i:List ca}{d e:Nat}
section
open Go Go.RowKit Go.Sort
def amL(N:Nat)(n:Nat)(b:List ca)(w:Int×Int×Int×Int×bh)(k:Int)(c:bh)(d:ju)(t:Nat)(es':bh)(f:ju):Prop:=
 (k=3/\t=0/\es'=[]/\f=d/\d.length<=60)\/∃a,Ed N (c,w)=some ((t:Int),0,a)/\f=[]/\es'.length<=60/\a.length<=60/\
  a.length<=(c.filter λx=>decide (x.1≠x.2)).length/\((k=2/\(∀x∈a,lM (n:Int) x)/\es'.Sublist (cN b)/\∀e,e∈es'↔e∈cN b/\e∈a.map dm)\/k=1/\YA n b a es'/\b.length+es'.length<=400)
def ad_(hN:Fu+45<=d){n o g P:Int}{z:bh}(W:Dd.Bp n o g P z)(h:GR e i){b:bh}{c:ju}(l:WR E b c):
 ∃(t:Nat) (a L:Int) (F:bh) (N:ju),t<=7000000/\oC (d+1) ((e:Int),i,E,b,c,n,o,g,P,z)=some ((t:Int),a,L,F,N)/\((a≠0)\/a=0/\L=E/\(∀v∈uZ b c,v<(e:Int))/\amL d e i (n,o,g,P,z) E b c t F N):=by
 have hF:=bQ;have a2:=h.len;have I:b.length<=60:=by
  rcases l with⟨_,_,h,_⟩|⟨_,rfl,_⟩
  ·exact h
  ·simp
 have V:c.length<=60:=by
  rcases l with⟨_,rfl,_⟩|⟨_,_,h,_⟩
  ·simp
  ·exact h
 obtain⟨b1,R,Y⟩:=z_ (N:=d) (by omega) E b c (by omega) (by omega);obtain rfl:=Y.2 l;have a3:=HO b c (by omega) (by omega);obtain⟨O,S,Z⟩:=ON (N:=d) (by omega) (e:Int) i (uZ b c) (by omega);rw[Ek,h.right (by omega),ob];simp only[ap9,apW];rw[R,ob];simp only[ap9,apW];rw[V8 (by omega) _ _ _ (by omega) (by omega),ob,S,ob];simp only;cases O with
 |true=>exact⟨0,10,0,[],[],by omega,rfl,.inl (by decide)⟩
 |false=>
  have y:=Z.1 rfl;rw[apW,cd];by_cases q:E=3
  ·rw[apR q]
   exact⟨0,0,E,[],c,by omega,rfl,.inr ⟨rfl,rfl,y,.inl ⟨q,rfl,rfl,rfl,V⟩⟩⟩
  ·rw[apQ q]
   obtain⟨t,a,j,m,u,ho,w,a1⟩:=Dd.OS (N:=d) (by omega) W b I;have J:j.length<=60:=aqM w (aqM (as_ _ _) I);rw[u,ob,FX];by_cases r:a=0
   ·subst r
    rw[apR rfl,cd];by_cases p:E=2
    ·rw[apR p]
     simp only;rcases CC (N:=d) (by omega) h j (by omega)with⟨f,_⟩|⟨s,f,k,G,H⟩
     ·rw[f,ob];exact⟨t,10,E,[],[],m,rfl,.inl (by decide)⟩
     ·rw[f,ob]
      have U:s.length<=60:=by
       have:=CA (A:=s) (B:=j.map dm) ((tJ (EZ h.VP)).sublist G) λx X=>((H x).1 X).2;rw[ap1]at this;omega
      exact⟨t,0,E,s,[],m,rfl,.inr ⟨rfl,rfl,y,.inr ⟨j,u,rfl,U,J,w,.inl ⟨p,k,G,H⟩⟩⟩⟩
    ·rw[apQ p]
     simp only;have Q:E=1:=by rcases l with⟨h,_⟩|⟨h,_⟩<;>omega
     have K:Ej d ((e:Int),i)=some (400 - ((i.length:Nat):Int)):=by
      obtain⟨M,rfl⟩:∃M,d=M+1:=⟨d - 1,by omega⟩;rw[He,h.right (by omega),ob];simp only[ap9,apW];rw[gT (by omega) (by omega)]
     rcases QZ (N:=d) (by omega) h j (by omega)with⟨f,_⟩|⟨D,f,k⟩
     ·rw[f,ob,K,ob,cd]
      simp only[aqI];rw[apQ (by omega)];exact⟨t,10,E,[],[],m,rfl,.inl (by decide)⟩
     ·rw[f,ob,K,ob,cd]
      simp only;have a0:=k.len;by_cases C:400 - ((i.length:Nat):Int)<((D.length:Nat):Int)
      ·rw[apR C];exact⟨0,2,0,[],[],by omega,rfl,.inl (by decide)⟩
      ·rw[apQ C]
       exact⟨t,0,E,D,[],m,rfl,.inr ⟨rfl,rfl,y,.inr ⟨j,u,rfl,by omega,J,w,.inr ⟨Q,k,by omega⟩⟩⟩⟩
   ·rw[apQ r];exact⟨0,a,0,[],[],by omega,rfl,.inl r⟩
def YP(m:Fu+45<=d)(h:GR e i){a:bh}{b:ju}(j:a.length<=100000)(k:b.length<=100000)(g:¬WR E a b)(w:Int×Int×Int×Int×bh):oC (d+1) ((e:Int),i,E,a,b,w)=some (0,1,0,[],[]):=by
 obtain⟨c,f,l⟩:=z_ (N:=d) (by omega) E a b j k;obtain⟨n,o,p,q,r⟩:=w;rw[Ek,h.right (by omega),ob];simp only[ap9,apW];rw[f,ob];cases c with
 |true=>exact absurd (l.1 rfl) g
 |false=>rfl
end
section
open Go Go.RowKit Go.Sort
def HS(u:Fu+4<=d)(c a:aX)(e:a.length<=1000):Hr d (c,a)=some (decide (∀v∈a,0<=v/\v<(c.length:Int))):=by
 obtain⟨d,rfl⟩:∃M,d=M+3:=⟨d - 3,by omega⟩;have t:=bQ;obtain⟨b,o,r⟩:=lp (F:=λm k (_:Unit)=>Jp d m (a,((a.length:Nat):Int),(k:Int),c)) (n:=a.length) (Q:=λb=>(b=.inl c/\∀v∈a,0<=v/\v<(c.length:Int))\/∃k:Nat,b=.inr ((k:Int),c)/\¬∀v∈a,0<=v/\v<(c.length:Int)) (I:=λk _=>∀v∈a.take k,0<=v/\v<(c.length:Int)) (λm k s q f=>by
  obtain⟨x,g⟩:=get_at (xs:=a) (i:=k) q;have p:=ap_ g;obtain⟨M,rfl⟩:∃M,d=M+1:=⟨d - 1,by omega⟩;rw[NQ,eh (by omega),bd g,ob,acR,cd];by_cases j:x<0
  ·rw[apR j,ob];exact .inr ⟨_,rfl,.inr ⟨k,rfl,λh=>by have:=h x p;omega⟩⟩
  ·rw[apQ j,ob]
   simp only;rw[cd];by_cases l:((c.length:Nat):Int)<=x
   ·rw[apR l];exact .inr ⟨_,rfl,.inr ⟨k,rfl,λh=>by have:=h x p;omega⟩⟩
   ·rw[apQ l,cE (by omega)]
    refine .inl ⟨(),λv e=>?_,rfl⟩;rw[cP g]at e;rcases ap3.1 e with e|e
    ·exact f v e
    ·rw[aqe.1 e];omega) (λm s f=>⟨_,by rw[NQ,dX (by omega)],.inl ⟨rfl,by rw[aqt (apT _)]at f;exact f⟩⟩) (m:=d) (i:=0) (s:=()) (by omega) (by omega) (by simp)
 rw[show((0:Nat):Int)=(0:Int)from rfl]at o;rw[acV,af_,af9,o,ob];rcases r with⟨rfl,h⟩|⟨k,rfl,h⟩
 ·rw[aqk h];rfl
 ·rw[aqn h]
  simp only[ob];rw[aqk (by omega)];rfl
def YQ{N:Nat}(l:Fu+3<=N)(c:aX)(o:c.length<=1000)(a u v:Int)(d:0<=u/\u<(c.length:Int)):∃r,ac1 N (c,c,a,u,v)=some r:=by
 obtain⟨N,rfl⟩:∃M,N=M+1:=⟨N - 1,by omega⟩;have j:=bQ;obtain⟨y,_,h⟩:=Jv d.1 d.2;obtain⟨r,b,_⟩:=lp (F:=λm k (s:Int)=>Ez N m (s,c,((c.length:Nat):Int),(k:Int),c,a,u,v)) (n:=c.length) (Q:=λ_=>True) (I:=λk _=>True) (λm k s f e=>by
  obtain⟨x,g⟩:=get_at (xs:=c) (i:=k) f;obtain⟨M,rfl⟩:∃M,N=M+1:=⟨N - 1,by omega⟩;rw[NR,eh (by omega),bd g,ob,acX,h,ob,ob,cd,cE (by omega)];split
  ·exact .inl ⟨_,trivial,rfl⟩
  ·exact .inl ⟨_,trivial,rfl⟩) (λm s e=>⟨_,by rw[NR,dX (by omega)],trivial⟩) (m:=N) (i:=0) (s:=0) (by omega) (by omega) trivial
 rw[show((0:Nat):Int)=(0:Int)from rfl]at b;rw[aga,b,ob];exact⟨_,rfl⟩
def YR{N:Nat}(g:Fu+3<=N)(c:aX)(h:c.length<=1000):∃r,NS N c=some r:=by
 obtain⟨N,rfl⟩:∃M,N=M+1:=⟨N - 1,by omega⟩;have f:=bQ;obtain⟨r,a,_⟩:=lp (F:=λm k (s:Int)=>yh N m (s,c,((c.length:Nat):Int),(k:Int))) (n:=c.length) (Q:=λ_=>True) (I:=λk _=>True) (λm k s d b=>by
  obtain⟨x,e⟩:=get_at (xs:=c) (i:=k) d;obtain⟨M,rfl⟩:∃M,N=M+1:=⟨N - 1,by omega⟩;rw[Hs,eh (by omega),bd e,ob,ac3,ob,cd,cE (by omega)];split
  ·exact .inl ⟨_,trivial,rfl⟩
  ·exact .inl ⟨_,trivial,rfl⟩) (λm s b=>⟨_,by rw[Hs,dX (by omega)],trivial⟩) (m:=N) (i:=0) (s:=0) (by omega) (by omega) trivial
 rw[show((0:Nat):Int)=(0:Int)from rfl]at a;rw[ac4,a,ob];exact⟨_,rfl⟩
def YS{N:Nat}(s:Fu+6<=N)(c:aX)(k:c.length<=1000)(a u v:Int):∃r,VC N (c,a,u,v)=some r:=by
 obtain⟨N,rfl⟩:∃M,N=M+2:=⟨N - 2,by omega⟩;rw[ac5,cd];by_cases i:a=1
 ·rw[apR i,HS (by omega) c _ (by simp),ob]
  by_cases h:∀w∈[u,v],0<=w/\w<(c.length:Int)
  ·rw[aqk h]
   simp only[ap9,apW];have e:=h u (by simp);have j:=h v (by simp);obtain⟨x,_,g⟩:=Jv e.1 e.2;obtain⟨y,_,m⟩:=Jv j.1 j.2;rw[g,ob,m,ob,cd];split<;>exact⟨_,rfl⟩
  ·rw[aqn h];exact⟨_,rfl⟩
 ·rw[apQ i,Yg,cd]
  have l:∀b:Bool,∃r,(aW (some (a,b,c,a,u,v)) λd=>cond d.2.1
   (aW (Hr (N+1) (d.2.2.1,[d.2.2.2.2.1])) λn=>
    cond (!n)
     (some ((0:Int),(10:Int)))
     (cond (decide (d.2.2.2.1=(2:Int)))
      (aW (ba d.2.2.1 d.2.2.2.2.1) λo=>
       some (o,(0:Int)))
      (aW (ac1 (N+1) (d.2.2.1,(d.2.2.1,(d.2.2.2.1,(d.2.2.2.2.1,d.2.2.2.2.2))))) λp=>
       some (p.1,(0:Int)))))
   (cond (decide (d.1=(4:Int)))
    (aW (NS (N+1) d.2.2.1) λq=>
     some (q,(0:Int)))
    (some ((0:Int),(1:Int)))))=some r:=λb=>by
    rw[ob];cases b with
    |true=>
     simp only[aqh];rw[HS (by omega) c _ (by simp),ob];by_cases h:∀w∈[u],0<=w/\w<(c.length:Int)
     ·rw[aqk h]
      simp only[ap9,apW];have e:=h u (by simp);obtain⟨x,_,g⟩:=Jv e.1 e.2;rw[cd];split
      ·rw[g,ob];exact⟨_,rfl⟩
      ·obtain⟨r,f⟩:=YQ (N:=N+1) (by omega) c k a u v e
       rw[f,ob];exact⟨_,rfl⟩
     ·rw[aqn h];exact⟨_,rfl⟩
    |false=>
     simp only[apW];rw[cd];split
     ·obtain⟨r,f⟩:=YR (N:=N+1) (by omega) c k
      rw[f,ob];exact⟨_,rfl⟩
     ·exact⟨_,rfl⟩
  split
  ·exact l true
  ·exact l (decide (a=3))
def Fg{N:Nat}(A:Fu+20<=N){a:List ca}(h:GR d a)(l:ju)(B:l.length<=1000):∃r,uW N ((d:Int),a,l)=some r/\r.2.length<=1000:=by
 obtain⟨N,rfl⟩:∃M,N=M+2:=⟨N - 2,by omega⟩;have z:=bQ;have C:=h.len;have j:tV (d:Int) (cN a)=0:=by
  rw[VU h.lo h.hi,apR λe q=>by
   obtain⟨t,w,rfl⟩:=ap4.1 q;have:=h.tie t w;unfold na at this;exact⟨⟨by show 0<=t.1;omega,by show t.1<_;omega⟩,by show 0<=t.2.1;omega,by show t.2.1<_;omega⟩]
 have p:(agn (d:Int) (cN a)).length<=1000:=by have:=h.hi;simp[agn];omega
 rw[ac6,Yf,h.right (by omega),ob];simp only[ap9,apW];rw[z7 (by omega) h,ob,QP (by omega) _ _ (by simp[cN];omega),j,apR rfl,ob,ob];simp only[ap9,apW];generalize agn (d:Int) (cN a)=c at*;obtain⟨b,f,n⟩:=lp (F:=λm k (s:aX)=>Cw (N+1) m (l,((l.length:Nat):Int),(k:Int),c,s)) (n:=l.length) (Q:=λb=>∀o,b=.inl o->o.length<=1000) (I:=λk s=>s.length<=k) (λm k s u g=>by
  obtain⟨x,y⟩:=get_at (xs:=l) (i:=k) u;obtain⟨r,v⟩:=YS (N:=N+1) (by omega) c p x.1 x.2.1 x.2.2;rw[Ht,eh (by omega),bd y,ob,v,ob,FX];split
  ·rw[cO (by omega) (by simp;omega),ob,cE (by omega)]
   exact .inl ⟨_,by simp;omega,rfl⟩
  ·exact .inr ⟨_,rfl,λo h=>by cases h⟩) (λm s g=>⟨_,by rw[Ht,dX (by omega)],λo h=>by cases h;omega⟩) (m:=N+1) (i:=0) (s:=[]) (by omega) (by omega) (by simp)
 rw[show((0:Nat):Int)=(0:Int)from rfl]at f;rw[f,ob];cases b with
 |inl o=>exact⟨_,rfl,n o rfl⟩
 |inr e=>exact⟨_,rfl,by simp⟩
end
section
open Go Go.RowKit Go.Sort
abbrev SV:Type:=Int×List ca×Int×Int
abbrev XV:Type:=Int×bh×ju
abbrev WV:Type:=Int×Int×Int×Int×bh
abbrev RV:Type:=Int×Int×aX
noncomputable def qG(N:Nat)(s:SV)(x:XV)(w:WV):Option (SV×RV):=
 aW (qt N s) λb=>cond b
  (aW (oC N (s.1,s.2.1,x.1,x.2.1,x.2.2,w)) λc=>cond (decide (c.2.1=0))
   (aW (kj N (wrap .i64 (((c.2.2.2.1.length:Nat):Int)+((c.2.2.2.2.length:Nat):Int)),w.2.2)) λo=>cond (decide (o.2.1=0))
    (cond (decide (c.2.2.1=1))
     (aW (mg N (s.1,s.2.1,c.2.2.2.1)) λa=>cond (decide (a.2.1=0))
      (some ((a.2.2.1,a.2.2.2,wrap .i64 (s.2.2.1+1),wrap .i64 (s.2.2.2+wrap .i64 (c.1+o.1))),0,a.1,[]))
      (some (s,a.2.1,0,[])))
     (cond (decide (c.2.2.1=2))
      (aW (pM N (s.1,s.2.1,c.2.2.2.1)) λa=>cond (decide (a.1=0))
       (some ((a.2.1,a.2.2.1,wrap .i64 (s.2.2.1+1),wrap .i64 (s.2.2.2+wrap .i64 (c.1+o.1))),0,((c.2.2.2.1.length:Nat):Int),[]))
       (some (s,a.1,0,[])))
      (cond (decide (c.2.2.1=3))
       (aW (uW N (s.1,s.2.1,c.2.2.2.2)) λa=>cond (decide (a.1=0))
        (some ((s.1,s.2.1,wrap .i64 (s.2.2.1+1),wrap .i64 (s.2.2.2+wrap .i64 (c.1+o.1))),0,0,a.2))
        (some (s,a.1,0,[])))
       (some ((s.1,s.2.1,wrap .i64 (s.2.2.1+1),wrap .i64 (s.2.2.2+wrap .i64 (c.1+o.1))),0,0,[])))))
    (some (s,o.2.1,0,[])))
   (some (s,c.2.1,0,[])))
  (some (s,1,0,[]))
def StR(s:SV):Prop:=(0<=s.1/\GR s.1.toNat s.2.1)/\(0<=s.2.2.1/\s.2.2.1<=1099511627776)/\0<=s.2.2.2/\s.2.2.2<=1099511627776
def HT{N:Nat}(k:Fu+18<=N)(s:SV)(i:s.2.1.length<=100000):∃b,qt N s=some b/\(b=true↔StR s):=by
 obtain⟨N,rfl⟩:∃m,N=m+2:=⟨N - 2,by omega⟩;obtain⟨n,j,d,l⟩:=s;obtain⟨b,g,f⟩:=tH (N:=N+1) (by omega) n j i;have e:∀c:Int,Mf (N+1) c=some (decide (0<=c/\c<=1099511627776)):=λc=>by
  rw[abh,cd];by_cases h:0<=c<;>simp[h]
 rw[abi,g,ob];unfold StR;simp only;cases b with
 |false=>exact⟨_,rfl,λh=>(by cases h),λh=>by have:=f.2 h.1;cases this⟩
 |true=>
  rw[aqh,e,ob,cd];by_cases a:0<=d/\d<=1099511627776
  ·rw[apR a,e,ob]
   exact⟨_,rfl,λh=>⟨f.1 rfl,a,aqK h⟩,λh=>aqk h.2.2⟩
  ·rw[apQ a];exact⟨_,rfl,λh=>(by cases h),λh=>absurd h.2.1 a⟩
structure TkR(n:Nat)(ts:List ca)(w:WV)(k:Int)(es:bh)(qs:ju)(M:Nat)(ts':List ca)(ch:Int)(an:aX):Prop where
 wr:WR k es qs
 vt:∀v∈uZ es qs,v<(n:Int)
 len:ts'.length<=400
 res:(k=3/\ts'=ts/\ch=0/\uW (M+1) ((n:Int),ts,qs)=some (0,an))\/∃(t:Nat) (once:bh),t<=7000000/\Ed M (es,w)=some ((t:Int),0,once)/\once.length<=60/\(∀x∈once,lM (n:Int) x)/\an=[]/\
  ((k=2/\(cN ts').Sublist (cN ts)/\(∀x∈cN ts',x∉once.map dm)/\((∀e∈cN ts,e∉once.map dm)->ts'=ts/\ch=0))\/
   k=1/\(∀e∈once.map dm,e.1<e.2->e∈cN ts')/\(∀e∈cN ts,e∈cN ts')/\((∀e∈once.map dm,e.1<e.2->e∈cN ts)->ts'=ts/\ch=0))
def V_{N:Nat}(K:Fu+45<=N){w:WV}(H:Dd.Bp w.1 w.2.1 w.2.2.1 w.2.2.2.1 w.2.2.2.2)(s:SV)(R:s.2.1.length<=100000)(k:Int)(p:bh)(r:ju)(D:p.length<=100000)(hq:r.length<=100000):
 ∃e:Int,(qG (N+1) s (k,p,r) w=some (s,e,0,[])/\e≠0/\(¬StR s->e=1)/\(StR s->¬WR k p r->e=1))\/
  (StR s/\∃(n:Nat) (v:List ca) (J a8:Int) (B:aX),s.1=(n:Int)/\GR n s.2.1/\qG (N+1) s (k,p,r) w=some ((s.1,v,s.2.2.1+1,a8),0,J,B)/\TkR n s.2.1 w k p r N v J B):=by
 obtain⟨g,u,C,st⟩:=s;obtain⟨bi,bl,gr,P,pk⟩:=w;simp only at R H;have hF:=bQ;obtain⟨b,hb,hi⟩:=HT (N:=N+1) (by omega) (g,u,C,st) R;unfold qG;rw[hb,ob];cases b with
 |false=>exact⟨1,.inl ⟨rfl,by decide,λ_=>rfl,λ_ _=>rfl⟩⟩
 |true=>
  have z:=hi.1 rfl;have q:=z;unfold StR at z;simp only at z;obtain⟨⟨h0,d⟩,ab,ag⟩:=z;obtain⟨n,rfl⟩:∃n:Nat,g=(n:Int):=⟨g.toNat,by omega⟩;rw[ap2]at d;rw[aqh];simp only;by_cases i:WR k p r
  ·obtain⟨t,e,k',a,qs',W,hc,A⟩:=ad_ K H d i
   rw[hc,ob];simp only;rcases A with A|⟨rfl,rfl,G,eW⟩
   ·rw[dX A];exact⟨e,.inl ⟨rfl,A,λh=>absurd q h,λ_ h=>absurd i h⟩⟩
   ·rw[eh rfl]
    have a2:a.length+qs'.length<=60:=by
     rcases eW with⟨_,_,rfl,rfl,h⟩|⟨_,_,rfl,h,_⟩
     ·simpa using h
     ·simpa using h
    obtain⟨m,us,F,S,ho⟩:=H.o (a.length+qs'.length) a2;rw[show wrap .i64 (((a.length:Nat):Int)+((qs'.length:Nat):Int))=((a.length+qs'.length:Nat):Int) by rw[gT (by omega) (by omega)];omega,ho (N+1) (by omega),ob,eh rfl,show wrap .i64 (C+1)=C+1 from gT (by omega) (by omega)];simp only;rcases eW with⟨rfl,rfl,rfl,rfl,af⟩|⟨Y,O,rfl,ad,V,ae,⟨rfl,a0,ah,U⟩|⟨rfl,l,a9⟩⟩
    ·rw[dX (by decide),dX (by decide),eh rfl]
     obtain⟨⟨e,B⟩,j,_⟩:=Fg (N:=N+1) (by omega) d qs' (by omega);rw[j,ob,cd];by_cases c:e=0
     ·subst c
      rw[apR rfl];exact⟨0,.inr ⟨q,n,_,_,_,_,rfl,d,rfl,i,G,d.len,.inl ⟨rfl,rfl,rfl,j⟩⟩⟩
     ·rw[apQ c];exact⟨e,.inl ⟨rfl,c,λh=>absurd q h,λ_ h=>absurd i h⟩⟩
    ·rw[dX (by decide),eh rfl]
     obtain⟨e,v,all,j,a5⟩:=drop_eq (N:=N+1) (by omega) d a (by omega);rw[j,ob,cd];rcases a5 with⟨c,_⟩|⟨rfl,I,q2,q3⟩
     ·rw[apQ c];exact⟨e,.inl ⟨rfl,c,λh=>absurd q h,λ_ h=>absurd i h⟩⟩
     ·rw[apR rfl]
      refine⟨0,.inr ⟨q,n,_,_,_,_,rfl,d,rfl,i,G,(by have:=I.length_le;rw[ib,ib]at this;exact aqM this d.len),.inr ⟨t,Y,W,O,V,a0,rfl,.inl ⟨rfl,I,λx f S=>?_,λE=>?_⟩⟩⟩⟩
      ·have X:=I.subset f
       have a7:=(U x).2 ⟨X,S⟩;exact q2 x f (ap4.2 ⟨x,a7,OL (V1 d.tie x X).2.1⟩)
      ·have:a=[]:=by
        rw[arz];intro x f;have:=(U x).1 f;exact E x this.1 this.2
       exact⟨q3 this,by rw[this];rfl⟩
    ·rw[eh rfl]
     have Z:∀x∈a,lM (n:Int) x:=λx f=>by
      have:=l.rng x f;exact⟨⟨by omega,by omega⟩,by omega,by omega⟩
     have a6:a.map dm=a:=by
      have:a.map dm=a.map id:=aqJ λx f=>OL (l.rng x f).2.1;rw[this,arJ]
     rcases add_eq (N:=N+1) (by omega) d a (by omega)with⟨_,a1⟩|⟨o,L,j⟩
     ·exact absurd Z a1
     ·have M:∀x,x∈o↔x∈a:=λx=>by
       rw[L.mem,a6];exact⟨λh=>h.2.1,λh=>⟨(l.rng x h).2.1,h,((l.mem x).1 h).2.2⟩⟩
      have ac:o.length<=a.length:=L.len;rcases j with⟨aa,_⟩|⟨_,v,j,y⟩
      ·omega
      ·rw[j,ob,eh rfl]
       have Q:∀e,e∈cN v↔e∈cN u\/e∈o:=λe=>by
        rw[(YB y.perm).mem_iff,Ox,Ow (vG n u o),ap3]
       refine⟨0,.inr ⟨q,n,_,_,_,_,rfl,d,rfl,i,G,(by show v.length<=400;rw[y.perm.length_eq,aqb,Ov (vG n u o)];omega),.inr ⟨t,Y,W,O,V,l.inn,rfl,.inr ⟨rfl,λe a3 a4=>?_,λe D=>(Q e).2 (.inl D),λE=>?_⟩⟩⟩⟩
       ·rw[Q]
        by_cases c:e∈cN u
        ·exact .inl c
        ·exact .inr ((M e).2 ((l.mem e).2 ⟨a4,a3,c⟩))
       ·have:o=[]:=by
         rw[arz];intro x f;have:=(l.mem x).1 ((M x).1 f);exact this.2.2 (E x this.2.1 this.1)
        subst this;have F:=y.perm;rw[show BI [] (vF n u [])=[]from rfl,aqy]at F;exact⟨adK y.VP d.VP F,rfl⟩
  ·rw[YP K d D hq i,ob]
   simp only;rw[dX (by decide)];exact⟨1,.inl ⟨rfl,by decide,λ_=>rfl,λ_ _=>rfl⟩⟩
end
variable{u:Bool}{a t:Type}{s:Value}{F j:World}
section
inductive Tr(α:Type)where
 |lf
 |nd (l:Tr α) (x:Option α) (r:Tr α)
def bB(b:Bool)(x y:a):a:=Bool.rec (motive:=λ_=>a) y x b
def oB(o:Option a)(k:a->Option t):Option t:=Option.rec (motive:=λ_=>Option t) none k o
def kN(n:Nat)(k:Nat->a):a:=Nat.rec (motive:=λ_=>a) (k 0) (λm _=>k (Nat.succ m)) n
def kI(x:Int)(k:Int->a):a:=Int.rec (motive:=λ_=>a) (λn=>kN n λm=>k (Int.ofNat m)) (λn=>kN n λm=>k (Int.negSucc m)) x
def fC(n:Nat)(k:Nat->a):kN n k=k n:=by cases n<;>rfl
def yS(x:Int)(k:Int->a):kI x k=k x:=by
 cases x with
 |ofNat n=>exact fC n λm=>k (Int.ofNat m)
 |negSucc n=>exact fC n λm=>k (Int.negSucc m)
def bA{o:Option a}{k:a->Option t}{r:t}(h:oB o k=some r):∃x,o=some x/\k x=some r:=by
 cases o with
 |none=>cases h
 |some x=>exact⟨x,rfl,h⟩
def dC{x y:Option a}{r:a}(h:bB u x y=some r):(u=true/\x=some r)\/(u=false/\y=some r):=by
 cases u with
 |true=>exact .inl ⟨rfl,h⟩
 |false=>exact .inr ⟨rfl,h⟩
def bg{x:Option a}{r:a}(h:bB u x none=some r):u=true/\x=some r:=by
 cases u with
 |true=>exact⟨rfl,h⟩
 |false=>cases h
def Tr.get:Tr a->Nat->Option a:=Tr.rec (motive:=λ_=>Nat->Option a) (λ_=>none)
 (λ_ x _ b c i=>bB (Nat.beq i 0) x (bB (Nat.beq (Nat.mod i 2) 1) (b (Nat.div i 2)) (c (Nat.sub (Nat.div i 2) 1))))
def Tr.put(c:a):Tr a->Nat->(Tr a->Option t)->Option t:=Tr.rec (motive:=λ_=>Nat->(Tr a->Option t)->Option t) (λ_ _=>none)
 (λl x r d e i k=>bB (Nat.beq i 0) (oB x λ_=>k (.nd l (some c) r)) (bB (Nat.beq (Nat.mod i 2) 1) (d (Nat.div i 2) λb=>k (.nd b x r)) (e (Nat.sub (Nat.div i 2) 1) λf=>k (.nd l x f))))
def Tr.new(c:Option a):Nat->Tr a->Nat->(Tr a->Option t)->Option t:=Nat.rec (motive:=λ_=>Tr a->Nat->(Tr a->Option t)->Option t) (λ_ _ _=>none)
 (λ_ d b=>Tr.rec (motive:=λ_=>Nat->(Tr a->Option t)->Option t)
  (λi k=>bB (Nat.beq i 0) (k (.nd .lf c .lf)) (bB (Nat.beq (Nat.mod i 2) 1) (d .lf (Nat.div i 2) λl=>k (.nd l none .lf)) (d .lf (Nat.sub (Nat.div i 2) 1) λr=>k (.nd .lf none r))))
  (λl x r _ _ i k=>bB (Nat.beq i 0) (k (.nd l c r)) (bB (Nat.beq (Nat.mod i 2) 1) (d l (Nat.div i 2) λe=>k (.nd e x r)) (d r (Nat.sub (Nat.div i 2) 1) λf=>k (.nd l x f)))) b)
def Tr.fill(c:a):Nat->Nat->Tr a:=Nat.rec (motive:=λ_=>Nat->Tr a) (λ_=>.lf)
 (λ_ b n=>bB (Nat.beq n 0) .lf (.nd (b (Nat.div n 2)) (some c) (b (Nat.div (Nat.sub n 1) 2))))
def Tr.iJ(l:Tr a)(x:Option a)(r:Tr a)(i:Nat):(Tr.nd l x r).get i=if i=0 then x else if i % 2=1 then l.get (i/2)else r.get (i/2 - 1):=by
 show bB (Nat.beq i 0) x (bB (Nat.beq (i % 2) 1) (l.get (i/2)) (r.get (i/2 - 1)))=_;by_cases c:i=0
 ·subst c;rfl
 ·have e0:Nat.beq i 0=false:=by cases h:Nat.beq i 0;·rfl
                                ·exact absurd (apX h) c
  rw[e0,apQ c];by_cases b:i % 2=1
  ·rw[apR b,b];rfl
  ·have d:Nat.beq (i % 2) 1=false:=by cases h:Nat.beq (i % 2) 1;·rfl
                                      ·exact absurd (apX h) b
   rw[d,apQ b];rfl
def Tr.Rg(i:Nat):(Tr.lf:Tr a).get i=none:=rfl
def oL(c:Option a)(i:Nat)(t b:Tr a):Prop:=∀j,b.get j=if j=i then c else t.get j
def oL.left{c:Option a}{l g r:Tr a}{x:Option a}(i:d % 2=1)(h:oL c (d/2) l g):oL c d (.nd l x r) (.nd g x r):=λj=>by
 rw[Tr.iJ,Tr.iJ];by_cases e:j=0
 ·subst e;rw[apR rfl,apR rfl,apQ (by omega)]
 ·rw[apQ e,apQ e]
  by_cases b:j % 2=1
  ·rw[apR b,apR b,h]
   by_cases f:j=d
   ·rw[apR (by rw[f]),apR f]
   ·rw[apQ (by omega),apQ f]
  ·rw[apQ b,apQ b,apQ (by omega)]
def oL.right{c:Option a}{l r g:Tr a}{x:Option a}(i:¬d=0)(k:¬d % 2=1)(h:oL c (d/2 - 1) r g):oL c d (.nd l x r) (.nd l x g):=λj=>by
 rw[Tr.iJ,Tr.iJ];by_cases e:j=0
 ·subst e;rw[apR rfl,apR rfl,apQ (by omega)]
 ·rw[apQ e,apQ e]
  by_cases b:j % 2=1
  ·rw[apR b,apR b,apQ (by omega)]
  ·rw[apQ b,apQ b,h]
   by_cases f:j=d
   ·rw[apR (by rw[f]),apR f]
   ·rw[apQ (by omega),apQ f]
def oL.here{c:Option a}{l r:Tr a}{x:Option a}:oL c 0 (.nd l x r) (.nd l c r):=λj=>by
 rw[Tr.iJ,Tr.iJ];by_cases h:j=0<;>simp[h]
def ei(h:Nat.beq d e=true):d=e:=apX h
def iV(h:Nat.beq d e=false):¬d=e:=λa=>by rw[a,aqp]at h;cases h
def Tr.mv{α R:Type}{c:α}{r:R}:∀{t:Tr α} {i:Nat} {k:Tr α->Option R},Tr.put c t i k=some r->∃d,k d=some r/\(∃x,t.get i=some x)/\oL (some c) i t d
 |.lf,i,k,h=>by cases h
 |.nd l x j,i,k,h=>by
  change bB _ _ _=_ at h;rcases dC h with⟨b,h⟩|⟨b,h⟩
  ·obtain rfl:=ei b
   obtain⟨y,rfl,h⟩:=bA h;exact⟨_,h,⟨y,by rw[Tr.iJ,apR rfl]⟩,oL.here⟩
  ·have b:=iV b
   rcases dC h with⟨a,h⟩|⟨a,h⟩
   ·have a:i % 2=1:=ei a
    obtain⟨d,e,g,f⟩:=Tr.mv (t:=l) h;exact⟨_,e,by rw[Tr.iJ,apQ b,apR a];exact g,oL.left a f⟩
   ·have a:¬i % 2=1:=iV a
    obtain⟨d,e,g,f⟩:=Tr.mv (t:=j) h;exact⟨_,e,by rw[Tr.iJ,apQ b,apQ a];exact g,oL.right b a f⟩
def Tr.nM{α R:Type}{c:Option α}{r:R}:∀{N:Nat} {t:Tr α} {i:Nat} {k:Tr α->Option R},Tr.new c N t i k=some r->∃t',k t'=some r/\oL c i t t'
 |0,t,i,k,h=>by cases h
 |N+1,t,i,k,h=>by
  have m:∀l x d,(∀j,t.get j=(Tr.nd l x d).get j)->bB (Nat.beq i 0) (k (.nd l c d)) (bB (Nat.beq (Nat.mod i 2) 1) (Tr.new c N l (Nat.div i 2) λo=>k (.nd o x d)) (Tr.new c N d (Nat.sub (Nat.div i 2) 1) λp=>k (.nd l x p)))=some r->
   ∃t',k t'=some r/\oL c i t t':=by
   intro l x d n h;have g:∀{t'},oL c i (.nd l x d) t'->oL c i t t':=λe j=>by rw[e j,n j]
   rcases dC h with⟨b,h⟩|⟨b,h⟩
   ·obtain rfl:=ei b
    exact⟨_,h,g oL.here⟩
   ·have b:=iV b
    rcases dC h with⟨a,h⟩|⟨a,h⟩
    ·have a:i % 2=1:=ei a
     obtain⟨t',f,e⟩:=Tr.nM h;exact⟨_,f,g (oL.left a e)⟩
    ·have a:¬i % 2=1:=iV a
     obtain⟨t',f,e⟩:=Tr.nM h;exact⟨_,f,g (oL.right b a e)⟩
  cases t with
  |lf=>exact m .lf none .lf (λj=>by
   rw[Tr.iJ];by_cases b:j=0
   ·simp[b,Tr.Rg]
   ·by_cases a:j % 2=1<;>simp[b,a,Tr.Rg]) h
  |nd l x d=>exact m l x d (λ_=>rfl) h
def Tr.jw{α:Type}{c:α}:∀{N n i:Nat} {x:α},(Tr.fill c N n).get i=some x->x=c/\i<n
 |0,n,i,x,h=>by cases h
 |N+1,n,i,x,h=>by
  change(bB (Nat.beq n 0) Tr.lf (Tr.nd (Tr.fill c N (n/2)) (some c) (Tr.fill c N ((n - 1)/2)))).get i=_ at h;cases a:Nat.beq n 0 with
  |true=>rw[a]at h;cases h
  |false=>
   rw[a]at h;have b:=iV a;change(Tr.nd _ _ _).get i=_ at h;rw[Tr.iJ]at h;split at h
   ·cases h;exact⟨rfl,by omega⟩
   ·split at h
    ·have:=Tr.jw h;exact⟨this.1,by omega⟩
    ·have:=Tr.jw h;exact⟨this.1,by omega⟩
inductive CV where
 |v (x:Value)
 |pt (k o:Nat)
 |sl (k o n:Nat) (c:bU)
 |mp (k:Nat)
 |gl (g o:Nat)
 |ag (cs:List CV)
 |tu (cs:List CV)
 |cl (fn:Fn) (fs cs:List CV)
instance:Inhabited CV:=⟨.v undef⟩
def CV.one:CV->Bool
 |.v x=>x.oneCell'
 |.pt .. |.sl .. |.mp _|.cl .. |.gl .. =>true
 |.ag _|.tu _=>false
abbrev Nm:=Nat->Kl
inductive KR(ρ:Nm):CV->Value->Prop
 |v {x}:KR ρ (.v x) x
 |pt {k o b m} (h:ρ k=some (b,m)):KR ρ (.pt k o) (.pointer (some ⟨b,o,none⟩))
 |sl {k o n c b m cap f} (h:ρ k=some (b,m)) (ho:0<n\/o=0->f=o) (h1:n<=cap) (h3:∀x,c=some x->cap=x) (h4:c=none->o=0->cap=m):KR ρ (.sl k o n c) (.slice (some ⟨b,f,none⟩) n cap)
 |mp {k b m} (h:ρ k=some (b,m)):KR ρ (.mp k) (.map (some b))
 |gl {g o}:KR ρ (.gl g o) (.pointer (some ⟨g,o,none⟩))
 |ag {cs} (us:bD) (hl:us.length=cs.length) (hc:∀(j:Nat) c u,cs[j]? =some c->us[j]? =some u->KR ρ c u):KR ρ (.ag cs) (.agg us.toArray)
 |tu {cs} (us:bD) (hl:us.length=cs.length) (hc:∀(j:Nat) c u,cs[j]? =some c->us[j]? =some u->KR ρ c u):KR ρ (.tu cs) (.tuple us.toArray)
 |cl {fn fs cs} (us xs:bD) (hl:us.length=fs.length) (hl2:xs.length=cs.length) (hc:∀(j:Nat) c u,fs[j]? =some c->us[j]? =some u->KR ρ c u)
  (hc2:∀(j:Nat) c u,cs[j]? =some c->xs[j]? =some u->KR ρ c u):KR ρ (.cl fn fs cs) (.func fn us.toArray xs.toArray)
def Ab(ρ a:Nm):Prop:=∀k p,ρ k=some p->a k=some p
def Ab.refl(ρ:Nm):Ab ρ ρ:=λ_ _ h=>h
def KR.mono{ρ g:Nm}(e:Ab ρ g){c:CV}(h:KR ρ c s):KR g c s:=by
 induction h with
 |v=>exact .v
 |pt h=>exact .pt (e _ _ h)
 |sl h m i j k=>exact .sl (e _ _ h) m i j k
 |mp h=>exact .mp (e _ _ h)
 |gl=>exact .gl
 |ag d a f b=>exact .ag d a b
 |tu d a f b=>exact .tu d a b
 |cl d o a l f p b n=>exact .cl d o a l b n
def KR.jv{ρ:Nm}{c:CV}(h:KR ρ c s)(a:c.one=true):s.oneCell'=true:=by
 cases h with
 |v=>simpa[CV.one]using a
 |ag=>simp[CV.one]at a
 |tu=>simp[CV.one]at a
 |_=>rfl
def KR.bN{ρ:Nm}{x u:Value}(h:KR ρ (.v x) u):u=x:=by cases h;rfl
def KR.vL{ρ:Nm}(h:KR ρ (.pt d e) s):∃b m,ρ d=some (b,m)/\s=.pointer (some ⟨b,e,none⟩):=by
 cases h with
 |pt h=>exact⟨_,_,h,rfl⟩
def KR.e9{ρ:Nm}{cs:List CV}(h:KR ρ (.ag cs) s):∃a,s=.agg a.toArray/\LR (KR ρ) cs a:=by
 cases h with
 |ag a c b=>exact⟨a,rfl,c,b⟩
def KR.CJ{ρ:Nm}{cs:List CV}(h:KR ρ (.tu cs) s):∃a,s=.tuple a.toArray/\LR (KR ρ) cs a:=by
 cases h with
 |tu a c b=>exact⟨a,rfl,c,b⟩
inductive cX where
 |ce (cs:Tr CV) (n:Nat) (ext:bU) (wr:Bool)
 |ma (t:TypeId) (es:List (Value×CV)) (wr:Bool)
def cX.wr:cX->Bool
 |.ce _ _ _ b=>b
 |.ma _ _ b=>b
abbrev KH:=Nat->Option cX
variable{P:Program}{w0:World}
def BR(P:Program)(ρ:Nm)(w:World)(b m:Nat):cX->Prop
 |.ce h n ext _=>∃t a,w.heap[b]? =some (.cells a t (0,0))/\n<=a.size/\(∀j c,h.get j=some c->j<n/\∃u,a[j]? =some u/\KR ρ c u/\c.one=true)/\∀g,ext=some g->a.size=m*g
 |.ma t i _=>∃d z e f,mapA P t=some (d,z)/\w.heap[b]? =some (.map e f)/\Fz (KR ρ) d i e f
def BR.lt{ρ:Nm}{x:cX}(h:BR P ρ j d e x):d<j.heap.size:=by
 cases x with
 |ce f n ext wr=>obtain⟨t,i,h,_⟩:=h;exact(aqx.1 h).1
 |ma t g wr=>obtain⟨a,z,b,c,_,h,_⟩:=h;exact(aqx.1 h).1
def BR.mono{ρ q:Nm}{w p:World}{b m:Nat}{x:cX}(h:BR P ρ w b m x)(i:Ab ρ q)(o:p.heap[b]? =w.heap[b]?):BR P q p b m x:=by
 cases x with
 |ce B n ext wr=>
  obtain⟨t,A,e,f,g,v⟩:=h;exact⟨t,A,by rw[o];exact e,f,λj c y=>let⟨l,u,a,b,c⟩:=g j c y;⟨l,u,a,b.mono i,c⟩,v⟩
 |ma t C wr=>
  obtain⟨d,z,r,s,e,f,g⟩:=h;exact⟨d,z,r,s,e,by rw[o];exact f,g.imp λ_ _ k=>k.mono i⟩
structure HR(P:Program)(w0:World)(ρ:Nm)(h:KH)(n:Nat)(w:World):Prop where
 ext:Ext w0 w
 ob:∀k x b m,h k=some x->ρ k=some (b,m)->BR P ρ w b m x
 lo:∀k x b m,h k=some x->ρ k=some (b,m)->w0.heap.size<=b
 inj:∀k k' x x' b m m',h k=some x->h k'=some x'->ρ k=some (b,m)->ρ k'=some (b,m')->x.wr=true->k=k'
 top:∀k,n<=k->ρ k=none
 CE:∀k,n<=k->h k=none
def HR.lt{ρ:Nm}{h:KH}(c:HR P w0 ρ h d j){p:Nat×Nat}(a:ρ e=some p):e<d:=by
 by_cases b:e<d
 ·exact b
 ·rw[c.top e (by omega)]at a;cases a
def HR.lth{ρ:Nm}{h:KH}(c:HR P w0 ρ h d j){x:cX}(a:h e=some x):e<d:=by
 by_cases b:e<d
 ·exact b
 ·rw[c.CE e (by omega)]at a;cases a
def aea(ρ:Nm)(h:KH)(b:Nat):Prop:=∀k x m,h k=some x->x.wr=true->ρ k≠some (b,m)
structure KP(P:Program)(w0:World)(ρ:Nm)(h:KH)(n:Nat)(w:World)(ρ':Nm)(h':KH)(n':Nat)(w':World):Prop where
 hr:HR P w0 ρ' h' n' w'
 nn:n<=n'
 ro:∀k,k<n->ρ' k=ρ k
 sz:w.heap.size<=w'.heap.size
 fr:∀b,b<w.heap.size->aea ρ h b->w'.heap[b]? =w.heap[b]? /\∀k x m,n<=k->h' k=some x->ρ' k≠some (b,m)
 ol:∀k x',k<n->h' k=some x'->∃x,h k=some x/\x.wr=x'.wr
 fz:∀k x,k<n->h k=some x->x.wr=false->h' k=some x
def KP.le{ρ b:Nm}{h c:KH}(f:KP P w0 ρ h d j b c e F)(g:HR P w0 ρ h d j):Ab ρ b:=λk p a=>by rw[f.ro k (g.lt a)];exact a
def KP.refl{ρ:Nm}{h:KH}(c:HR P w0 ρ h d j):KP P w0 ρ h d j ρ h d j:=
 ⟨c,apT _,λ_ _=>rfl,apT _,λb g i=>⟨rfl,λk x m e a=>by rw[c.CE k e]at a;cases a⟩,λk f _ a=>⟨f,a,rfl⟩,λk x _ a _=>a⟩
def KP.trans{ρ p z:Nm}{h i q:KH}{n o u:Nat}{w v y:World}(a:KP P w0 ρ h n w p i o v)(b:KP P w0 p i o v z q u y):KP P w0 ρ h n w z q u y:=by
 have J:=a.nn;refine⟨b.hr,aqM a.nn b.nn,λk d=>(b.ro k (by omega)).trans (a.ro k d),aqM a.sz b.sz,λc E s=>?_,λk H d e=>?_,λk x d e g=>?_⟩
 ·obtain⟨j,r⟩:=a.fr c E s
  have F:aea p i c:=λk x m e g=>by
   by_cases d:k<n
   ·obtain⟨f,l,G⟩:=a.ol k x d e
    rw[a.ro k d];exact s k f m l (G.trans g)
   ·exact r k x m (by omega) e
  obtain⟨C,D⟩:=b.fr c (by have:=a.sz;omega) F;refine⟨C.trans j,λk x m d e=>?_⟩;by_cases t:k<o
  ·obtain⟨f,l,_⟩:=b.ol k x t e
   rw[b.ro k t];exact r k f m d l
  ·exact D k x m (by omega) e
 ·obtain⟨I,j,A⟩:=b.ol k H (by omega) e
  obtain⟨f,B,e0⟩:=a.ol k I d j;exact⟨f,B,e0.trans A⟩
 ·exact b.fz k x (by omega) (a.fz k x d e g) g
def HR.new{ρ:Nm}{h u:KH}(g:HR P w0 ρ h d j)(x:cX)(m:Nat)(i:∀k,u k=if k=d then some x else h k)(t:Ext j F)(E:j.heap.size<F.heap.size)
 (s:BR P (λk=>if k=d then some (j.heap.size,m)else ρ k) F j.heap.size m x):
 KP P w0 ρ h d j (λk=>if k=d then some (j.heap.size,m)else ρ k) u (d+1) F:=by
 have B:Ab ρ (λk=>if k=d then some (j.heap.size,m)else ρ k):=λk p a=>by
  have:=g.lt a;simp only;rw[apQ (by omega)];exact a
 have bS:∀b,b<j.heap.size->F.heap[b]? =j.heap[b]? :=λb s=>t.bS b s;refine⟨⟨g.ext.trans t,λk y b r c a=>?_,λk y b r c a=>?_,λk q y z b v w c o a l C=>?_,λk a=>?_,λk a=>?_⟩,Nat.le_succ _,λk a=>?_,t.size,λb A D=>⟨bS b A,λk y r a c=>?_⟩,λk y a c=>?_,λk y a c _=>?_⟩
 ·skip
  rw[i]at c;by_cases f:k=d
  ·rw[apR f]at c a;cases c;cases a;exact s
  ·rw[apQ f]at c a
   have:=g.ob k y b r c a;exact this.mono B (bS b this.lt)
 ·skip
  rw[i]at c;by_cases f:k=d
  ·rw[apR f]at c a;cases a;exact g.ext.size
  ·rw[apQ f]at c a
   exact g.lo k y b r c a
 ·skip
  rw[i]at c o;by_cases f:k=d
  ·by_cases n:q=d
   ·rw[f,n]
   ·rw[apR f]at a;rw[apQ n]at l o
    cases a;have:=(g.ob q z _ w o l).lt;omega
  ·rw[apQ f]at a c
   by_cases n:q=d
   ·rw[apR n]at l
    cases l;have:=(g.ob k y _ v c a).lt;omega
   ·rw[apQ n]at l o
    exact g.inj k q y z b v w c o a l C
 ·rw[apQ (by omega)];exact g.top k (by omega)
 ·rw[i,apQ (by omega)];exact g.CE k (by omega)
 ·rw[apQ (by omega)]
 ·rw[i]at c
  by_cases f:k=d
  ·rw[apR f];intro e;cases e;omega
  ·rw[apQ f]at c;rw[g.CE k a]at c;cases c
 ·rw[i,apQ (by omega)]at c;exact⟨y,c,rfl⟩
 ·rw[i,apQ (by omega)];exact c
def HR.set{ρ:Nm}{h s:KH}{w p:World}(g:HR P w0 ρ h d w){i b0 r:Nat}{m:cX}(x:cX)(l:h i=some m)(t:ρ i=some (b0,r))(o:m.wr=true)(v:x.wr=true)
 (j:∀k,s k=if k=i then some x else h k) (I:Ext w0 p) (H:p.heap.size=w.heap.size) (u:∀b,b≠b0->p.heap[b]? =w.heap[b]?) (E:BR P ρ p b0 r x):
 KP P w0 ρ h d w ρ s d p:=by
 have U:=g.lth l;refine⟨⟨I,λk y b n a c=>?_,λk y b n a c=>?_,λk A y O b M N a J c G q=>?_,g.top,λk c=>?_⟩,apT _,λk c=>rfl,Nat.le_of_eq H.symm,λb S F=>⟨u b ?_,λk y n c a=>?_⟩,λk y c a=>?_,λk y c a q=>?_⟩
 ·rw[j]at a
  by_cases f:k=i
  ·subst f
   rw[apR rfl]at a;rw[t]at c;cases a;cases c;exact E
  ·rw[apQ f]at a
   exact(g.ob k y b n a c).mono (Ab.refl ρ) (u b λe=>f (by subst e;exact(g.inj i k m y b r n l a t c o).symm))
 ·rw[j]at a
  by_cases f:k=i
  ·subst f;exact g.lo k m b n l c
  ·rw[apQ f]at a;exact g.lo k y b n a c
 ·have B:∀k y,s k=some y->∃C,h k=some C/\C.wr=y.wr:=λk y a=>by
   rw[j]at a;by_cases f:k=i
   ·subst f;rw[apR rfl]at a;cases a;exact⟨m,l,o.trans v.symm⟩
   ·rw[apQ f]at a;exact⟨y,a,rfl⟩
  obtain⟨z,K,D⟩:=B k y a;obtain⟨Q,L,R⟩:=B A O J;exact g.inj k A z Q b M N K L c G (D.trans q)
 ·rw[j,apQ (by omega)];exact g.CE k c
 ·intro e;subst e;exact F i m r l o t
 ·rw[j,apQ (by omega)]at a;rw[g.CE k c]at a;cases a
 ·rw[j]at a
  by_cases f:k=i
  ·subst f;rw[apR rfl]at a;cases a;exact⟨m,l,o.trans v.symm⟩
  ·rw[apQ f]at a;exact⟨y,a,rfl⟩
 ·rw[j,apQ]
  ·exact a
  ·intro e;subst e;rw[l]at a;cases a;rw[o]at q;cases q
def HR.kill{ρ:Nm}{h h':KH}(f:HR P w0 ρ h d j){p:cX}(r:h e=some p)(s:p.wr=true)(l:∀k,h' k=if k=e then none else h k):KP P w0 ρ h d j ρ h' d j:=by
 have g:∀k y,h' k=some y->h k=some y:=λk y c=>by
  rw[l]at c;split at c
  ·cases c
  ·exact c
 refine⟨⟨f.ext,λk y b m c=>f.ob k y b m (g k y c),λk y b m c=>f.lo k y b m (g k y c),λk o y q b u v c t=>f.inj k o y q b u v (g k y c) (g o q t),f.top,λk i=>?_⟩,apT _,λ_ _=>rfl,apT _,
  λb w x=>⟨rfl,λk y m i c=>?_⟩,λk y i c=>⟨y,g k y c,rfl⟩,λk y i c n=>?_⟩
 ·rw[l];split
  ·rfl
  ·exact f.CE k i
 ·have:=g k y c;rw[f.CE k i]at this;cases this
 ·rw[l,apQ]
  ·exact c
  ·intro a;subst a;rw[r]at c;cases c;rw[s]at n;cases n
def HR.move{ρ:Nm}{h D:KH}(g:HR P w0 ρ h d j){l b0 i:Nat}{n:cX}(x:cX)(m:h l=some n)(t:ρ l=some (b0,i))(w:n.wr=true)(Q:x.wr=true)
 (A:∀k,D k=if k=d then some x else if k=l then none else h k) (M:Ext w0 F) (L:F.heap.size=j.heap.size) (G:∀b,b≠b0->F.heap[b]? =j.heap[b]?)
 (J:BR P (λk=>if k=d then some (b0,i)else ρ k) F b0 i x):
 KP P w0 ρ h d j (λk=>if k=d then some (b0,i)else ρ k) D (d+1) F:=by
 have O:=g.lth m;have K:Ab ρ (λk=>if k=d then some (b0,i)else ρ k):=λk p a=>by
  have:=g.lt a;simp only;rw[apQ (by omega)];exact a
 have r:∀k y,¬k=d->D k=some y->h k=some y/\¬k=l:=λk y f c=>by
  rw[A,apQ f]at c;split at c
  ·cases c
  ·rename_i o;exact⟨c,o⟩
 refine⟨⟨M,λk y b z c a=>?_,λk y b z c a=>?_,λk u y C b H I c B a s v=>?_,λk a=>?_,λk a=>?_⟩,Nat.le_succ _,λk a=>?_,Nat.le_of_eq L.symm,λb N E=>⟨G b ?_,λk y z a c=>?_⟩,λk y a c=>?_,λk y a c v=>?_⟩
 ·skip
  by_cases f:k=d
  ·rw[apR f]at a;rw[A,apR f]at c;cases c;cases a;exact J
  ·rw[apQ f]at a
   obtain⟨c,o⟩:=r k y f c;exact(g.ob k y b z c a).mono K (G b λe=>o (by subst e;exact(g.inj l k n y b i z m c t a w).symm))
 ·skip
  by_cases f:k=d
  ·rw[apR f]at a;cases a;exact g.lo l n b0 i m t
  ·rw[apQ f]at a
   exact g.lo k y b z (r k y f c).1 a
 ·skip
  by_cases f:k=d
  ·by_cases q:u=d
   ·rw[f,q]
   ·rw[apR f]at a;rw[apQ q]at s
    cases a;obtain⟨B,o⟩:=r u C q B;exact absurd (g.inj l u n C b0 i I m B t s w).symm o
  ·rw[apQ f]at a
   obtain⟨c,o⟩:=r k y f c;by_cases q:u=d
   ·rw[apR q]at s
    cases s;exact absurd (g.inj k l y n b0 H i c m a t v) o
   ·rw[apQ q]at s
    exact g.inj k u y C b H I c (r u C q B).1 a s v
 ·rw[apQ (by omega)];exact g.top k (by omega)
 ·rw[A,apQ (by omega),apQ (by omega)];exact g.CE k (by omega)
 ·rw[apQ (by omega)]
 ·intro e;subst e;exact E l n i m w t
 ·by_cases f:k=d
  ·rw[apR f];intro e;cases e;exact E l n i m w t
  ·have:=(r k y f c).1;rw[g.CE k a]at this;cases this
 ·have:=r k y (by omega) c;exact⟨y,this.1,rfl⟩
 ·rw[A,apQ (by omega),apQ]
  ·exact c
  ·intro e;subst e;rw[m]at c;cases c;rw[w]at v;cases v
end
variable{B:List CV}{v:Tr CV}
section
section
variable{P:Program}{Dk:Deferred->Prop}{w0:World}{T:TypeId->bs}
def mJ(ρ:Nm)(t:Tr CV)(a:Act):Prop:=∀i c,t.get i=some c->∃u,a.tmps[i]? =some u/\KR ρ c u
def mJ.mono{ρ b:Nm}{t:Tr CV}{a:Act}(h:mJ ρ t a)(g:Ab ρ b):mJ b t a:=λi c j=>let⟨u,e,f⟩:=h i c j;⟨u,e,f.mono g⟩
def YT:Value->CV
 |.agg a=>.ag (a.toList.map .v)
 |x=>.v x
def LR.vs{ρ:Nm}(b:bD):LR (KR ρ) (b.map .v) b:=⟨by simp,λj c u a e=>by
 rw[aqd,e]at a;cases a;exact .v⟩
def Fh{ρ:Nm}(x:Value):KR ρ (YT x) x:=by
 unfold YT;split
 ·rename_i a
  have h:=LR.vs (ρ:=ρ) a.toList;have:=KR.ag (ρ:=ρ) a.toList h.1 h.2;simpa using this
 ·exact .v
def dW(t:Tr CV){R:Type}(x:Operand)(k:CV->Option R):Option R:=
 Operand.rec (motive:=λ_=>(CV->Option R)->Option R) (λi k=>oB (t.get i) k) (λv k=>k (YT v)) (λg k=>k (.gl g 0)) (λf k=>k (.v (.func (.func f) #[] #[]))) x k
def jT(t:Tr CV)(x:Operand)(c:CV):Prop:=∀ρ a,mJ ρ t a->KR ρ c (a.eval x)
def cg{t:Tr CV}{R:Type}{x:Operand}{k:CV->Option R}{r:R}(h:dW t x k=some r):∃c,jT t x c/\k c=some r:=by
 cases x with
 |tmp i=>
  obtain⟨c,l,h⟩:=bA h;refine⟨c,λρ a b=>?_,h⟩;obtain⟨u,e,j⟩:=b i c l;have:a.eval (.tmp i)=u:=by simp[Act.eval,aq8,e]
  rw[this];exact j
 |const v=>exact⟨_,λρ a b=>Fh v,h⟩
 |global g=>exact⟨_,λρ a b=>.gl,h⟩
 |func f=>exact⟨_,λρ a b=>.v,h⟩
def pX(t:Tr CV){R:Type}(e:mL):(List CV->Option R)->Option R:=
 List.rec (motive:=λ_=>(List CV->Option R)->Option R) (λk=>k []) (λx _ b k=>dW t x λc=>b λa=>k (c::a)) e
def CF{t:Tr CV}{R:Type}{r:R}:∀{xs:mL} {k:List CV->Option R},pX t xs k=some r->∃b,(∀ρ a,mJ ρ t a->LR (KR ρ) b (xs.map a.eval))/\k b=some r
 |[],k,h=>⟨[],λ_ _ _=>LR.nil,h⟩
 |x::xs,k,h=>by
  obtain⟨c,f,h⟩:=cg h;obtain⟨b,g,h⟩:=CF (xs:=xs) h;exact⟨c::b,λρ a e=>LR.cons (f ρ a e) (g ρ a e),h⟩
def Fi(P:Program)(w0:World)(d:Deferred):Prop:=∃c b f a,d.target=.fn c b/\∀w,Ext w0 w->(invoke d.target d.args).run P w=.ok (.enter f a) w/\CallsD P f a .returning w λe u g=>(∃v,e=.returned v)/\u=.returning/\Ext w g
def Yld(P:Program)(Dk:Deferred->Prop)(o:Oper)(a:Act)(w:World)(R:Value->World->Prop):Prop:=
 ∀next Q,(∀v b D,R v b->(∀d∈D,Dk d)->next (({a with defers:=D++a.defers}:Act).put o.dst v) b)->o.wp P a w next Q
def Yld.value{o:Oper}{a:Act}{w w':World}{v:Value}{R:Value->World->Prop}(c:(execOp a.eval o).run P w=.ok (.value v) w')(h:R v w'):Yld P Dk o a w R:=λnext Q b=>eo c (b _ _ [] h (by simp))
def Yld.skip{o:Oper}{a:Act}{w w':World}{R:Value->World->Prop}(c:(execOp a.eval o).run P w=.ok .skip w')(h:R undef w'):Yld P Dk o a w R:=λnext Q b=>sP c (b _ _ [] h (by simp))
def FK(P:Program)(Dk:Deferred->Prop)(w0:World)(o:Oper)(t:Tr CV)(h:Tr cX)(n:Nat)(c:CV)(e:Tr cX)(f:Nat):Prop:=
 ∀ρ a w,mJ ρ t a->HR P w0 ρ h.get n w->Yld P Dk o a w λv g=>∃b,KP P w0 ρ h.get n w b e.get f g/\KR b c v
def QK(P:Program)(o:Oper)(t:Tr CV)(c:CV):Prop:=∀ρ a w,mJ ρ t a->∃v,(execOp a.eval o).run P w=.ok (.value v) w/\KR ρ c v
def PK(P:Program)(w0:World)(o:Oper)(t:Tr CV)(h:Tr cX)(c:CV):Prop:=∀ρ a w N,mJ ρ t a->HR P w0 ρ h.get N w->∃v,(execOp a.eval o).run P w=.ok (.value v) w/\KR ρ c v
def tW(H:KH)(N:Nat):Option cX->KH
 |none=>H
 |some b=>λk=>if k=N then some b else H k
def yT(N:Nat):Option cX->Nat
 |none=>N
 |some _=>N+1
def ZK(P:Program)(Dk:Deferred->Prop)(w0:World)(o:Oper)(t:Tr CV)(e:Nat->CV)(b:Option cX):Prop:=∀ρ a w (H:KH) N,mJ ρ t a->HR P w0 ρ H N w->Yld P Dk o a w λv f=>∃c,KP P w0 ρ H N w c (tW H N b) (yT N b) f/\KR c (e N) v
def QK.z{o:Oper}{t:Tr CV}{c:CV}(f:QK P o t c):ZK P Dk w0 o t (λ_=>c) none:=λρ a w H N i g=>by
 obtain⟨v,b,e⟩:=f ρ a w i;exact .value b ⟨ρ,.refl g,e⟩
def PK.fk{o:Oper}{t:Tr CV}{h:Tr cX}{n:Nat}{c:CV}(g:PK P w0 o t h c):FK P Dk w0 o t h n c h n:=λρ a w i b=>by
 obtain⟨v,e,f⟩:=g ρ a w n i b;exact .value e ⟨ρ,.refl b,f⟩
def FK.pure{o:Oper}{t:Tr CV}{h:Tr cX}{n:Nat}{c:CV}(g:∀ρ a w,mJ ρ t a->HR P w0 ρ h.get n w->∃v,(execOp a.eval o).run P w=.ok (.value v) w/\KR ρ c v):FK P Dk w0 o t h n c h n:=λρ a w i b=>by
 obtain⟨v,e,f⟩:=g ρ a w i b;exact .value e ⟨ρ,.refl b,f⟩
section
variable{t:Tr CV}{h:Tr cX}{n:Nat}{d:iN}{ty t1 t2:TypeId}{pos:String}{af:dI}{gd:fE}{x y z:Operand}{R:Type}{r:R}
def asI(c:CV){R:Type}(k:IntKind->Int->Option R):Option R:=match c with
 |.v (.int a m)=>k a m
 |_=>none
def JU{c:CV}{k:IntKind->Int->Option R}(h:asI c k=some r):∃a m,c=.v (.int a m)/\k a m=some r:=by
 unfold asI at h;split at h
 ·exact⟨_,_,rfl,h⟩
 ·cases h
def asB(c:CV){R:Type}(k:Bool->Option R):Option R:=match c with
 |.v (.bool b)=>k b
 |_=>none
def Rh{c:CV}{k:Bool->Option R}(h:asB c k=some r):∃b,c=.v (.bool b)/\k b=some r:=by
 unfold asB at h;split at h
 ·exact⟨_,rfl,h⟩
 ·cases h
def blC(h:Tr cX)(k:Nat){R:Type}(f:Tr CV->Nat->bU->Bool->Option R):Option R:=oB (h.get k) λx=>match x with
 |.ce a n e wr=>f a n e wr
 |_=>none
def Ac{f:Tr CV->Nat->bU->Bool->Option R}(b:blC h e f=some r):∃c m a wr,h.get e=some (.ce c m a wr)/\f c m a wr=some r:=by
 obtain⟨x,g,b⟩:=bA b;split at b
 ·exact⟨_,_,_,_,g,b⟩
 ·cases b
def rdC(a:Tr CV){R:Type}:Nat->Nat->(List CV->Option R)->Option R:=Nat.rec (motive:=λ_=>Nat->(List CV->Option R)->Option R) (λ_ k=>k [])
 (λ_ b o k=>oB (a.get o) λc=>b (Nat.succ o) λl=>k (c::l))
def Fj{b:Tr CV}:∀{m o:Nat} {k:List CV->Option R},rdC b m o k=some r->∃l,l.length=m/\(∀(j:Nat) c,l[j]? =some c->b.get (o+j)=some c)/\k l=some r
 |0,o,k,h=>⟨[],rfl,by simp,h⟩
 |m+1,o,k,h=>by
  obtain⟨c,i,h⟩:=bA h;obtain⟨l,e,f,g⟩:=Fj (m:=m) h;refine⟨c::l,by simp[e],λj x a=>?_,g⟩;cases j with
  |zero=>simp at a;subst a;exact i
  |succ j=>rw[show o+(j+1)=o+1+j by omega];exact f j x (by simpa using a)
def BR.cells{ρ:Nm}{b m N:Nat}{a:bU}{wr:Bool}(D:BR P ρ F b m (.ce v N a wr)):∀(l:List CV),(∀(j:Nat) c,l[j]? =some c->v.get (e+j)=some c)->
 ∃w,LR (KR ρ) l w/\(∀(j:Nat) u,w[j]? =some u->F.cell? ⟨b,e+j,none⟩=some u)/\∀u∈w,u.oneCell'=true:=λl H=>by
 obtain⟨ty,g,B,J,C,K⟩:=D;have s:∀(j:Nat) c,l[j]? =some c->KR ρ c (g.getD (e+j) undef)/\F.cell? ⟨b,e+j,none⟩=some (g.getD (e+j) undef)/\(g.getD (e+j) undef).oneCell'=true:=λj c k=>by
  obtain⟨_,u,f,A,I⟩:=C _ _ (H j c k);have:g.getD (e+j) undef=u:=by simp[aq8,f]
  rw[this];exact⟨A,by rw[aqV F b (e+j) g ty (0,0) B,f],A.jv I⟩
 have k:∀(j:Nat) u,((List.range l.length).map λj=>g.getD (e+j) undef)[j]? =some u->∃c,l[j]? =some c/\u=g.getD (e+j) undef:=λj u f=>by
  rw[aqd]at f;obtain⟨i,G,rfl⟩:=aqo.1 f;have:=(apV.1 G);obtain⟨q,rfl⟩:=this;simp at q;exact⟨l[j],ap0 q,by simp⟩
 refine⟨(List.range l.length).map λj=>g.getD (e+j) undef,⟨by simp,λj c u E f=>?_⟩,λj u f=>?_,λu f=>?_⟩
 ·obtain⟨o,p,rfl⟩:=k j u f
  exact(s j c E).1
 ·obtain⟨o,p,rfl⟩:=k j u f
  exact(s j o p).2.1
 ·obtain⟨j,q,rfl⟩:=aqB f
  obtain⟨o,p,a⟩:=k j _ (ap0 q);rw[a];exact(s j o p).2.2
def FK.ev{b:Op}{c:CV}(e:b=.move x\/b=.assign x)(g:jT t x c):QK P ⟨d,b,ty,pos,af,gd⟩ t c:=λρ a w f=>by
 refine⟨a.eval x,?_,g ρ a f⟩;rcases e with rfl|rfl<;>simp[execOp]
def Wa(a:Bool)(l:List CV){R:Type}(k:CV->Option R):Option R:=bB a (k (.ag l)) (match l with
 |[c]=>k c
 |_=>none)
def HU{ρ:Nm}{w:World}{m b o:Nat}{e:bD}{k:CV->Option R}(q:Pn P t1=some (u,m))(p:B.length=m)(s:Wa u B k=some r)(f:LR (KR ρ) B e)(l:∀(j:Nat) a,e[j]? =some a->w.cell? ⟨b,o+j,none⟩=some a):
 ∃a,(loadVar t1 ⟨b,o,none⟩).run P w=.ok a w/\∀c,(u=true/\c=.ag B\/u=false/\B=[c])->KR ρ c a:=by
 have i:=oQ (P:=P) q (b:=b) (o:=o) (us:=e) (w:=w) (by rw[f.1,p]) l;cases u with
 |true=>
  refine⟨.agg e.toArray,i.1 rfl,λc g=>?_⟩;rcases g with⟨_,rfl⟩|⟨h,_⟩
  ·exact .ag e f.1 f.2
  ·cases h
 |false=>
  have:∃c,B=[c]:=by
   rcases dC s with⟨h,_⟩|⟨_,h⟩
   ·cases h
   ·split at h
    ·exact⟨_,rfl⟩
    ·cases h
  obtain⟨c,rfl⟩:=this;obtain⟨a,rfl⟩:∃a,e=[a]:=by
   match e,f.1 with
   |[a],_=>exact⟨a,rfl⟩
  refine⟨a,i.2 rfl a rfl,λv g=>?_⟩;rcases g with⟨h,_⟩|⟨_,h⟩
  ·cases h
  ·cases h;exact f.2 0 c a rfl rfl
def OT{k:CV->Option R}(a:Wa u B k=some r):∃c,(u=true/\c=.ag B\/u=false/\B=[c])/\k c=some r:=by
 rcases dC a with⟨rfl,h⟩|⟨rfl,h⟩
 ·exact⟨_,.inl ⟨rfl,rfl⟩,h⟩
 ·split at h
  ·exact⟨_,.inr ⟨rfl,rfl⟩,h⟩
  ·cases h
def atK(h:Tr cX)(c:CV)(a:Bool)(m:Nat){R:Type}(k:CV->Option R):Option R:=match c with
 |.pt j o=>blC h j λb _ _ _=>rdC b m o λl=>Wa a l k
 |.gl g o=>oB (WD Y_ g) λp=>bB (Nat.beq m 1) (oB (p.2[o]?) λx=>Wa a [.v (.int p.1 x)] k) none
 |_=>none
def aec(J:∀b o a,GT b o a->w0.cell? ⟨b,o,none⟩=some a){p:CV}{k:CV->Option R}(F:Pn P t1=some (u,e))(i:atK h p u e k=some r):
 ∃c,(∀ρ w v N,HR P w0 ρ h.get N w->KR ρ p v->∃b o a,v=.pointer (some ⟨b,o,none⟩)/\(loadVar t1 ⟨b,o,none⟩).run P w=.ok a w/\KR ρ c a)/\k c=some r:=by
 unfold atK at i;split at i
 ·rename_i j o
  obtain⟨X,N,f,wr,K,i⟩:=Ac i;obtain⟨l,O,Q,i⟩:=Fj i;obtain⟨c,m,A⟩:=OT i;refine⟨c,λρ w v _ C E=>?_,A⟩;obtain⟨b,q,U,rfl⟩:=E.vL;obtain⟨Z,H,I,Y⟩:=(C.ob _ _ _ _ K U).cells l Q;obtain⟨a,D,B⟩:=HU F O i H I;exact⟨b,o,a,rfl,D,B c m⟩
 ·rename_i g o
  obtain⟨⟨G,W⟩,M,i⟩:=bA i;obtain⟨S,i⟩:=bg i;obtain rfl:=ei S;obtain⟨x,V,i⟩:=bA i;obtain⟨c,m,A⟩:=OT i;refine⟨c,λρ w v _ C E=>?_,A⟩;cases E with
  |gl=>
   have L:w.cell? ⟨g,o,none⟩=some (.int G x):=C.ext.cell (J g o _ ⟨G,W,x,M,V,rfl⟩);obtain⟨a,D,B⟩:=HU (ρ:=ρ) (w:=w) (b:=g) (o:=o) F rfl i (LR.cons .v LR.nil) (λj a s=>by
    cases j with
    |zero=>simp at s;subst s;exact L
    |succ j=>simp at s)
   exact⟨g,o,a,rfl,D,B c m⟩
 ·cases i
def aed(T:TypeId->bs)(h:Tr cX)(t1:TypeId)(c:CV){R:Type}(k:CV->Option R):Option R:=oB (T t1).ty λp=>atK h c p.1 p.2 k
def FK.load(l:gw P T)(j:∀b o u,GT b o u->w0.cell? ⟨b,o,none⟩=some u){p:CV}{k:CV->Option R}(B:jT t x p)(e:aed T h t1 p k=some r):∃c,PK P w0 ⟨d,.load t1 x,ty,pos,af,gd⟩ t h c/\k c=some r:=by
 obtain⟨⟨C,m⟩,A,e⟩:=bA e;obtain⟨c,q,e⟩:=aec (h:=h) j (l.ty _ _ A) e;refine⟨c,λρ a w N v s=>?_,e⟩;obtain⟨b,o,u,f,g,i⟩:=q ρ w _ N s (B ρ a v);exact⟨u,by simp[execOp,Instr.loadAt,Instr.sureAddr,f,g],i⟩
def ptK(c:CV)(f:Nat){R:Type}(k:CV->Option R):Option R:=match c with
 |.pt j o=>kN (Nat.add o f) λo=>k (.pt j o)
 |.gl g o=>kN (Nat.add o f) λo=>k (.gl g o)
 |_=>none
def aee{p:CV}{f:Nat}{k:CV->Option R}(a:ptK p f k=some r):∃c,(∀ρ v,KR ρ p v->∃b o,v=.pointer (some ⟨b,o,none⟩)/\KR ρ c (.pointer (some ⟨b,o+f,none⟩)))/\k c=some r:=by
 unfold ptK at a;split at a
 ·rw[fC]at a
  refine⟨_,λρ v e=>?_,a⟩;obtain⟨b,m,g,rfl⟩:=e.vL;exact⟨b,_,rfl,.pt g⟩
 ·rw[fC]at a
  refine⟨_,λρ v e=>?_,a⟩;cases e with
  |gl=>exact⟨_,_,rfl,.gl⟩
 ·cases a
def FK.fieldAddr(A:gw P T){p:CV}{k:CV->Option R}(H:jT t x p)(g:(oB (T t1).fd[e]? λq=>bB (Nat.beq q.2.2 0) none (ptK p q.1 k))=some r):∃c,QK P ⟨d,.fieldAddr t1 x e,ty,pos,af,gd⟩ t c/\k c=some r:=by
 obtain⟨⟨N,I,m⟩,D,g⟩:=bA g;rcases dC g with⟨_,j⟩|⟨j,g⟩
 ·cases j
 obtain⟨c,C,g⟩:=aee g;refine⟨c,λρ a w f=>?_,g⟩;obtain⟨b,o,F,G⟩:=C ρ _ (H ρ a f);refine⟨_,?_,G⟩;have f:=A.fd _ _ _ D;have E:m≠0:=iV j;unfold Y3 at f;split at f
 ·rename_i K l
  split at f
  ·rename_i fl s
   split at f
   ·rename_i J M u
    simp only[apU,aqa]at f;obtain⟨rfl,rfl,rfl⟩:=f;obtain⟨O,i,L,v,_,rfl⟩:=ic u;have B:(⟨b,o,none⟩:Addr).add fl.offset=⟨b,o+fl.offset,none⟩:=aqz ..;simp[execOp,Instr.fieldAt,aqi l,s,F,Instr.sureAddr,fieldPlace,cG w v,E,B]
   ·cases f
  ·cases f
 ·cases f
def Ri(T:TypeId->bs)(t1:TypeId)(c:CV)(i:Nat){R:Type}(k:CV->Option R):Option R:=match c with
 |.sl j o m _=>bB (Nat.blt i m) (oB (T t1).el λe=>kN (Nat.add o (Nat.mul i e.2.1)) λo=>k (.pt j o)) none
 |c=>oB (T t1).ar λq=>bB (Nat.blt i q.1) (ptK c (Nat.mul i q.2.2) k) none
def tX(c:CV){R:Type}(k:Nat->Option R):Option R:=match c with
 |.v (.int _ (.ofNat m))=>k m
 |_=>none
def lN{c:CV}{k:Nat->Option R}(a:tX c k=some r):∃b m,c=.v (.int b (Int.ofNat m))/\k m=some r:=by
 unfold tX at a;split at a
 ·exact⟨_,_,rfl,a⟩
 ·cases a
def FK.indexAddr(F:gw P T){p q:CV}{k:CV->Option R}(H:jT t x p)(I:jT t y q)(e:(tX q λi=>Ri T t1 p i k)=some r):∃c,QK P ⟨d,.indexAddr t1 x y,ty,pos,af,gd⟩ t c/\k c=some r:=by
 obtain⟨kd,i,rfl,e⟩:=lN e;unfold Ri at e;split at e
 ·rename_i j o m _ _
  obtain⟨g,e⟩:=bg e;have g:i<m:=apY g;obtain⟨⟨E,W,X,z⟩,C,e⟩:=bA e;rw[fC]at e;refine⟨_,λρ a w s=>?_,e⟩;obtain⟨l,zv,K,A,Z,h4,rfl,_,_⟩:=cT (F.el _ _ C);have v:=H ρ a s;have D:=(I ρ a s).bN;generalize M:a.eval x=u at v;cases v with
  | @sl _ _ _ _ b _ Y f U S a2 a0 a1=>
   have O:f=o:=S (.inl (by omega));subst O;refine⟨.pointer (some ⟨b,f+i*l.size,none⟩),?_,.pt U⟩;have B:(⟨b,f,none⟩:Addr).add (i*l.size)=⟨b,f+i*l.size,none⟩:=aqz ..;have G:Int.ofNat i<(m:Int):=by simp;exact g
   simp[execOp,Instr.indexAt,D,asIntOf,aqi K,M,g,cG w A,B]
 ·obtain⟨⟨m,E,W⟩,C,e⟩:=bA e
  obtain⟨g,e⟩:=bg e;have Q:i<m:=apY g;obtain⟨c,N,e⟩:=aee e;refine⟨c,λρ a w s=>?_,e⟩;obtain⟨l,L,A,rfl⟩:=sO (F.ar _ _ C);obtain⟨b,o,v,V⟩:=N ρ _ (H ρ a s);have D:=(I ρ a s).bN;refine⟨_,?_,V⟩;have B:(⟨b,o,none⟩:Addr).add (i*l.size)=⟨b,o+i*l.size,none⟩:=aqz ..;have G:(Int.ofNat i)<(m:Int):=Int.ofNat_lt.2 Q;have J:0<=Int.ofNat i:=Int.natCast_nonneg i;simp only[execOp,Instr.indexAt,D,asIntOf,aqi L,v,Instr.sureAddr,J,G,cG w A,ap6,ap8,ap7,and_self,aqs];exact ap5 (λp=>Result.ok (Next.value (.pointer (some p))) w) B
def agJ(c:CV){R:Type}(k:ByteArray->Option R):Option R:=match c with
 |.v (.string s)=>k s
 |_=>none
def agL{c:CV}{k:ByteArray->Option R}(a:agJ c k=some r):∃s,c=.v (.string s)/\k s=some r:=by
 unfold agJ at a;split at a
 ·exact⟨_,rfl,a⟩
 ·cases a
def FK.C_(l:gw P T){p q:CV}{k:CV->Option R}(E:jT t x p)(F:jT t y q)(e:(bB (T t1).sg (tX q λi=>agJ p λs=>oB (s.data.toList[i]?) λb=>kN b.toNat λm=>k (.v (.int .u8 (Int.ofNat m)))) none)=some r):
 ∃c,QK P ⟨d,.index t1 x y,ty,pos,af,gd⟩ t c/\k c=some r:=by
 obtain⟨v,e⟩:=bg e;have D:=l.sg _ v;obtain⟨G,i,rfl,e⟩:=lN e;obtain⟨s,rfl,e⟩:=agL e;obtain⟨b,o,e⟩:=bA e;rw[fC]at e;refine⟨_,λρ a w f=>⟨_,?_,.v⟩,e⟩;have g:=(E ρ a f).bN;have j:=(F ρ a f).bN;have B:s[i]? =some b:=by
  obtain⟨A,u⟩:=apV.1 o;have C:i<s.size:=by simpa using A
  rw[getElem?_pos s i C];exact ap5 some u
 simp[execOp,Instr.index,g,j,asIntOf,aqi D,B]
def tuK(c:CV){R:Type}(k:List CV->Option R):Option R:=match c with
 |.tu s=>k s
 |_=>none
def ajY{c:CV}{k:List CV->Option R}(a:tuK c k=some r):∃s,c=.tu s/\k s=some r:=by
 unfold tuK at a;split at a
 ·exact⟨_,rfl,a⟩
 ·cases a
def agK(c:CV){R:Type}(k:List CV->Option R):Option R:=match c with
 |.ag s=>k s
 |_=>none
def aef{c:CV}{k:List CV->Option R}(a:agK c k=some r):∃s,c=.ag s/\k s=some r:=by
 unfold agK at a;split at a
 ·exact⟨_,rfl,a⟩
 ·cases a
def FK.extract{i:Nat}{p:CV}{k:CV->Option R}(q:jT t x p)(b:(tuK p λe=>oB (e[i]?) k)=some r):∃c,QK P ⟨d,.extract x i,ty,pos,af,gd⟩ t c/\k c=some r:=by
 obtain⟨e,rfl,b⟩:=ajY b;obtain⟨c,g,b⟩:=bA b;refine⟨c,λρ a w m=>?_,b⟩;obtain⟨s,f,j⟩:=(q ρ a m).CJ;obtain⟨u,o,l⟩:=j.get g;exact⟨u,by simp[execOp,Instr.extract,f,o],l⟩
def LR.aoK{ρ:Nm}{a:bD}(h:LR (KR ρ) B a)(o n:Nat)(b:o+n<=B.length):LR (KR ρ) ((B.drop o).take n) ((a.drop o).take n)/\((a.drop o).take n).length=n:=by
 refine⟨(h.drop o).take n,?_⟩;rw[aqD,arH,h.1];omega
def FK.field(K:gw P T){f:Nat}{p:CV}{k:CV->Option R}(G:jT t x p)(b:(agK p λg=>oB (T t1).fd[f]? λq=>bB (Nat.ble (Nat.add q.1 q.2.2) g.length) (bB q.2.1 (k (.ag ((g.drop q.1).take q.2.2))) (oB (g[q.1]?) k)) none)=some r):
 ∃c,QK P ⟨d,.field t1 x f,ty,pos,af,gd⟩ t c/\k c=some r:=by
 obtain⟨g,rfl,b⟩:=aef b;obtain⟨⟨S,U,m⟩,M,b⟩:=bA b;obtain⟨E,b⟩:=bg b;have N:S+m<=g.length:=apY E;clear E;have e:=K.fd _ _ _ M;unfold Y3 at e;split at e
 ·rename_i W B
  split at e
  ·rename_i j C
   split at e
   ·rename_i V X I
    simp only[apU,aqa]at e;obtain⟨rfl,rfl,rfl⟩:=e;obtain⟨Y,i,D,J,o,rfl⟩:=ic I;rcases dC b with⟨l,b⟩|⟨l,b⟩
    ·refine⟨_,λρ a w e=>?_,b⟩
     obtain⟨s,v,A⟩:=(G ρ a e).e9;have F:=A.aoK j.offset i.size N;refine⟨.agg ((s.drop j.offset).take i.size).toArray,?_,.ag _ F.1.1 F.1.2⟩;simp only at l;rw[l]at o;have H:s.toArray.extract j.offset (j.offset+i.size)=((s.drop j.offset).take i.size).toArray:=by
      simp[auF]
     simp[execOp,Instr.field,aqi B,C,v,asAgg,part,lO w D,<-o,cG w J,H]
    ·obtain⟨c,L,b⟩:=bA b
     refine⟨c,λρ a w e=>?_,b⟩;obtain⟨s,v,A⟩:=(G ρ a e).e9;obtain⟨u,Q,O⟩:=A.get L;refine⟨u,?_,O⟩;simp only at l;rw[l]at o;simp[execOp,Instr.field,aqi B,C,v,asAgg,part,lO w D,<-o,Q]
   ·cases e
  ·cases e
 ·cases e
def FK.pick{g i j:CV}{k:CV->Option R}(l:jT t z g)(m:jT t x i)(o:jT t y j)(e:(asB g λb=>bB b (k i) (k j))=some r):∃c,QK P ⟨d,.pick z x y,ty,pos,af,gd⟩ t c/\k c=some r:=by
 obtain⟨b,rfl,e⟩:=Rh e;rcases dC e with⟨rfl,e⟩|⟨rfl,e⟩
 ·exact⟨_,λρ a w f=>⟨_,by simp[execOp,(l ρ a f).bN,asBool],m ρ a f⟩,e⟩
 ·exact⟨_,λρ a w f=>⟨_,by simp[execOp,(l ρ a f).bN,asBool],o ρ a f⟩,e⟩
def nnK:CV->Bool
 |.pt .. =>true
 |.gl .. =>true
 |.cl (.func _) _ _=>true
 |.v (.func (.func _) _ _)=>true
 |_=>false
def FK.nilCheck{c:CV}(l:jT t x c)(b:nnK c=true):QK P ⟨d,.nilCheck x,ty,pos,af,gd⟩ t c:=λρ a w k=>by
 have i:=l ρ a k;refine⟨a.eval x,?_,i⟩;generalize g:a.eval x=u at i;cases i with
 |pt=>simp[execOp,g]
 |gl=>simp[execOp,g]
 | @cl j q p s A=>
  cases j with
  |func f=>simp[execOp,g]
  |_=>simp[nnK]at b
 | @v u=>
  unfold nnK at b;split at b
  ·rename_i e;cases e
  ·rename_i e;cases e
  ·rename_i e;cases e
  ·rename_i f m o e;cases e;simp[execOp,g]
  ·cases b
 |_=>simp[nnK]at b
