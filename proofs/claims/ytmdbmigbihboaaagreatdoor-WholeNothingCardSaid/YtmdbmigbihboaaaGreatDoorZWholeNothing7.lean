/- part 7 -/
import Derived.Test.YtmdbmigbihboaaaGreatDoorZWholeNothing6
set_option linter.all false
noncomputable section
open Go Go.RowKit
open IntKind (wrap)
set_option maxRecDepth 100000
namespace Go.Proofs.YtmdbmigbihboaaaGreatDoor.Sp
abbrev Tk:=Int×Int×Int×Int
def h_(ts:List Tk)(L:List Int)(i:Nat):Bool:= !(decide ((i:Int)∈L)) && (match ts[i]? with
 |some t=>decide (t.2.2.2=0)
 |none=>false)
def vC(ts:List Tk)(L:List Int)(j:Int)(i:Nat):Bool:=(match ts[i]? with
 |some t=>decide (t.2.2.1=j)
 |none=>false) && !(h_ ts L i)
def jK(ts:List Tk)(L:List Int)(j:Int):Nat:=(List.range ts.length).countP (vC ts L j)
structure Tree(n:Nat)(ts:List Tk)(L:List Int)(p:Int):Prop where
 ne:0<ts.length
 sh:∀(i:Nat) t,ts[i]? =some t->0<=t.1/\t.1<t.2.1/\t.2.1<=(n:Int)/\-1<=t.2.2.1/\t.2.2.1<(i:Int)/\(0<i->0<=t.2.2.1)/\0<=t.2.2.2/\t.2.2.2<=2
 nd:L.Nodup
 lv:∀x∈L,∃(i:Nat) (t:Tk),x=(i:Int)/\ts[i]? =some t/\t.2.2.2=0
 ct:∀(j:Nat) t,ts[j]? =some t->t.2.2.2=(jK ts L (j:Int):Int)+(if(j:Int)=p then 1 else 0)
def sd{p q:Nat->Bool}{i:Nat}(a:p i=true)(b:q i=false)(h:∀k,k≠i->p k=q k):∀n,i<n->(List.range n).countP p=(List.range n).countP q+1
 |0,d=>by omega
 |n+1,d=>by
  rw[atZ,as1,as1];by_cases c:i=n
  ·subst c
   have e:(List.range i).countP p=(List.range i).countP q:=List.countP_congr λk f=>by
    rw[h k (by have:=are.1 f;omega)]
   simp[e,a,b]
  ·have:=sd a b h n (by omega)
   rw[this];simp only[auR,h n (λe=>c e.symm)];omega
def kS{p q:Nat->Bool}{n:Nat}(h:∀k,k<n->p k=q k):(List.range n).countP p=(List.range n).countP q:=List.countP_congr λk a=>by rw[h k (are.1 a)]
def ko{a:List Tk}{L:List Int}{i:Nat}{t:Tk}(h:a[i]? =some t):h_ a L i=(!(decide ((i:Int)∈L)) && decide (t.2.2.2=0)):=by unfold h_;rw[h]
def fF{a:List Tk}{L:List Int}{j:Int}{i:Nat}{t:Tk}(h:a[i]? =some t):vC a L j i=(decide (t.2.2.1=j) && !(h_ a L i)):=by unfold vC;rw[h]
def cH{α:Type}{l:List α}{i:Nat}{x:α}(h:l[i]? =some x):i<l.length:=(aqh.1 h).1
def Tree.adD{n:Nat}{a:List Tk}{L:List Int}{p:Int}(h:Tree n a L p):∀(k i:Nat),i<=k->i<a.length->h_ a L i=false->h_ a L 0=false
 |0,i,o,c,b=>by
  obtain rfl:i=0:=by omega
  exact b
 |k+1,i,o,c,b=>by
  by_cases g:i=0
  ·subst g;exact b
  obtain⟨t,e⟩:=get_at c;obtain⟨_,_,_,q,r,d,_,_⟩:=h.sh i t e;have d:=d (by omega);obtain⟨j,m⟩:∃j:Nat,t.2.2.1=(j:Int):=⟨t.2.2.1.toNat,by omega⟩;have v:j<i:=by omega
  obtain⟨u,f⟩:=get_at (xs:=a) (i:=j) (by omega);have l:=h.ct j u f;have w:0<jK a L (j:Int):=by
   unfold jK;rw[avn];exact⟨i,are.2 c,by rw[fF e,m,b];simp⟩
  refine Tree.adD h k j (by omega) (by omega) ?_;rw[ko f];have:¬u.2.2.2=0:=by split at l<;>omega
  simp[this]
def Tree.below{n:Nat}{a:List Tk}{L:List Int}(h:Tree n a L (-1)):∀(k i:Nat),a.length<=i+k->i<a.length->h_ a L i=false->L≠[]
 |0,i,q,j,c=>by omega
 |k+1,i,q,j,c=>by
  obtain⟨t,l⟩:=get_at j;rw[ko l]at c;by_cases f:(i:Int)∈L
  ·intro e;rw[e]at f;cases f
  ·have v:¬t.2.2.2=0:=by simpa[f]using c
   have p:=h.ct i t l;rw[aqc (by omega)]at p;have g:0<jK a L (i:Int):=by omega
   unfold jK at g;rw[avn]at g;obtain⟨o,b,d⟩:=g;have b:=are.1 b;obtain⟨u,m⟩:=get_at b;rw[fF m]at d;simp only[aqe,ard,arq]at d;obtain⟨_,_,_,_,r,_⟩:=h.sh o u m;exact Tree.below h k o (by omega) b d.2
def Tree.over{n:Nat}{a:List Tk}{L:List Int}(h:Tree n a L (-1)):h_ a L 0=true↔L=[]:=by
 constructor
 ·intro b
  cases c:L with
  |nil=>rfl
  |cons x l=>
   obtain⟨i,t,rfl,d,g⟩:=h.lv x (by rw[c];simp);have f:h_ a L i=false:=by rw[ko d];simp[c]
   have:=h.adD i i (aqf _) (cH d) f;rw[this]at b;cases b
 ·intro e
  cases b:h_ a L 0 with
  |true=>rfl
  |false=>exact absurd e (h.below a.length 0 (by omega) h.ne b)
def QP{L M:List Int}(a:L.Perm M)(h:L.Nodup):M.Nodup:=a.nodup_iff.1 h
def Yu{a:List Tk}{L M:List Int}(b:L.Perm M)(i:Nat):h_ a L i=h_ a M i:=by
 unfold h_;rw[arP.2 b.mem_iff]
def Tree.perm{n:Nat}{a:List Tk}{L M:List Int}{p:Int}(h:Tree n a L p)(b:L.Perm M):Tree n a M p:=
 ⟨h.ne,h.sh,QP b h.nd,λx d=>h.lv x (b.mem_iff.2 d),λj t c=>by
  rw[h.ct j t c];have:jK a L (j:Int)=jK a M (j:Int):=kS λk e=>by
   unfold vC;rw[Yu b]
  rw[this]⟩
def Tree.take{n:Nat}{a:List Tk}{i:Nat}{L:List Int}{t:Tk}(h:Tree n a ((i:Int)::L) (-1))(b:a[i]? =some t):Tree n a L t.2.2.1/\(t.2.2.1= -1->h_ a L 0=true):=by
 have o:=ars.1 h.nd;have g:t.2.2.2=0:=by
  obtain⟨k,u,e,d,g⟩:=h.lv (i:Int) (by simp);obtain rfl:i=k:=by omega
  rw[b]at d;cases d;exact g
 have l:h_ a L i=true:=by rw[ko b];simp[o.1,g]
 have v:h_ a ((i:Int)::L) i=false:=by rw[ko b];simp
 have p:∀k,k≠i->h_ a ((i:Int)::L) k=h_ a L k:=λk f=>by
  unfold h_;have:¬(k:Int)=(i:Int):=by omega
  simp[this]
 have w:=cH b;refine⟨⟨h.ne,h.sh,o.2,λx y=>h.lv x (by simp[y]),λj u d=>?_⟩,λe=>?_⟩
 ·rw[h.ct j u d,aqc (by omega)]
  by_cases c:(j:Int)=t.2.2.1
  ·rw[aqd c]
   have:jK a ((i:Int)::L) (j:Int)=jK a L (j:Int)+1:=sd (i:=i) (by rw[fF b,v];simp[c]) (by rw[fF b,l];simp) (λk f=>by unfold vC;rw[p k f]) _ w;omega
  ·rw[aqc c]
   have:jK a ((i:Int)::L) (j:Int)=jK a L (j:Int):=kS λk f=>by
    by_cases m:k=i
    ·subst m
     rw[fF b,fF b];have:¬t.2.2.1=(j:Int):=λe=>c e.symm;simp[this]
    ·unfold vC;rw[p k m]
   rw[this]
 ·obtain⟨_,_,_,_,_,r,_⟩:=h.sh i t b
  have:i=0:=by
   by_cases q:i=0
   ·exact q
   ·have:=r (by omega);omega
  subst this;exact l
def less(ts:List Tk)(j:Nat)(t:Tk):List Tk:=ts.set j (t.1,t.2.1,t.2.2.1,t.2.2.2 - 1)
def jB{a:List Tk}{j:Nat}{t:Tk}(b:a[j]? =some t)(k:Nat):(less a j t)[k]? =if k=j then some (t.1,t.2.1,t.2.2.1,t.2.2.2 - 1)else a[k]? :=by
 unfold less;rw[arf];by_cases h:k=j
 ·subst h;simp[cH b]
 ·rw[aqc (λe=>h e.symm),aqc h]
def jC(a:List Tk)(j:Nat)(t:Tk):(less a j t).length=a.length:=by simp[less]
def Tree.less{n:Nat}{a:List Tk}{L:List Int}{j:Nat}{t:Tk}(h:Tree n a L (j:Int))(c:a[j]? =some t):1<=t.2.2.2/\¬(j:Int)∈L/\
 (t.2.2.2 - 1≠0->Tree n (less a j t) L (-1)/\h_ (less a j t) L 0=false)/\(t.2.2.2 - 1=0->Tree n (less a j t) L t.2.2.1/\(t.2.2.1= -1->h_ (less a j t) L 0=true)):=by
 have P:=h.ct j t c;rw[aqd rfl]at P;have O:1<=t.2.2.2:=by omega
 have v:¬(j:Int)∈L:=λR=>by
  obtain⟨k,u,e,b,H⟩:=h.lv _ R;obtain rfl:j=k:=by omega
  rw[c]at b;cases b;omega
 have E:=cH c;have F:=h.sh j t c;have D:h_ a L j=false:=by
  have U:¬t.2.2.2=0:=by omega
  rw[ko c];simp[U]
 have o:(Go.Proofs.YtmdbmigbihboaaaGreatDoor.Sp.less a j t)[j]? =some (t.1,t.2.1,t.2.2.1,t.2.2.2 - 1):=by rw[jB c,aqd rfl]
 have S:∀k,k≠j->h_ (Go.Proofs.YtmdbmigbihboaaaGreatDoor.Sp.less a j t) L k=h_ a L k:=λk f=>by
  unfold h_;rw[jB c,aqc f]
 have w:∀k,k≠j->∀m:Int,vC (Go.Proofs.YtmdbmigbihboaaaGreatDoor.Sp.less a j t) L m k=vC a L m k:=λk f m=>by
  unfold vC;rw[jB c,aqc f,S k f]
 have K:∀(i:Nat) u,(Go.Proofs.YtmdbmigbihboaaaGreatDoor.Sp.less a j t)[i]? =some u->0<=u.1/\u.1<u.2.1/\u.2.1<=(n:Int)/\-1<=u.2.2.1/\u.2.2.1<(i:Int)/\(0<i->0<=u.2.2.1)/\0<=u.2.2.2/\u.2.2.2<=2:=λi u b=>by
  rw[jB c]at b;by_cases d:i=j
  ·subst d
   rw[aqd rfl]at b;cases b;obtain⟨y,z,A,B,C,q,M,N⟩:=F;exact⟨y,z,A,B,C,q,by show 0<=t.2.2.2 - 1;omega,by show t.2.2.2 - 1<=2;omega⟩
  ·rw[aqc d]at b
   exact h.sh i u b
 have J:∀x∈L,∃(i:Nat) (u:Tk),x=(i:Int)/\(Go.Proofs.YtmdbmigbihboaaaGreatDoor.Sp.less a j t)[i]? =some u/\u.2.2.2=0:=λx I=>by
  obtain⟨i,u,rfl,b,H⟩:=h.lv x I;have Q:¬i=j:=λe=>v (e▸I);exact⟨i,u,rfl,by rw[jB c,aqc Q];exact b,H⟩
 refine⟨O,v,λg=>?_,λg=>?_⟩
 ·have l:h_ (Go.Proofs.YtmdbmigbihboaaaGreatDoor.Sp.less a j t) L j=false:=by rw[ko o];simp[g]
  have r:∀m:Int,jK (Go.Proofs.YtmdbmigbihboaaaGreatDoor.Sp.less a j t) L m=jK a L m:=λm=>by
   unfold jK;rw[jC];refine kS λk f=>?_;by_cases p:k=j
   ·subst p
    rw[fF o,fF c,D,l]
   ·exact w k p m
  have G:Tree n (Go.Proofs.YtmdbmigbihboaaaGreatDoor.Sp.less a j t) L (-1):=⟨by rw[jC];exact h.ne,K,h.nd,J,λi u b=>by
   rw[r,aqc (by omega)];rw[jB c]at b;by_cases d:i=j
   ·subst d
    rw[aqd rfl]at b;cases b;show t.2.2.2 - 1=_;omega
   ·rw[aqc d]at b
    have:=h.ct i u b;rw[aqc (by omega)]at this;exact this⟩
  exact⟨G,G.adD j j (aqf _) (by rw[jC];exact E) l⟩
 ·have l:h_ (Go.Proofs.YtmdbmigbihboaaaGreatDoor.Sp.less a j t) L j=true:=by rw[ko o];simp[g,v]
  obtain⟨y,z,A,B,C,q,M,N⟩:=F;refine⟨⟨by rw[jC];exact h.ne,K,h.nd,J,λi u b=>?_⟩,λe=>?_⟩
  ·have r:(jK a L (i:Int):Int)=(jK (Go.Proofs.YtmdbmigbihboaaaGreatDoor.Sp.less a j t) L (i:Int):Int)+(if(i:Int)=t.2.2.1 then 1 else 0):=by
    by_cases d:(i:Int)=t.2.2.1
    ·rw[aqd d]
     have:jK a L (i:Int)=jK (Go.Proofs.YtmdbmigbihboaaaGreatDoor.Sp.less a j t) L (i:Int)+1:=by
      unfold jK;rw[jC];exact sd (i:=j) (by rw[fF c,D];simp[d]) (by rw[fF o,l];simp) (λk f=>(w k f _).symm) _ E
     omega
    ·rw[aqc d]
     have:jK a L (i:Int)=jK (Go.Proofs.YtmdbmigbihboaaaGreatDoor.Sp.less a j t) L (i:Int):=by
      unfold jK;rw[jC];refine kS λk f=>?_;by_cases p:k=j
      ·subst p
       rw[fF o,fF c];have:¬t.2.2.1=(i:Int):=λe=>d e.symm;simp[this]
      ·exact(w k p _).symm
     omega
   rw[jB c]at b;by_cases d:i=j
   ·subst d
    rw[aqd rfl]at b;cases b;rw[aqc (by omega)]at r⊢;show t.2.2.2 - 1=_;omega
   ·rw[aqc d]at b
    have:=h.ct i u b;rw[aqc (by omega)]at this;omega
  ·have:j=0:=by
    by_cases g:j=0
    ·exact g
    ·have:=q (by omega);omega
   subst this;exact l
def part(ts:List Tk)(i:Nat)(t:Tk)(mid:Int):List Tk:=(ts++[(t.1,mid,(i:Int),0),(mid,t.2.1,(i:Int),0)]).set i (t.1,t.2.1,t.2.2.1,2)
def yD(a:List Tk)(i:Nat)(t:Tk)(b:Int):(part a i t b).length=a.length+2:=by simp[part]
def yE{a:List Tk}{i:Nat}{t:Tk}{mid:Int}(j:a[i]? =some t)(k:Nat):(part a i t mid)[k]? =if k=i then some (t.1,t.2.1,t.2.2.1,2)else if k<a.length then a[k]? else if k=a.length then some (t.1,mid,(i:Int),0)else if k=a.length+1 then some (mid,t.2.1,(i:Int),0)else none:=by
 have l:=cH j;unfold part;rw[arf];by_cases h:k=i
 ·subst h;simp;omega
 ·rw[aqc (λe=>h e.symm),aqc h]
  by_cases b:k<a.length
  ·rw[aqd b,aq2 b]
  ·rw[aqc b,arx (by omega)]
   by_cases c:k=a.length
   ·subst c;simp
   ·rw[aqc c]
    by_cases f:k=a.length+1
    ·subst f;simp
    ·rw[aqc f]
     obtain⟨d,g⟩:∃d,k - a.length=d+2:=⟨k - a.length - 2,by omega⟩;rw[g];rfl
def Tree.part{n:Nat}{c:List Tk}{i:Nat}{L:List Int}{t:Tk}{mid:Int}(h:Tree n c ((i:Int)::L) (-1))(j:c[i]? =some t)(U:t.1<mid)(V:mid<t.2.1):Tree n (part c i t mid) ((c.length:Int)::((c.length+1:Nat):Int)::L) (-1):=by
 have z:=ars.1 h.nd;have X:=cH j;have q:t.2.2.2=0:=by
  obtain⟨k,u,e,b,q⟩:=h.lv (i:Int) (by simp);obtain rfl:i=k:=by omega
  rw[j]at b;cases b;exact q
 obtain⟨E,F,G,H,I,J,R,S⟩:=h.sh i t j;have w:∀x∈L,x<(c.length:Int):=λx f=>by
  obtain⟨k,u,rfl,b,_⟩:=h.lv x (by simp[f]);have:=cH b;omega
 have aY:=yE (mid:=mid) j;obtain⟨M,l⟩:∃M:List Int,M=(c.length:Int)::((c.length+1:Nat):Int)::L:=⟨_,rfl⟩;rw[<-l];have y:∀k,k<c.length->h_ (Go.Proofs.YtmdbmigbihboaaaGreatDoor.Sp.part c i t mid) M k=h_ c ((i:Int)::L) k:=λk d=>by
  by_cases g:k=i
  ·subst g
   rw[ko (by rw[aY,aqd rfl]),ko j];simp
  ·unfold h_
   rw[aY,aqc g,aqd d,l];have B:¬(k:Int)=(i:Int):=by omega
   have C:¬(k:Int)=(c.length:Int):=by omega
   have D:¬(k:Int)=(c.length:Int)+1:=by omega
   simp[B,C,D]
 have A:∀k,k=c.length\/k=c.length+1->h_ (Go.Proofs.YtmdbmigbihboaaaGreatDoor.Sp.part c i t mid) M k=false:=λk d=>by
  unfold h_;have:(k:Int)∈M:=by rw[l];rcases d with rfl|rfl<;>simp
  simp[this]
 have N:∀k,k<c.length->∀m:Int,vC (Go.Proofs.YtmdbmigbihboaaaGreatDoor.Sp.part c i t mid) M m k=vC c ((i:Int)::L) m k:=λk d m=>by
  by_cases g:k=i
  ·subst g
   rw[fF (by rw[aY,aqd rfl]),fF j,y k d]
  ·unfold vC
   rw[aY,aqc g,aqd d,y k d]
 have K:∀m:Int,jK (Go.Proofs.YtmdbmigbihboaaaGreatDoor.Sp.part c i t mid) M m=jK c ((i:Int)::L) m+(if m=(i:Int)then 2 else 0):=λm=>by
  unfold jK;rw[yD,atZ,atZ,as1,as1,kS (n:=c.length) (λk d=>N k d m)];have P:vC (Go.Proofs.YtmdbmigbihboaaaGreatDoor.Sp.part c i t mid) M m c.length=decide ((i:Int)=m):=by
   rw[fF (t:=(t.1,mid,(i:Int),0)) (by rw[aY,aqc (by omega),aqc (by omega),aqd rfl]),A _ (.inl rfl)];simp
  have Q:vC (Go.Proofs.YtmdbmigbihboaaaGreatDoor.Sp.part c i t mid) M m (c.length+1)=decide ((i:Int)=m):=by
   rw[fF (t:=(mid,t.2.1,(i:Int),0)) (by rw[aY,aqc (by omega),aqc (by omega),aqc (by omega),aqd rfl]),A _ (.inr rfl)];simp
  simp only[auR,P,Q];by_cases r:m=(i:Int)
  ·subst r;simp
  ·have:¬(i:Int)=m:=λe=>r e.symm
   simp[r,this]
 refine⟨by rw[yD];omega,λk u b=>?_,?_,λx f=>?_,λk u b=>?_⟩
 ·rw[aY]at b
  by_cases g:k=i
  ·subst g
   rw[aqd rfl]at b;cases b;exact⟨E,F,G,H,I,J,by show(0:Int)<=2;omega,by show(2:Int)<=2;omega⟩
  ·rw[aqc g]at b
   by_cases d:k<c.length
   ·rw[aqd d]at b
    exact h.sh k u b
   ·rw[aqc d]at b
    by_cases o:k=c.length
    ·rw[aqd o]at b
     cases b;simp only;omega
    ·rw[aqc o]at b
     by_cases p:k=c.length+1
     ·rw[aqd p]at b
      cases b;simp only;omega
     ·rw[aqc p]at b;cases b
 ·rw[l]
  refine ars.2 ⟨λf=>?_,ars.2 ⟨λf=>?_,z.2⟩⟩
  ·rcases aqG.1 f with e|f
   ·omega
   ·have:=w _ f;omega
  ·have:=w _ f;omega
 ·rw[l]at f
  rcases aqG.1 f with rfl|f
  ·exact⟨c.length,_,rfl,by rw[aY,aqc (by omega),aqc (by omega),aqd rfl],rfl⟩
  ·rcases aqG.1 f with rfl|f
   ·exact⟨c.length+1,_,rfl,by rw[aY,aqc (by omega),aqc (by omega),aqc (by omega),aqd rfl],rfl⟩
   ·obtain⟨k,u,rfl,b,q⟩:=h.lv x (by simp[f])
    have g:¬k=i:=λe=>z.1 (e▸f);exact⟨k,u,rfl,by rw[aY,aqc g,aqd (cH b)];exact b,q⟩
 ·rw[K,aqc (show¬(k:Int)= -1 by omega)]
  rw[aY]at b;have O:∀m:Nat,c.length<=m->jK c ((i:Int)::L) (m:Int)=0:=λm r=>by
   unfold jK;rw[List.countP_eq_zero];intro a v;have v:=are.1 v;obtain⟨u,b⟩:=get_at v;obtain⟨_,_,_,_,W,_⟩:=h.sh a u b;rw[fF b];have:¬u.2.2.1=(m:Int):=by omega
   simp[this]
  by_cases g:k=i
  ·subst g
   rw[aqd rfl]at b;cases b;have:=h.ct k t j;rw[aqc (by omega),q]at this;rw[aqd rfl];show(2:Int)=_;omega
  ·rw[aqc g]at b
   rw[aqc (show¬(k:Int)=(i:Int) by omega)];by_cases d:k<c.length
   ·rw[aqd d]at b
    have:=h.ct k u b;rw[aqc (by omega)]at this;rw[this];omega
   ·rw[O k (by omega)]
    rw[aqc d]at b;by_cases o:k=c.length
    ·rw[aqd o]at b
     cases b;rfl
    ·rw[aqc o]at b
     by_cases p:k=c.length+1
     ·rw[aqd p]at b
      cases b;rfl
     ·rw[aqc p]at b;cases b
def tn(g u:Nat):Nat:=if h:u<=g\/u<=1 then 1 else 1+tn g (u/2)+tn g (u - u/2)
 termination_by u
 decreasing_by all_goals omega
def Oi{g u:Nat}(h:u<=g):tn g u=1:=by rw[tn,dif_pos (.inl h)]
def Oj{g u:Nat}(a:1<=g)(h:g<u):tn g u=1+tn g (u/2)+tn g (u - u/2):=by rw[tn,dif_neg (by omega)]
def ajU(g u:Nat):1<=tn g u:=by
 rw[tn];split<;>omega
def Ol{g:Nat}(a:1<=g):∀(k u:Nat),u<=k->1<=u->tn g u<=2*u - 1
 |0,u,c,h=>by omega
 |k+1,u,c,h=>by
  by_cases b:u<=g
  ·rw[Oi b];omega
  ·rw[Oj a (by omega)]
   have d:=Ol a k (u/2) (by omega) (by omega);have e:=Ol a k (u - u/2) (by omega) (by omega);omega
def yX(a b:Int):List Int:=(List.range (b - a).toNat).map λ(k:Nat)=>a+(k:Int)
def JJ{a b x:Int}:x∈yX a b↔a<=x/\x<b:=by
 unfold yX;rw[aqq];constructor
 ·rintro⟨k,c,rfl⟩
  have:=are.1 c;omega
 ·rintro⟨d,e⟩
  exact⟨(x - a).toNat,are.2 (by omega),by omega⟩
def VS{a m b:Int}(c:a<=m)(d:m<=b):yX a m++yX m b=yX a b:=by
 unfold yX;obtain⟨p,rfl⟩:∃p:Nat,m=a+(p:Int):=⟨(m - a).toNat,by omega⟩;obtain⟨q,rfl⟩:∃q:Nat,b=a+(p:Int)+(q:Int):=⟨(b - (a+p)).toNat,by omega⟩;rw[show(a+(p:Int) - a).toNat=p by omega,show(a+(p:Int)+(q:Int) - (a+(p:Int))).toNat=q by omega,show(a+(p:Int)+(q:Int) - a).toNat=p+q by omega,List.range_add,aq4,aru];refine aqr _ (aq6 λk _=>?_);simp only[Function.comp];omega
def HF(ts:List Tk)(x:Int):List Int:=match ts[x.toNat]? with
 |some t=>yX t.1 t.2.1
 |none=>[]
def szT(g:Nat)(ts:List Tk)(x:Int):Nat:=match ts[x.toNat]? with
 |some t=>tn g (t.2.1 - t.1).toNat
 |none=>0
def left(g:Nat)(ts:List Tk)(L:List Int):Nat:=(L.map (szT g ts)).sum
def mn{ts:List Tk}{i:Nat}{t:Tk}(h:ts[i]? =some t):HF ts (i:Int)=yX t.1 t.2.1:=by
 unfold HF;rw[aqo,h]
def se{g:Nat}{ts:List Tk}{i:Nat}{t:Tk}(h:ts[i]? =some t):szT g ts (i:Int)=tn g (t.2.1 - t.1).toNat:=by
 unfold szT;rw[aqo,h]
def jD(ts O7:List Tk):Prop:=O7.length=ts.length/\∀(k:Nat) (t:Tk),ts[k]? =some t->∃t',O7[k]? =some t'/\t'.1=t.1/\t'.2.1=t.2.1
def jD.refl(a:List Tk):jD a a:=⟨rfl,λk t h=>⟨t,h,rfl,rfl⟩⟩
def jD.trans{a b c:List Tk}(h:jD a b)(k:jD b c):jD a c:=⟨k.1.trans h.1,λi t j=>by
 obtain⟨u,l,d,e⟩:=h.2 i t j;obtain⟨v,m,f,g⟩:=k.2 i u l;exact⟨v,m,f.trans d,g.trans e⟩⟩
def jD.less{a:List Tk}{j:Nat}{t:Tk}(c:a[j]? =some t):jD a (less a j t):=⟨jC a j t,λk u b=>by
 rw[jB c];by_cases h:k=j
 ·subst h
  rw[c]at b;cases b;exact⟨_,aqd rfl,rfl,rfl⟩
 ·exact⟨u,by rw[aqc h];exact b,rfl,rfl⟩⟩
def jD.un{a b:List Tk}(h:jD a b)(x:Int):HF b x=HF a x:=by
 unfold HF;cases c:a[x.toNat]? with
 |some t=>obtain⟨g,d,e,f⟩:=h.2 _ t c;rw[d];simp only[e,f]
 |none=>
  have:b[x.toNat]? =none:=aq1 (by rw[h.1];exact avo.1 c);rw[this]
def jD.sz{g:Nat}{a b:List Tk}(h:jD a b)(x:Int):szT g b x=szT g a x:=by
 unfold szT;cases c:a[x.toNat]? with
 |some t=>obtain⟨i,d,e,f⟩:=h.2 _ t c;rw[d];simp only[e,f]
 |none=>
  have:b[x.toNat]? =none:=aq1 (by rw[h.1];exact avo.1 c);rw[this]
def ly(ts O7:List Tk):Prop:=∀(k:Nat) (t:Tk),ts[k]? =some t->∃t',O7[k]? =some t'/\t'.1=t.1/\t'.2.1=t.2.1
def ly.refl(a:List Tk):ly a a:=λk t h=>⟨t,h,rfl,rfl⟩
def ly.part{b:List Tk}{i:Nat}{t:Tk}{mid:Int}(c:b[i]? =some t):ly b (part b i t mid):=λk u a=>by
 rw[yE c];by_cases h:k=i
 ·subst h
  rw[c]at a;cases a;exact⟨_,aqd rfl,rfl,rfl⟩
 ·exact⟨u,by rw[aqc h,aqd (cH a)];exact a,rfl,rfl⟩
def ly.un{a c:List Tk}(h:ly a c){i:Nat}(g:i<a.length):HF c (i:Int)=HF a (i:Int):=by
 obtain⟨t,b⟩:=get_at g;obtain⟨j,d,e,f⟩:=h i t b;rw[mn b,mn d,e,f]
def ly.sz{g:Nat}{a c:List Tk}(h:ly a c){i:Nat}(j:i<a.length):szT g c (i:Int)=szT g a (i:Int):=by
 obtain⟨t,b⟩:=get_at j;obtain⟨k,d,e,f⟩:=h i t b;rw[se b,se d,e,f]
def si(n:Nat):List Int:=(List.range n).map λ(k:Nat)=>(k:Int)
structure yY(n g:Nat)(ts:List Tk)(dn:List Bool)(L us:List Int):Prop where
 tr:Tree n ts L (-1)
 n1:1<=n
 n2:n<=60
 g1:1<=g
 g2:g<=8
 dl:dn.length=n
 pu:(us++L.flatMap (HF ts)).Perm (si n)
 dd:∀k:Nat,k<n->(dn[k]? =some true↔(k:Int)∈us)
 nb:ts.length+left g ts L=tn g n+L.length
def zV{g:Nat}{a:List Tk}{L M:List Int}(b:L.Perm M):left g a L=left g a M:=(b.map _).sum_nat
def yY.perm{n g:Nat}{d:List Tk}{c:List Bool}{L M b:List Int}(h:yY n g d c L b)(a:L.Perm M):yY n g d c M b:=
 ⟨h.tr.perm a,h.n1,h.n2,h.g1,h.g2,h.dl,((a.flatMap_right _).append_left b).symm.trans h.pu,h.dd,by rw[<-zV a,<-a.length_eq];exact h.nb⟩
def agu{n g:Nat}{ts:List Tk}{L:List Int}(h:∀x∈L,∃(i:Nat) (t:Tk),x=(i:Int)/\ts[i]? =some t):L.length<=left g ts L:=by
 induction L with
 |nil=>simp[left]
 |cons x L c=>
  obtain⟨i,t,rfl,a⟩:=h x (by simp);have:=c λy b=>h y (by simp[b]);have d:=ajU g (t.2.1 - t.1).toNat;unfold left at this⊢;rw[aqz,as2,se a,aqC];omega
def yY.len{n g:Nat}{a:List Tk}{b:List Bool}{L j:List Int}(h:yY n g a b L j):a.length<=tn g n/\L.length<=left g a L/\a.length<=119:=by
 have c:=agu (n:=n) (g:=g) (ts:=a) (L:=L) λx f=>by
  obtain⟨i,t,e,d,_⟩:=h.tr.lv x f;exact⟨i,t,e,d⟩
 have k:=h.nb;have l:=Ol h.g1 n n (aqf _) h.n1;have:=h.n2;refine⟨by omega,c,by omega⟩
def yY.first{n g:Nat}(c:1<=n)(d:n<=60)(e:1<=g)(f:g<=8):yY n g [((0:Int),(n:Int),(-1:Int),(0:Int))] (List.replicate n false) [0] []:=by
 have aY:∀(i:Nat) t,[((0:Int),(n:Int),(-1:Int),(0:Int))][i]? =some t->i=0/\t=((0:Int),(n:Int),(-1:Int),(0:Int)):=λi t h=>by
  cases i with
  |zero=>simp at h;exact⟨rfl,h.symm⟩
  |succ i=>simp at h
 refine⟨⟨by simp,λi t a=>?_,by simp,λx b=>?_,λj t a=>?_⟩,c,d,e,f,by simp,?_,λk l=>?_,?_⟩
 ·obtain⟨rfl,rfl⟩:=aY i t a
  simp only;omega
 ·simp at b
  subst b;exact⟨0,_,rfl,rfl,rfl⟩
 ·obtain⟨rfl,rfl⟩:=aY j t a
  simp[jK,vC]
 ·simp only[aqZ,aqO,atY,aqV]
  have:HF [((0:Int),(n:Int),(-1:Int),(0:Int))] 0=si n:=by
   have:=mn (ts:=[((0:Int),(n:Int),(-1:Int),(0:Int))]) (i:=0) rfl;rw[show((0:Nat):Int)=0 from rfl]at this;rw[this];simp only[yX,si];rw[show((n:Int) - 0).toNat=n by omega];exact aq6 λk _=>by omega
  rw[this]
 ·simp[asP,l]
 ·have:=se (g:=g) (ts:=[((0:Int),(n:Int),(-1:Int),(0:Int))]) (i:=0) rfl
  rw[show((0:Nat):Int)=0 from rfl]at this;simp only[left,aqz,aro,as2,List.sum_nil,this,aqC,aq5];rw[show((n:Int) - 0).toNat=n by omega];omega
def yY.did{n g:Nat}{a b:List Tk}{e c:List Bool}{L o:List Int}{i:Nat}{t:Tk}(h:yY n g a e ((i:Int)::L) o)(m:a[i]? =some t)(v:(t.2.1 - t.1).toNat<=g)(d:jD a b)(u:Tree n b L (-1))
 (q:c.length=n) (p:∀k:Nat,k<n->(c[k]? =some true↔e[k]? =some true\/(t.1<=(k:Int)/\(k:Int)<t.2.1))):yY n g b c L (o++yX t.1 t.2.1)/\left g a ((i:Int)::L)=left g b L+1:=by
 have r:left g b L=left g a L:=by
  unfold left;rw[aq6 λx _=>d.sz x]
 have l:left g a ((i:Int)::L)=left g b L+1:=by
  rw[r];unfold left;rw[aqz,as2,se m,Oi v];omega
 refine⟨⟨u,h.n1,h.n2,h.g1,h.g2,q,?_,λk j=>?_,?_⟩,l⟩
 ·have f:=h.pu
  rw[aqO,mn m,<-aqJ]at f;have:L.flatMap (HF b)=L.flatMap (HF a):=by rw[show HF b=HF a from funext λx=>d.un x]
  rw[this];exact f
 ·rw[p k j,h.dd k j,aqp,JJ]
 ·have:=h.nb
  rw[l,aqC]at this;rw[d.1];omega
def yY.ajV{n g:Nat}{a:List Tk}{l:List Bool}{L z:List Int}{i:Nat}{t:Tk}{b:Int}(h:yY n g a l ((i:Int)::L) z)(c:a[i]? =some t)(j:g<(t.2.1 - t.1).toNat)(C:b=t.1+(((t.2.1 - t.1).toNat/2:Nat):Int)):
 yY n g (part a i t b) l ((a.length:Int)::((a.length+1:Nat):Int)::L) z/\left g a ((i:Int)::L)=left g (part a i t b) ((a.length:Int)::((a.length+1:Nat):Int)::L)+1:=by
 have v:=h.g1;have p:t.1<b:=by omega
 have q:b<t.2.1:=by omega
 have B:=cH c;have y:=ly.part (mid:=b) c;have r:∀x∈L,∃k:Nat,x=(k:Int)/\k<a.length:=λx d=>by
  obtain⟨k,u,rfl,j,_⟩:=h.tr.lv x (by simp[d]);exact⟨k,rfl,cH j⟩
 have m:(part a i t b)[a.length]? =some (t.1,b,(i:Int),0):=by rw[yE c,aqc (by omega),aqc (by omega),aqd rfl]
 have o:(part a i t b)[a.length+1]? =some (b,t.2.1,(i:Int),0):=by rw[yE c,aqc (by omega),aqc (by omega),aqc (by omega),aqd rfl]
 have A:L.map (szT g (part a i t b))=L.map (szT g a):=aq6 λx d=>by
  obtain⟨k,rfl,f⟩:=r x d;exact y.sz f
 have w:left g a ((i:Int)::L)=left g (part a i t b) ((a.length:Int)::((a.length+1:Nat):Int)::L)+1:=by
  unfold left;rw[aqz,aqz,aqz,as2,as2,as2,A,se c,se m,se o,Oj v j];simp only;rw[show(b - t.1).toNat=(t.2.1 - t.1).toNat/2 by omega,show(t.2.1 - b).toNat=(t.2.1 - t.1).toNat - (t.2.1 - t.1).toNat/2 by omega];omega
 refine⟨⟨h.tr.part c p q,h.n1,h.n2,v,h.g2,h.dl,?_,h.dd,?_⟩,w⟩
 ·have e:=h.pu
  rw[aqO,mn c]at e;rw[aqO,aqO,mn m,mn o,<-aqJ (yX _ _),VS (Int.le_of_lt p) (Int.le_of_lt q)];have:L.flatMap (HF (part a i t b))=L.flatMap (HF a):=by
   rw[at0,at0,aq6 λx d=>?_];obtain⟨k,rfl,f⟩:=r x d;exact y.un f
  rw[this];exact e
 ·have e:=h.nb
  rw[w,aqC]at e;rw[yD,aqC,aqC];omega
structure Yv(n g:Nat)(ts:List Tk)(dn:List Bool):Prop where
 n1:1<=n
 n2:n<=60
 g1:1<=g
 g2:g<=8
 dl:dn.length=n
 t1:0<ts.length
 t2:ts.length<=200
 sh:∀(i:Nat) t,ts[i]? =some t->0<=t.1/\t.1<t.2.1/\t.2.1<=(n:Int)/\-1<=t.2.2.1/\t.2.2.1<(i:Int)/\(0<i->0<=t.2.2.1)/\0<=t.2.2.2/\t.2.2.2<=2
def yY.ok{n g:Nat}{b:List Tk}{a:List Bool}{L c:List Int}(h:yY n g b a L c):Yv n g b a:=
 ⟨h.n1,h.n2,h.g1,h.g2,h.dl,h.tr.ne,by have:=h.len;omega,h.tr.sh⟩
def EU{N:Nat}(e:1<=N){n g:Nat}(a:1<=n)(b:n<=60)(c:1<=g)(d:g<=8):L9 N ((n:Int),(g:Int))=some true:=by
 obtain⟨N,rfl⟩:∃m,N=m+1:=⟨N - 1,by omega⟩;rw[abu,dV (by omega),dV (by omega),dV (by omega)];simp only[aqg,ard];omega
def Ba(N:Nat){n g:Nat}{a:List Tk}{b:List Bool}(h:Yv n g a b):∀(k i m:Nat),i+k=a.length->k<m->
 xb N m (a,((a.length:Nat):Int),(i:Int),a,(g:Int),b)=some (.inl ())
 |k,i,0,c,d=>by omega
 |0,i,m+1,c,d=>by rw[DN,dN (by omega)]
 |k+1,i,m+1,c,d=>by
  obtain⟨t,e⟩:=get_at (xs:=a) (i:=i) (by omega);obtain⟨f,j,l,o,p,q,r,u⟩:=h.sh i t e;have:=h.t2;have:=h.dl;rw[DN,dV (by omega),ba e,ob,dN (by omega),dN (by omega),dN (by omega),dN (by omega),dN (by omega),dN (by omega),dN (by omega),cn (by omega)];exact Ba N h k (i+1) m (by omega) (by omega)
def tw{N:Nat}(d:Fu+2<=N){n g:Nat}{a:List Tk}{b:List Bool}(h:Yv n g a b):DM N (a,(g:Int),b)=some true:=by
 obtain⟨N,rfl⟩:∃m,N=m+1:=⟨N - 1,by omega⟩;have:=h.t1;have:=h.t2;have c:=bH;rw[Xz,h.dl,EU (by omega) h.n1 h.n2 h.g1 h.g2,ob];simp only[aqv,aqi];rw[dN (by omega),dN (by omega)];have:=Ba N h a.length 0 N (by omega) (by omega);rw[show((0:Nat):Int)=0 from rfl]at this;rw[this];rfl
def EW{N:Nat}(c:Fu+3<=N){n g:Nat}{a:List Tk}{b:List Bool}(h:Yv n g a b){i:Nat}(d:i<a.length):zy N (a,(g:Int),b,(i:Int))=some 0:=by
 obtain⟨N,rfl⟩:∃m,N=m+1:=⟨N - 1,by omega⟩;rw[XA,tw (by omega) h,ob];simp only[aqv,aqi];rw[dN (by omega),dN (by omega)]
def EX{N:Nat}(h:1<=N){a b c d:Int}(e:0<=a)(f:a<=b)(g:b<=60):vp N (a,b,c,d)=some (b - a):=by
 obtain⟨N,rfl⟩:∃m,N=m+1:=⟨N - 1,by omega⟩;rw[XB,gG (by omega) (by omega)]
def EY{N:Nat}(j:Fu+4<=N){n g:Nat}{b:List Tk}{c:List Bool}(h:Yv n g b c){i:Nat}{t:Tk}(a:b[i]? =some t):DO N (b,(g:Int),c,(i:Int))=some (decide ((g:Int)<t.2.1 - t.1)):=by
 obtain⟨N,rfl⟩:∃m,N=m+1:=⟨N - 1,by omega⟩;obtain⟨d,e,f,_⟩:=h.sh i t a;have:=h.n2;rw[XC,EW (by omega) h (cH a),ob,dV rfl,ba a,ob,EX (by omega) d (by omega) (by omega),ob]
def tF{N:Nat}(c:1<=N)(a:List Tk)(b:a.length<=100000000000):Mm N a=some a:=by
 obtain⟨N,rfl⟩:∃m,N=m+1:=⟨N - 1,by omega⟩;rw[abA,cE (by omega) (by simpa using b),aqZ];cases a with
 |nil=>exact sV.2 ⟨rfl,rfl⟩
 |cons x d=>rfl
def Yw{N:Nat}(c:1<=N)(a:List Bool)(b:a.length<=100000000000):TP N a=some a:=by
 obtain⟨N,rfl⟩:∃m,N=m+1:=⟨N - 1,by omega⟩;rw[abC,cE (by omega) (by simpa using b),aqZ];cases a with
 |nil=>exact sV.2 ⟨rfl,rfl⟩
 |cons x d=>rfl
def Yx{N:Nat}(c:1<=N)(a:List (List Int))(b:a.length<=100000000000):TN N a=some a:=by
 obtain⟨N,rfl⟩:∃m,N=m+1:=⟨N - 1,by omega⟩;rw[aby,cE (by omega) (by simpa using b),aqZ];cases a with
 |nil=>exact sV.2 ⟨rfl,rfl⟩
 |cons x d=>rfl
def agv{N:Nat}(b:1<=N)(a:List Int):TO N a=some a:=by
 obtain⟨N,rfl⟩:∃m,N=m+1:=⟨N - 1,by omega⟩;rw[abB,ac6,ob,dV rfl]
def QQ(t:Tk):Int:=t.1+(((t.2.1 - t.1).toNat/2:Nat):Int)
def Cv{N:Nat}(p:Fu+4<=N){n g:Nat}{a:List Tk}{c:List Bool}(h:Yv n g a c){i:Nat}{t:Tk}(b:a[i]? =some t)(r:t.2.2.2=0)(q:(g:Int)<t.2.1 - t.1):
 I3 N (a,(g:Int),c,(i:Int))=some (((a.length:Nat):Int),((a.length+1:Nat):Int),0,part a i t (QQ t),(g:Int),c):=by
 obtain⟨N,rfl⟩:∃m,N=m+1:=⟨N - 1,by omega⟩;obtain⟨e,l,o,_⟩:=h.sh i t b;have:=h.n2;have:=h.t2;obtain⟨u,d⟩:∃u:Nat,t.2.1 - t.1=(u:Int):=⟨(t.2.1 - t.1).toNat,by omega⟩;have j:Int.tdiv (t.2.1 - t.1) 2=((u/2:Nat):Int):=by rw[d];exact yk u 2
 have f:t.1+((u/2:Nat):Int)=QQ t:=by unfold QQ;rw[d,aqo]
 rw[XF,EW (by omega) h (cH b),ob,yV rfl,ba b,ob,EX (by omega) e (by omega) (by omega),ob,dN (by omega),dN (by omega),gG (by omega) (by omega),dN (by omega),ob,tF (by omega) a (by omega),ob,
  j,gG (x:=((u/2:Nat):Int)) (by omega) (by omega),gG (x:=t.1+((u/2:Nat):Int)) (by omega) (by omega),f,cE (by omega) (by simp;omega),ob]
 have k:(a++[(t.1,QQ t,(i:Int),0),(QQ t,t.2.1,(i:Int),0)])[i]? =some t:=by
  rw[aq2 (cH b)];exact b
 rw[ba k,ob,ob,cn (by omega),aqo];rfl
def VT{n g:Nat}{ts ts0:List Tk}{t:Tk}(u:t.2.1<=(n:Int))(B:n<=60)(w p f:Int)(l o:Int):∀(k:Nat) (x:Int) (a:List Bool),a.length=n->0<=x->x+(k:Int)=t.2.1->
 ∃c:List Bool,c.length=n/\(∀j:Nat,j<n->(c[j]? =some true↔a[j]? =some true\/(x<=(j:Int)/\(j:Int)<t.2.1)))/\∀N m,k<m->xp N m (x,w,p,f,t.2.1,l,o,ts,a)=some (w,p,f,t.2.1,l,o,ts,c)
 |0,x,a,d,C,z=>⟨a,d,λj q=>⟨λh=>.inl h,λh=>h.elim id λh=>by omega⟩,λN m A=>by
  obtain⟨m,rfl⟩:∃e,m=e+1:=⟨m - 1,by omega⟩;rw[DU,dN (by omega)]⟩
 |k+1,x,a,d,C,z=>by
  obtain⟨y,rfl⟩:∃y:Nat,x=(y:Int):=⟨x.toNat,by omega⟩;obtain⟨b,v⟩:=get_at (xs:=a) (i:=y) (by omega);obtain⟨c,D,E,F⟩:=VT (ts:=ts) (ts0:=ts0) (g:=g) u B w p f l o k ((y:Int)+1) (a.set y true) (by simpa using d) (by omega) (by omega);refine⟨c,D,λj q=>?_,λN m A=>?_⟩
  ·rw[E j q,arf]
   by_cases r:y=j
   ·subst r
    rw[aqd rfl,aqd (by omega)];constructor
    ·intro _;exact .inr ⟨by omega,by omega⟩
    ·intro _;exact .inl rfl
   ·rw[aqc r]
    constructor
    ·rintro(h|h)
     ·exact .inl h
     ·exact .inr ⟨by omega,h.2⟩
    ·rintro(h|h)
     ·exact .inl h
     ·exact .inr ⟨by omega,h.2⟩
  ·obtain⟨m,rfl⟩:∃e,m=e+1:=⟨m - 1,by omega⟩
   rw[DU,dV (by omega),ba v,ob,ob,gG (by omega) (by omega),aqo];exact F N m (by omega)
def Bb{n:Nat}{L:List Int}:∀(k:Nat) (p:Int) (a:List Tk),p<(k:Int)->Tree n a L p->-1<=p->p<(a.length:Int)->a.length<=200->(p= -1->h_ a L 0=true)->
 ∃(res:Bool) (d:List Tk),jD a d/\Tree n d L (-1)/\(res=true↔h_ d L 0=true)/\∀N m,k+1<m->B7 N m (p,a)=some (if res=true then .inl d else .inr (false,d))
 |0,p,a,A,h,w,x,r,f=>by
  obtain rfl:p= -1:=by omega
  refine⟨true,a,jD.refl a,h,⟨λ_=>f rfl,λ_=>rfl⟩,λN m o=>?_⟩;obtain⟨m,rfl⟩:∃c,m=c+1:=⟨m - 1,by omega⟩;rw[ti,yV rfl,aqd rfl]
 |k+1,p,a,A,h,w,x,r,f=>by
  by_cases B:p= -1
  ·subst B
   refine⟨true,a,jD.refl a,h,⟨λ_=>f rfl,λ_=>rfl⟩,λN m o=>?_⟩;obtain⟨m,rfl⟩:∃c,m=c+1:=⟨m - 1,by omega⟩;rw[ti,yV rfl,aqd rfl]
  ·obtain⟨j,rfl⟩:∃j:Nat,p=(j:Int):=⟨p.toNat,by omega⟩
   obtain⟨t,b⟩:=get_at (xs:=a) (i:=j) (by omega);obtain⟨H,G,y,z⟩:=h.less b;obtain⟨_,_,_,_,s5,_,_,s8⟩:=h.sh j t b;have u:a.set j (t.1,t.2.1,t.2.2.1,t.2.2.2 - 1)=less a j t:=rfl;have q:(less a j t)[j]? =some (t.1,t.2.1,t.2.2.1,t.2.2.2 - 1):=by rw[jB b,aqd rfl]
   by_cases v:t.2.2.2 - 1=0
   ·obtain⟨l,g⟩:=z v
    obtain⟨res,d,C,D,E,F⟩:=Bb k t.2.2.1 (less a j t) (by omega) l (h.sh j t b).2.2.2.1 (by rw[jC];omega) (by rw[jC];exact r) g;refine⟨res,d,(jD.less b).trans C,D,E,λN m o=>?_⟩;obtain⟨m,rfl⟩:∃c,m=c+1:=⟨m - 1,by omega⟩;rw[ti,cnF (by omega),ba b,ob,ob,dN (by omega),ob,ob,aqo,gG (by omega) (by omega),u,ba q,ob];rw[dN (by show¬(0:Int)<t.2.2.2 - 1;omega),ob];exact F N m (by omega)
   ·obtain⟨l,g⟩:=y v
    refine⟨false,less a j t,jD.less b,l,⟨λe=>(by cases e),λe=>(by rw[g]at e;cases e)⟩,λN m o=>?_⟩;obtain⟨m,rfl⟩:∃c,m=c+1:=⟨m - 1,by omega⟩;rw[ti,cnF (by omega),ba b,ob,ob,dN (by omega),ob,ob,aqo,gG (by omega) (by omega),u,ba q,ob];rw[dV (by show(0:Int)<t.2.2.2 - 1;omega)];simp
def amO{n g:Nat}{a:List Tk}{f:List Bool}{L A:List Int}{i:Nat}{t:Tk}(h:yY n g a f ((i:Int)::L) A)(c:a[i]? =some t)(X:t.2.1 - t.1<=(g:Int)):
 ∃(j:Bool) (d:List Tk) (l:List Bool),yY n g d l L (A++yX t.1 t.2.1)/\left g a ((i:Int)::L)=left g d L+1/\jD a d/\(j=true↔L=[])/\
  ∀N,Fu+4<=N->I4 N (a,(g:Int),f,(i:Int))=some (j,0,d,(g:Int),l):=by
 obtain⟨I,w⟩:=h.tr.take c;obtain⟨q,Q,B,C,R,S,U,V⟩:=h.tr.sh i t c;have Y:=h.len;have M:=h.n2;have K:=cH c;have z:t.2.2.2=0:=by
  obtain⟨k,u,e,o,z⟩:=h.tr.lv (i:Int) (by simp);obtain rfl:i=k:=by omega
  rw[c]at o;cases o;exact z
 obtain⟨j,d,r,v,G,H⟩:=Bb (i+1) t.2.2.1 a (by omega) I C (by omega) (by omega) w;obtain⟨l,D,E,F⟩:=VT (g:=g) (ts:=a) (ts0:=a) (t:=t) B M (g:Int) 0 t.1 t.2.2.1 t.2.2.2 (t.2.1 - t.1).toNat t.1 f h.dl q (by omega);obtain⟨j1,j2⟩:=h.did c (by omega) r v D E;refine⟨j,d,l,j1,j2,r,G.trans v.over,λN W=>?_⟩;obtain⟨N,rfl⟩:∃m,N=m+1:=⟨N - 1,by omega⟩;have w:=bH;obtain⟨p,y⟩:∃p:Nat,t.1=(p:Int):=⟨t.1.toNat,by omega⟩;obtain⟨b,x⟩:=get_at (xs:=f) (i:=p) (by rw[h.dl];omega);have J:b=false:=by
  cases b with
  |false=>rfl
  |true=>
   have o:=(h.dd p (by omega)).1 x;have P:=h.pu;have O:(si n).Nodup:=by
    unfold si;rw[avp,atq];exact auN.imp λh e=>h (by omega)
   have:=P.nodup_iff.2 O;rw[aq8]at this;exact absurd rfl (this.2.2 _ o _ (by rw[aqO,mn c,aqp,JJ];exact .inl ⟨by omega,by omega⟩))
 subst J;rw[XG,EW (by omega) h.ok K,ob,yV rfl,ba c,ob,EX (by omega) q (by omega) (by omega),ob,dN (by omega),dN (by omega),y,ba x,ob];simp only[aqi];rw[tF (by omega) a (by omega),ob,Yw (by omega) f (by rw[h.dl];omega),ob,<-y,F N N (by omega),ob];obtain⟨N,rfl⟩:∃m,N=m+1:=⟨N - 1,by omega⟩;simp only;rw[abE,H N N (by omega),ob];cases j with
 |true=>rfl
 |false=>rfl
def QS:∀(g:List (Int×Int)) (c d v:Int),bC (.i .i64) (dI (.i .i64) g c v) d=if c=d then some v else bC (.i .i64) g d
 |[],c,d,v=>by
  by_cases h:c=d
  ·subst h;simp[dI,bC,iB]
  ·have b:iB (.i .i64) c d=false:=by simp[iB,h]
   simp[dI,bC,b,h]
 |(x,y)::g,c,d,v=>by
  rw[dI];by_cases h:x=c
  ·subst h
   by_cases a:x=d
   ·subst a;simp[iB,bC]
   ·have b:iB (.i .i64) x d=false:=by simp[iB,a]
    have f:iB (.i .i64) x x=true:=by simp[iB]
    simp[bC,b,f,a]
  ·have b:iB (.i .i64) x c=false:=by simp[iB,h]
   simp only[b,aqi,bC];by_cases a:x=d
   ·subst a
    have f:iB (.i .i64) x x=true:=by simp[iB]
    rw[f,aqc (λe=>h e.symm)];rfl
   ·have f:iB (.i .i64) x d=false:=by simp[iB,a]
    rw[f];exact QS g c d v
def QT(n:Nat):(si n).Nodup:=by
 unfold si;rw[avp,atq];exact auN.imp λh e=>h (by omega)
def yY.fresh{n g:Nat}{j:List Tk}{c:List Bool}{L o:List Int}(h:yY n g j c L o){x:Int}(f:x∈L):∃(i:Nat) (t:Tk) (a:Nat),x=(i:Int)/\j[i]? =some t/\t.2.2.2=0/\t.1=(a:Int)/\c[a]? =some false:=by
 obtain⟨i,t,rfl,d,m⟩:=h.tr.lv x f;obtain⟨p,q,r,_⟩:=h.tr.sh i t d;obtain⟨a,k⟩:∃a:Nat,t.1=(a:Int):=⟨t.1.toNat,by omega⟩;obtain⟨b,e⟩:=get_at (xs:=c) (i:=a) (by rw[h.dl];omega);refine⟨i,t,a,rfl,d,m,k,?_⟩;cases b with
 |false=>exact e
 |true=>
  have l:=(h.dd a (by omega)).1 e;have:=h.pu.nodup_iff.2 (QT n);rw[aq8]at this;exact absurd rfl (this.2.2 _ l _ (arz.2 ⟨_,f,by rw[mn d,JJ];exact⟨by omega,by omega⟩⟩))
def adE{N:Nat}(l:Fu+5<=N){n g:Nat}{c:List Tk}{b:List Bool}{L k:List Int}(h:yY n g c b L k){x:Int}(j:x∈L):I1 N (c,(g:Int),b,x)=some true:=by
 obtain⟨N,rfl⟩:∃m,N=m+1:=⟨N - 1,by omega⟩;obtain⟨i,t,p,rfl,a,f,e,d⟩:=h.fresh j;have o:=cH a;rw[XD,dV (by omega),dV (by omega),ba a,ob,dV f,EY (by omega) h.ok a,ob,cd];split
 ·rfl
 ·rw[ob,e,ba d];rfl
def Om{n g:Nat}{B:List Tk}{r:List Bool}{L Q:List Int}(h:yY n g B r L Q)(d:List (List Int))(a b:Int)(z:Bool)(A v:Int)(l:List Int)(H:l.length<=200):∀(k j:Nat) (c:List (Int×Int)) (seen:List Int),j+k=l.length->
 (∀y∈l.drop j,y∈L)->(seen++l.drop j).Nodup->(∀y,bC (.i .i64) c y=if y∈seen then some 1 else none)->
 ∃q,(∀y,bC (.i .i64) q y=if y∈seen++l.drop j then some 1 else none)/\∀N m,Fu+5<=N->k<m->xl N m (d,a,b,l,((l.length:Nat):Int),(j:Int),B,(g:Int),r,d,z,A,v,c)=some (.inl (d,a,b,B,(g:Int),r,d,z,A,v,q))
 |0,j,c,seen,G,p,o,f=>⟨c,by rw[arb (by omega),aqV];exact f,λN m t f=>by
  obtain⟨m,rfl⟩:∃w,m=w+1:=⟨m - 1,by omega⟩;rw[DP,dN (by omega)]⟩
 |k+1,j,c,seen,G,p,o,f=>by
  obtain⟨x,D⟩:=get_at (xs:=l) (i:=j) (by omega);have C:=cY D;rw[C]at p o;have K:¬x∈seen:=λF=>by
   rw[aq8]at o;exact o.2.2 _ F _ (by simp) rfl
  have J:bC (.i .i64) c x=none:=by rw[f,aqc K]
  have I:((seen++[x])++l.drop (j+1)).Nodup:=by rw[aqJ];exact o
  obtain⟨q,O,P⟩:=Om h d a b z A v l H k (j+1) (dI (.i .i64) c x 1) (seen++[x]) (by omega) (λy M=>p y (by simp[M])) I (λy=>by
   rw[QS,f];by_cases u:x=y
   ·subst u;simp
   ·have:¬y=x:=λe=>u e.symm
    simp[u,this])
  refine⟨q,λy=>by rw[O,C];simp,λN m t R=>?_⟩;obtain⟨m,rfl⟩:∃w,m=w+1:=⟨m - 1,by omega⟩;have E:wrap .i64 ((Option.getD (bC (.i .i64) c x) (0:Int))+(1:Int))=1:=by rw[J];rfl
  rw[DP,dV (by omega),ba D,ob,E,QS,aqd rfl,dN (by simp),adE t h (p x (by simp)),ob,cn (by omega)];exact P N m t (by omega)
def On{n g:Nat}{z:List Tk}{v:List Bool}{L H:List Int}(h:yY n g z v L H)(a:List (List Int))(E:a.length<=8)(t:Bool)(u q:Int):∀(k j:Nat) (d:List (Int×Int)) (seen:List Int),j+k=a.length->
 (∀y∈(a.drop j).flatten,y∈L)->(∀l∈a,l.length<=200)->(seen++(a.drop j).flatten).Nodup->(∀y,bC (.i .i64) d y=if y∈seen then some 1 else none)->
 ∀N m,Fu+5<=N->k<m->xn N m (a,((a.length:Nat):Int),(j:Int),z,(g:Int),v,a,t,u,q,d)=some (.inl ())
 |0,j,d,seen,B,e,o,b,w,N,m,f,D=>by
  obtain⟨m,rfl⟩:∃r,m=r+1:=⟨m - 1,by omega⟩;rw[DQ,dN (by omega)]
 |k+1,j,d,seen,B,e,o,b,w,N,m,f,D=>by
  obtain⟨m,rfl⟩:∃r,m=r+1:=⟨m - 1,by omega⟩;obtain⟨l,p⟩:=get_at (xs:=a) (i:=j) (by omega);have A:=cY p;rw[A,aqR]at e b;have C:=o l (aqw p);rw[<-aqJ]at b;obtain⟨F,x,G⟩:=Om h a ((a.length:Nat):Int) (j:Int) t u q l C l.length 0 d seen (by omega) (λy c=>e y (by simp at c⊢;exact .inl c)) (by rw[aq3];exact(aq8.1 b).1) w;have I:=bH;rw[DQ,dV (by omega),ba p,ob];have:=G N N f (by omega);rw[show((0:Nat):Int)=0 from rfl]at this;rw[this,ob];simp only;rw[cn (by omega)];exact On h a E t u q k (j+1) F (seen++l) (by omega) (λy c=>e y (by simp at c⊢;exact .inr c)) o b (by rw[aq3]at x;exact x) N m f (by omega)
structure Oo(n g P:Nat)(ts:List Tk)(dn:List Bool)(dq:List (List Int))(ov:Bool)(us:List Int):Prop where
 job:yY n g ts dn dq.flatten us
 pl:dq.length=P
 p1:1<=P
 p2:P<=8
 ovr:ov=true↔dq.flatten=[]
def tG:∀(b:List (List Int)) (p:Nat) (l:List Int),b[p]? =some l->∃R:List Int,b.flatten.Perm (l++R)/\∀c,(b.set p c).flatten.Perm (c++R)
 |[],p,l,h=>by simp at h
 |a::b,0,l,h=>by
  simp at h;subst h;exact⟨b.flatten,by rw[aqR],λc=>by rw[atm,aqR]⟩
 |a::b,p+1,l,h=>by
  obtain⟨R,d,e⟩:=tG b p l (by simpa using h);refine⟨a++R,?_,λc=>?_⟩
  ·rw[aqR]
   exact(d.append_left a).trans (auS a l R)
  ·rw[auw,aqR]
   exact((e c).append_left a).trans (auS a c R)
def yY.held{n g:Nat}{a:List Tk}{e:List Bool}{L o:List Int}(h:yY n g a e L o):L.length<=60:=by
 have m:∀M:List Int,(∀x∈M,x∈L)->M.length<=(M.flatMap (HF a)).length:=by
  intro M
  induction M with
  |nil=>intro _;simp
  |cons x M l=>
   intro c;have f:=l λy k=>c y (by simp[k]);obtain⟨i,t,rfl,d,_⟩:=h.tr.lv x (c x (by simp));obtain⟨p,q,_⟩:=h.tr.sh i t d;have b:1<=(HF a (i:Int)).length:=by
    rw[mn d];unfold yX;rw[aqn,List.length_range];omega
   rw[aqO,aqy,aqC];omega
 have f:=m L λx j=>j;have b:=h.pu.length_eq;have r:=h.n2;rw[aqy]at b;have:(si n).length=n:=by simp[si]
 omega
def Oo.short{n g P:Nat}{j:List Tk}{b:List Bool}{a:List (List Int)}{i:Bool}{k:List Int}(h:Oo n g P j b a i k):∀l∈a,l.length<=200:=λl e=>by
 obtain⟨p,f⟩:=atU e;obtain⟨R,c,_⟩:=tG a p l f;have m:=h.job.held;have d:=c.length_eq;rw[aqy]at d;omega
def Yy{n g P:Nat}{k:List Tk}{i:List Bool}{e:List (List Int)}{f:Bool}{r:List Int}(h:Oo n g P k i e f r){d c:Int}(l:0<=d)(o:d<=100000)(p:0<=c)(q:c<=100000){N:Nat}(u:Fu+6<=N):
 I2 N (k,(g:Int),i,e,f,d,c)=some true:=by
 obtain⟨N,rfl⟩:∃m,N=m+1:=⟨N - 1,by omega⟩;have v:=h.pl;have w:=h.p1;have z:=h.p2;have t:=bH;have cnt:∀x:Int,0<=x->x<=100000->Mc N x=some true:=λx a b=>by
  obtain⟨N,rfl⟩:∃m,N=m+1:=⟨N - 1,by omega⟩;rw[abw,dV a];simp[b]
 rw[XE,tw (by omega) h.job.ok,ob];simp only[aqv,aqi];rw[dN (by omega),dN (by omega),cnt d l o,ob];simp only[aqv,aqi];rw[cnt c p q,ob];simp only[aqv,aqi];have:=On h.job e (by omega) f d c e.length 0 [] [] (by omega) (λy j=>by rw[aq3]at j;exact j) h.short (by rw[aq3,aqZ];exact h.job.tr.nd) (λy=>by simp[bC]) N N (by omega) (by omega);rw[show((0:Nat):Int)=0 from rfl]at this;rw[this];rfl
def vM(P:Nat)(x:Int):Nat:=((x.tmod (P:Int)+(P:Int)).tmod (P:Int)).toNat
def QU{P:Nat}(f:1<=P)(x:Int):0<=x.tmod (P:Int)+(P:Int)/\x.tmod (P:Int)+(P:Int)<2*P/\vM P x<P/\(x.tmod (P:Int)+(P:Int)).tmod (P:Int)=((vM P x:Nat):Int):=by
 have b:=Int.tmod_lt_of_pos x (show(0:Int)<(P:Int) by omega);have c: -(P:Int)<x.tmod (P:Int):=by
  have:=Int.lt_tmod_of_pos x (show(0:Int)<(P:Int) by omega);omega
 have a:0<=x.tmod (P:Int)+(P:Int):=by omega
 have d:=Int.tmod_lt_of_pos (x.tmod (P:Int)+(P:Int)) (show(0:Int)<(P:Int) by omega);have e:=Int.tmod_nonneg (P:Int) a;unfold vM;omega
def adG{P k:Nat}(a:k<P):vM P (k:Int)=k:=by
 unfold vM;rw[yj,asz a,show((k:Nat):Int)+(P:Int)=((k+P:Nat):Int) by omega,yj,aqo,Nat.add_mod_right,asz a]
def HG{N:Nat}(g:1<=N){P:Nat}(b:1<=P)(i:P<=8)(x:Int)(s:List Tk)(s2:Int)(s3:List Bool)(s4:Bool)(s5 s6 s7 s8 s9:Int)(s10:Bool)(h:List (List Int))(c:h.length=P):
 Ml N (x,s,s2,s3,s4,s5,s6,s7,s8,s9,s10,h)=some (((vM P x:Nat):Int),h,s,s2,s3,s4,s5,s6,s7,s8,s9,s10):=by
 obtain⟨N,rfl⟩:∃m,N=m+1:=⟨N - 1,by omega⟩;obtain⟨d,e,f,a⟩:=QU b x;rw[abz,c,Jp (by omega),ob,gG (by omega) (by omega),Jp (by omega),ob,a]
def Yz{α:Type}{a:List α}{k:Nat}(b:k<=a.length):KL a 0 (k:Int) (k:Int)=some (a.take k):=by
 simp[KL,b]
section
variable(s:List Tk)(s2:Int)(s3:List Bool)(s4:Bool)(s5 s6 s7 s8 s9:Int)(s10:Bool)
def YA{N:Nat}(g:1<=N){a:List (List Int)}{p v:Nat}{A B:List Int}{x:Int}(c:a[p]? =some (A++[x]))(d:a[v]? =some B)(f:A.length<=200):
 AH N ((p:Int),(v:Int),s,s2,s3,s4,s5,s6,s7,s8,s9,s10,a)=some (true,a.set p A,s,s2,s3,s4,s5,s6,s7,(p:Int),x,s10):=by
 obtain⟨N,rfl⟩:∃m,N=m+1:=⟨N - 1,by omega⟩;have b:((A++[x]).length:Int) - 1=((A.length:Nat):Int):=by rw[aqy,aso];omega
 have e:(A++[x])[A.length]? =some x:=by simp
 rw[DR,ba c,ob,ob,ba d,ob,ob,b,gG (by omega) (by omega),dV (by omega),ba e,ob,Yz (by simp),ob,dV rfl,ob,ob,aqo];simp
def Oq{N:Nat}(f:1<=N){a:List (List Int)}{p v:Nat}{B:List Int}{x:Int}(c:a[p]? =some [])(d:a[v]? =some (x::B))(e:B.length<=200):
 AH N ((p:Int),(v:Int),s,s2,s3,s4,s5,s6,s7,s8,s9,s10,a)=some (true,a.set v B,s,s2,s3,s4,s5,s6,s7,(v:Int),x,s10):=by
 obtain⟨N,rfl⟩:∃m,N=m+1:=⟨N - 1,by omega⟩;have b:aZ (x::B) 0=some x:=rfl;rw[DR,ba c,ob,ob,ba d,ob,ob];rw[show((([]:List Int).length:Nat):Int) - 1= -1 from rfl,gG (by omega) (by omega),dN (by omega),dV (by rw[aqC];omega),b,ob,r7 (by omega) (by rw[aqC];omega),ob,ob,ob,aqo];rfl
def QV{N:Nat}(d:1<=N){a:List (List Int)}{p v:Nat}(b:a[p]? =some [])(c:a[v]? =some []):
 AH N ((p:Int),(v:Int),s,s2,s3,s4,s5,s6,s7,s8,s9,s10,a)=some (false,a,s,s2,s3,s4,s5,s6,s7,s8,s9,s10):=by
 obtain⟨N,rfl⟩:∃m,N=m+1:=⟨N - 1,by omega⟩;rw[DR,ba b,ob,ob,ba c,ob,ob];rw[show((([]:List Int).length:Nat):Int) - 1= -1 from rfl,gG (by omega) (by omega),dN (by omega),dN (by simp)]
end
abbrev Ev:=Int×Int×Int×Bool
def QW(ts:List Tk)(ev:Ev):List Int:=if ev.2.2.2=true\/ev.2.2.1<0 then []else HF ts ev.2.2.1
def ajW{n g P:Nat}{a:List Tk}{q:List Bool}{b:List (List Int)}{o:List Int}{x:Int}(h:yY n g a q (x::b.flatten) o)(A:b.length=P)(y:1<=P)(z:P<=8){p:Nat}{Q:List Int}(C:b[p]? =some Q)(W:Q.length<=200):
 ∃(d:List Tk) (f:List Bool) (r:List (List Int)) (E:Bool) (F:List Int) (par:Bool),Oo n g P d f r E F/\ly a d/\left g a (x::b.flatten)=left g d r.flatten+1/\0<=x/\x<(d.length:Int)/\F=o++(if par=true then []else HF d x)/\
  ∀(N:Nat) (l k w j:Int),Fu+6<=N->Mq N ((p:Int),a,(g:Int),q,false,l,k,w,j,x,false,b)=some (0,r,d,(g:Int),f,E,l,k,w,j,x,par):=by
 obtain⟨i,t,rfl,c,K⟩:=h.tr.lv x (by simp);obtain⟨S,U,V,_⟩:=h.tr.sh i t c;have H:=cH c;have X:=h.len;by_cases u:(g:Int)<t.2.1 - t.1
 ·obtain⟨j1,j2⟩:=h.ajV c (by omega) (show QQ t=_ from rfl)
  obtain⟨R,M,O⟩:=tG b p Q C;have v:((a.length:Int)::((a.length+1:Nat):Int)::b.flatten).Perm (b.set p (Q++[((a.length+1:Nat):Int),(a.length:Int)])).flatten:=by
   refine List.Perm.trans ?_ (O _).symm;rw[aqJ];refine List.Perm.trans ?_ (auS Q _ R).symm;refine(List.Perm.swap _ _ _).trans ?_;exact(M.cons _).cons _
  have j3:=j1.perm v;refine⟨part a i t (QQ t),q,b.set p (Q++[((a.length+1:Nat):Int),(a.length:Int)]),false,o,true,⟨j3,by rw[arE];exact A,y,z,⟨λe=>(by cases e),λe=>?_⟩⟩,ly.part c,?_,by omega,by rw[yD];omega,by simp,λN l k w j G=>?_⟩
  ·have:=v.length_eq
   rw[e]at this;simp at this
  ·rw[j2,zV v]
  ·obtain⟨N,rfl⟩:∃m,N=m+1:=⟨N - 1,by omega⟩
   rw[Mr,EY (by omega) h.ok c,ob,dV u,Cv (by omega) h.ok c K u,ob,dV rfl,ba C,ob,ob,agv (by omega),ob,cE (by omega) (by simp;omega),ob,ob,ob,aqo]
 ·obtain⟨L,d,f,j1,j2,D,I,J⟩:=amO h c (by omega)
  have B:ly a d:=D.2;refine⟨d,f,b,L,o++yX t.1 t.2.1,false,⟨j1,A,y,z,I⟩,B,j2,by omega,by rw[D.1];omega,?_,λN l k w j G=>?_⟩
  ·rw[aqc (by simp),B.un H,mn c]
  ·obtain⟨N,rfl⟩:∃m,N=m+1:=⟨N - 1,by omega⟩
   rw[Mr,EY (by omega) h.ok c,ob,dN u,J N (by omega),ob];rfl
def step_eq{n g P:Nat}{d:List Tk}{l:List Bool}{b:List (List Int)}{H:List Int}(h:Oo n g P d l b false H){st idl:Int}(h1:0<=st)(h2:st<100000)(h3:0<=idl)(h4:idl<100000)(p v:Int):
 ∃(e:List Tk) (q:List Bool) (k:List (List Int)) (o:Bool) (u:List Int) (t:Int) (f:Ev),Oo n g P e q k o u/\ly d e/\u=H++QW e f/\f.2.2.1<(e.length:Int)/\
  ((0<=f.2.2.1/\t=idl/\left g d b.flatten=left g e k.flatten+1)\/(f.2.2.1= -1/\t=idl+1/\e=d/\k=b/\o=false))/\
  (b[vM P p]? ≠some []->0<=f.2.2.1)/\
  ∀N,Fu+8<=N->zB N (d,(g:Int),l,b,false,st,idl,p,v)=some (0,e,(g:Int),q,k,o,st+1,t,f):=by
 have G:=h.pl;have z:=h.p1;have I:=h.p2;obtain⟨_,_,np,_⟩:=QU z p;obtain⟨_,_,nv,_⟩:=QU z v;obtain⟨own,r⟩:=get_at (xs:=b) (i:=vM P p) (by omega);obtain⟨U,C⟩:=get_at (xs:=b) (i:=vM P v) (by omega);have V:=h.short own (aqw r);have a3:=h.short U (aqw C);have S:∀N,Fu+7<=N->zB (N+1) (d,(g:Int),l,b,false,st,idl,p,v)=aW (AH N (((vM P p:Nat):Int),((vM P v:Nat):Int),d,(g:Int),l,false,st+1,idl,((vM P p:Nat):Int),-1,-1,false,b)) λc=>
  cond c.1
   (aW (Mq N (((vM P p:Nat):Int),(c.2.2.1,(c.2.2.2.1,(c.2.2.2.2.1,(c.2.2.2.2.2.1,(c.2.2.2.2.2.2.1,(c.2.2.2.2.2.2.2.1,(c.2.2.2.2.2.2.2.2.1,(c.2.2.2.2.2.2.2.2.2.1,(c.2.2.2.2.2.2.2.2.2.2.1,(c.2.2.2.2.2.2.2.2.2.2.2,c.2.1)))))))))))) λj=>
    cond (!(decide (j.1=(0:Int))))
     (some (j.1,(d,((g:Int),(l,(b,(false,(st,(idl,((0:Int),((0:Int),((0:Int),false))))))))))))
     (some ((0:Int),(j.2.2.1,(j.2.2.2.1,(j.2.2.2.2.1,(j.2.1,(j.2.2.2.2.2.1,(j.2.2.2.2.2.2.1,(j.2.2.2.2.2.2.2.1,(j.2.2.2.2.2.2.2.2.1,(j.2.2.2.2.2.2.2.2.2.1,(j.2.2.2.2.2.2.2.2.2.2.1,j.2.2.2.2.2.2.2.2.2.2.2)))))))))))))
   (cond (decide (c.2.2.2.2.2.2.2.1=(100000:Int)))
    (some ((2:Int),(d,((g:Int),(l,(b,(false,(st,(idl,((0:Int),((0:Int),((0:Int),false))))))))))))
    (some ((0:Int),(c.2.2.1,(c.2.2.2.1,(c.2.2.2.2.1,(c.2.1,(c.2.2.2.2.2.1,(c.2.2.2.2.2.2.1,((wrap .i64 (c.2.2.2.2.2.2.2.1+(1:Int))),(c.2.2.2.2.2.2.2.2.1,(c.2.2.2.2.2.2.2.2.2.1,(c.2.2.2.2.2.2.2.2.2.2.1,c.2.2.2.2.2.2.2.2.2.2.2))))))))))))):=λN F=>by
  rw[XH,Yy h h1 (by omega) h3 (by omega) (by omega),ob];simp only[aqv,aqi];rw[dN (by omega),Yx (by omega) b (by omega),ob,HG (by omega) z I p _ _ _ _ _ _ _ _ _ _ b G,ob,HG (by omega) z I v _ _ _ _ _ _ _ _ _ _ b G,ob];dsimp only;rw[gG (x:=st+1) (by omega) (by omega)]
 have L:∀(w:List (List Int)) (x E:Int),(x::w.flatten).Perm b.flatten->w.length=P->(∀N,Fu+7<=N->AH N (((vM P p:Nat):Int),((vM P v:Nat):Int),d,(g:Int),l,false,st+1,idl,((vM P p:Nat):Int),-1,-1,false,b)=some (true,w,d,(g:Int),l,false,st+1,idl,((vM P p:Nat):Int),E,x,false))->
  ∃(e:List Tk) (q:List Bool) (k:List (List Int)) (o:Bool) (u:List Int) (t:Int) (f:Ev),Oo n g P e q k o u/\ly d e/\u=H++QW e f/\f.2.2.1<(e.length:Int)/\
  ((0<=f.2.2.1/\t=idl/\left g d b.flatten=left g e k.flatten+1)\/(f.2.2.1= -1/\t=idl+1/\e=d/\k=b/\o=false))/\
  (b[vM P p]? ≠some []->0<=f.2.2.1)/\
  ∀N,Fu+8<=N->zB N (d,(g:Int),l,b,false,st,idl,p,v)=some (0,e,(g:Int),q,k,o,st+1,t,f):=by
  intro w x E J a1 hf;obtain⟨Q,O⟩:=get_at (xs:=w) (i:=vM P p) (by omega);have a0:Q.length<=200:=by
   obtain⟨R,D,_⟩:=tG w (vM P p) Q O;have e1:=D.length_eq;have e2:=J.length_eq;have e3:=h.job.held;rw[aqy]at e1;rw[aqC]at e2;omega
  obtain⟨e,q,k,o,u,par,W,X,Y,M,Z,c6,c7⟩:=ajW (h.job.perm J.symm) a1 z I O a0;refine⟨e,q,k,o,u,idl,(((vM P p:Nat):Int),E,x,par),W,X,?_,Z,.inl ⟨M,rfl,by rw[<-Y];exact zV J.symm⟩,λ_=>M,λN F=>?_⟩
  ·rw[c6]
   unfold QW;have:¬x<0:=by omega
   cases par<;>simp[this]
  ·obtain⟨N,rfl⟩:∃m,N=m+1:=⟨N - 1,by omega⟩
   rw[S N (by omega),hf N (by omega),ob];simp only[aqE];rw[c7 N (st+1) idl _ E (by omega),ob,yV rfl]
 rcases avj own with rfl|⟨A,x,rfl⟩
 ·cases U with
  |nil=>
   refine⟨d,l,b,false,H,idl+1,(((vM P p:Nat):Int),-1,-1,false),h,ly.refl d,by simp[QW],by show(-1:Int)<_;omega,.inr ⟨rfl,rfl,rfl,rfl,rfl⟩,λa2=>absurd r a2,λN F=>?_⟩;obtain⟨N,rfl⟩:∃m,N=m+1:=⟨N - 1,by omega⟩;rw[S N (by omega),QV _ _ _ _ _ _ _ _ _ _ (by omega) r C,ob];simp only[aqi];rw[dN (by omega),gG (by omega) (by omega)]
  |cons y B=>
   obtain⟨R,D,K⟩:=tG b (vM P v) (y::B) C;refine L (b.set (vM P v) B) y ((vM P v:Nat):Int) (((K B).cons y).trans D.symm) (by rw[arE];exact G) λN F=>?_;exact Oq _ _ _ _ _ _ _ _ _ _ (by omega) r C (by rw[aqC]at a3;omega)
 ·rw[avk]at r V
  obtain⟨R,D,K⟩:=tG b (vM P p) (A++[x]) r;refine L (b.set (vM P p) A) x ((vM P p:Nat):Int) ?_ (by rw[arE];exact G) λN F=>?_
  ·refine((K A).cons x).trans (List.Perm.trans ?_ D.symm)
   rw[aqJ];exact(List.perm_middle (a:=x) (l₁:=A) (l₂:=R)).symm
  ·exact YA _ _ _ _ _ _ _ _ _ _ (by omega) r C (by rw[aqy]at V;omega)
structure yF where
 ts:List Tk
 dn:List Bool
 dq:List (List Int)
 ov:Bool
 idl:Int
 oJ:List Ev
abbrev DT:=List Tk×Int×List Bool×List (List Int)×Bool×Int×Int×List Ev
def yF.arg(s:yF)(g:Nat):DT:=(s.ts,(g:Int),s.dn,s.dq,s.ov,((s.oJ.length:Nat):Int),s.idl,s.oJ)
def Ot(oJ:List Ev):Nat:=oJ.countP λev=>decide (0<=ev.2.2.1)
structure qu(n g P:Nat)(s:yF):Prop where
 cr:Oo n g P s.ts s.dn s.dq s.ov (s.oJ.flatMap (QW s.ts))
 ev:∀ev∈s.oJ,ev.2.2.1<(s.ts.length:Int)
 did:Ot s.oJ+left g s.ts s.dq.flatten=tn g n
 idl:s.idl=((s.oJ.length:Nat):Int) - ((Ot s.oJ:Nat):Int)
def agx(a:List Ev):Ot a<=a.length:=atx
def adH{b c:List Tk}(h:ly b c){a:Ev}(e:a.2.2.1<(b.length:Int)):QW c a=QW b a:=by
 unfold QW;split
 ·rfl
 ·rename_i f
  obtain⟨k,d⟩:∃k:Nat,a.2.2.1=(k:Int):=⟨a.2.2.1.toNat,by omega⟩;rw[d];exact h.un (by omega)
def ahM{n g P:Nat}{s:yF}(h:qu n g P s)(F:s.ov=false)(R:s.oJ.length<100000)(p v:Int):
 ∃b:yF,qu n g P b/\b.oJ.length=s.oJ.length+1/\(left g b.ts b.dq.flatten<left g s.ts s.dq.flatten\/(b.dq=s.dq/\b.ts=s.ts/\b.ov=false/\s.dq[vM P p]? =some []))/\
  ∀N,Fu+9<=N->Ms N (p,v,s.arg g)=some ((0:Int),b.arg g):=by
 obtain⟨q,dn,L,ov,W,f⟩:=s;obtain⟨D,w,O,Q⟩:=h;simp only at F R D w O Q;subst F;have a0:=agx f;obtain⟨x,K,M,Y,Z,X,k,G,z,H,I,r,A,J⟩:=step_eq D (st:=((f.length:Nat):Int)) (idl:=W) (by omega) (by omega) (by omega) (by omega) p v;have V:Z=(f++[k]).flatMap (QW x):=by
  rw[H,auT,List.flatMap_singleton];refine aqr (·++_) ?_;rw[at0,at0,aq6 λe a=>adH z (w e a)]
 have a1:q.length<=x.length:=by
  by_cases B:q.length=0
  ·omega
  ·obtain⟨t,S⟩:=get_at (xs:=q) (i:=q.length - 1) (by omega)
   obtain⟨t',U,_⟩:=z _ t S;have:=cH U;omega
 have C:Ot (f++[k])=Ot f+(if 0<=k.2.2.1 then 1 else 0):=by
  unfold Ot;rw[as1,auR];by_cases B:0<=k.2.2.1<;>simp[B]
 refine⟨⟨x,K,M,Y,X,f++[k]⟩,⟨by simp only;rw[<-V];exact G,λe a=>?_,?_,?_⟩,by simp,?_,λN hN=>?_⟩
 ·simp only at a⊢
  rcases aqp.1 a with a|a
  ·have:=w e a;omega
  ·rw[aqB.1 a];exact I
 ·simp only
  rw[C];rcases r with⟨c,j,d⟩|⟨c,j,d,o,u⟩
  ·rw[aqd c];omega
  ·rw[aqc (by omega),d,o];omega
 ·simp only
  rw[C,aqy,aso];rcases r with⟨c,j,d⟩|⟨c,j,d,o,u⟩
  ·rw[aqd c];omega
  ·rw[aqc (by omega)];omega
 ·simp only
  rcases r with⟨c,j,d⟩|⟨c,j,d,o,u⟩
  ·left;omega
  ·right
   refine⟨o,d,u,?_⟩;cases E:L[vM P p]? with
   |none=>
    have:=A (by rw[E];simp);omega
   |some l=>
    cases l with
    |nil=>rfl
    |cons y l=>
     have:=A (by rw[E];simp);omega
 ·obtain⟨N,rfl⟩:∃m,N=m+1:=⟨N - 1,by omega⟩
  simp only[yF.arg];rw[abG,J N (by omega),ob,dV rfl,cE (by omega) (by simp;omega),ob,aqy,aso];rfl
def EZ{n g P:Nat}(f:List (Int×Int))(w:f.length<=200)(a:Int)(b:Bool)(c d:Int):∀(k i:Nat) (s:yF),i+k=f.length->qu n g P s->s.oJ.length+k<100000->
 ∃p:yF,qu n g P p/\p.oJ.length<=s.oJ.length+k/\∀N m,Fu+9<=N->k<m->xr N m (f,((f.length:Nat):Int),(i:Int),a,b,c,d,s.arg g)=some (.inl (a,b,c,d,p.arg g))
 |0,i,s,v,o,u=>⟨s,o,by omega,λN m j r=>by
  obtain⟨m,rfl⟩:∃h,m=h+1:=⟨m - 1,by omega⟩;simp only[yF.arg];rw[zC,dN (by omega)]⟩
 |k+1,i,s,v,o,u=>by
  obtain⟨x,t⟩:=get_at (xs:=f) (i:=i) (by omega);cases l:s.ov with
  |true=>
   refine⟨s,o,by omega,λN m j r=>?_⟩;obtain⟨m,rfl⟩:∃h,m=h+1:=⟨m - 1,by omega⟩;simp only[yF.arg];rw[zC,dV (by omega),ba t,ob,l];rfl
  |false=>
   obtain⟨C,y,D,_,z⟩:=ahM o l (by omega) x.1 x.2;obtain⟨s2,A,E,B⟩:=EZ f w a b c d k (i+1) C (by omega) y (by omega);refine⟨s2,A,by omega,λN m j r=>?_⟩;obtain⟨m,rfl⟩:∃h,m=h+1:=⟨m - 1,by omega⟩;have e:=z N j;have q:=B N m j (by omega);simp only[yF.arg]at e q⊢;rw[zC,dV (by omega),ba t,ob,l];simp only[aqi];rw[l]at e;rw[e,ob,yV rfl,cn (by omega)];exact q
def HH(a:List (List Int))(e:a.length<=8)(d:∀l∈a,l.length<=200):∀(k i:Nat) (x:Nat),i+k=a.length->x<=200*i->∀N m,k<m->
 xq N m ((x:Int),a,((a.length:Nat):Int),(i:Int))=some (((x+(a.drop i).flatten.length:Nat)):Int)
 |0,i,x,f,h,N,m,g=>by
  obtain⟨m,rfl⟩:∃c,m=c+1:=⟨m - 1,by omega⟩;rw[DV,dN (by omega),arb (by omega)];rfl
 |k+1,i,x,f,h,N,m,g=>by
  obtain⟨m,rfl⟩:∃c,m=c+1:=⟨m - 1,by omega⟩;obtain⟨l,b⟩:=get_at (xs:=a) (i:=i) (by omega);have j:=d l (aqw b);rw[DV,dV (by omega),ba b,ob,gG (by omega) (by omega),cn (by omega),show(x:Int)+((l.length:Nat):Int)=((x+l.length:Nat):Int) by omega,HH a e d k (i+1) (x+l.length) (by omega) (by omega) N m (by omega),cY b,aqR,aqy];simp only[aqg];omega
def agy{n g P:Nat}{s:yF}(h:qu n g P s){N:Nat}(e:Fu+1<=N)(c a:Int)(b:Bool):I5 N (s.ts,(g:Int),s.dn,s.dq,b,c,a)=some ((s.dq.flatten.length:Nat):Int):=by
 obtain⟨N,rfl⟩:∃m,N=m+1:=⟨N - 1,by omega⟩;have d:=bH;have f:=h.cr.pl;have i:=h.cr.p2;have:=HH s.dq (by omega) h.cr.short s.dq.length 0 0 (by omega) (by omega) N N (by omega);rw[XI];rw[show((0:Nat):Int)=0 from rfl]at this;rw[this,ob,aq3,aqN]
def E1{n g P:Nat}(r:Int)(l:Nat):∀(j k:Nat) (s:yF),k+j=P->qu n g P s->s.oJ.length+j<100000->((∃q,k<=q/\q<P/\s.dq[q]? ≠some [])\/left g s.ts s.dq.flatten<l)->left g s.ts s.dq.flatten<=l->
 ∃b:yF,qu n g P b/\b.oJ.length<=s.oJ.length+j/\
  ((b.ov=true/\(s.ov=true->b=s)/\∀N m,Fu+10<=N->j<m->pn N m (r,(P:Int),(k:Int),s.arg g)=some (.inr ((0:Int),b.arg g)))\/
   (left g b.ts b.dq.flatten<l/\(0<j->s.ov=false)/\∀N m,Fu+10<=N->j<m->pn N m (r,(P:Int),(k:Int),s.arg g)=some (.inl (r,b.arg g))))
 |0,k,s,H,d,G,c,A=>⟨s,d,by omega,.inr ⟨by
  rcases c with⟨q,B,J,_⟩|c
  ·omega
  ·exact c,λh=>by omega,λN m a w=>by
  obtain⟨m,rfl⟩:∃f,m=f+1:=⟨m - 1,by omega⟩;simp only[yF.arg];rw[om,dN (by omega)]⟩⟩
 |j+1,k,s,H,d,G,c,A=>by
  have R:=d.cr.p2;cases o:s.ov with
  |true=>
   refine⟨s,d,by omega,.inl ⟨o,λ_=>rfl,λN m a w=>?_⟩⟩;obtain⟨m,rfl⟩:∃f,m=f+1:=⟨m - 1,by omega⟩;simp only[yF.arg];rw[om,dV (by omega),o];rfl
  |false=>
   have I:s.dq.flatten≠[]:=λe=>by
    have:=d.cr.ovr.2 e;rw[o]at this;cases this
   have Q:0<s.dq.flatten.length:=ar0.2 I;obtain⟨i,B,J,t,K⟩:=ahM d o (by omega) (k:Int) (wrap .i64 ((wrap .i64 ((k:Int)+(1:Int)))+r));have E:(∃q,k+1<=q/\q<P/\i.dq[q]? ≠some [])\/left g i.ts i.dq.flatten<l:=by
    rcases t with t|⟨p,u,D,v⟩
    ·right;omega
    ·rw[adG (by omega)]at v
     rcases c with⟨q,O,C,z⟩|c
     ·have:q≠k:=λe=>z (e▸v)
      exact .inl ⟨q,by omega,C,by rw[p];exact z⟩
     ·right;rw[p,u];exact c
   have F:left g i.ts i.dq.flatten<=l:=by
    rcases t with t|⟨p,u,D,v⟩
    ·omega
    ·rw[p,u];exact A
   have step:∀N m,Fu+10<=N->pn N (m+1) (r,(P:Int),(k:Int),s.arg g)=pn N m (r,(P:Int),((k+1:Nat):Int),i.arg g):=λN m a=>by
    have e:=K N (by omega);have e0:=agy d (N:=N) (by omega) ((s.oJ.length:Nat):Int) s.idl false;simp only[yF.arg]at e⊢;rw[o]at e;rw[om,dV (by omega),o];simp only[aqi];rw[e0,ob,dN (by omega),e,ob,yV rfl,cn (by omega)]
   obtain⟨s2,L,S,M⟩:=E1 r l j (k+1) i (by omega) B (by omega) E F;refine⟨s2,L,by omega,?_⟩;rcases M with⟨x,_,y⟩|⟨x,_,y⟩
   ·refine .inl ⟨x,λe=>(by cases e),λN m a w=>?_⟩
    obtain⟨m,rfl⟩:∃f,m=f+1:=⟨m - 1,by omega⟩;rw[step N m a];exact y N m a (by omega)
   ·refine .inr ⟨x,λ_=>rfl,λN m a w=>?_⟩
    obtain⟨m,rfl⟩:∃f,m=f+1:=⟨m - 1,by omega⟩;rw[step N m a];exact y N m a (by omega)
def Ou{n g P:Nat}:∀(R:Nat) (r:Int) (s:yF),qu n g P s->left g s.ts s.dq.flatten<=R->s.oJ.length+P*R+P<100000->
 ∃i:yF,qu n g P i/\i.ov=true/\i.oJ.length<=s.oJ.length+P*left g s.ts s.dq.flatten/\∀N m,Fu+10<=N->R<m->B8 N m (r,s.arg g)=some ((0:Int),i.arg g):=by
 intro R
 induction R with
 |zero=>
  intro r s a z A;have y:s.dq.flatten=[]:=by
   have:=a.cr.job.len.2.1;exact auI.1 (by omega)
  have f:=a.cr.ovr.2 y;have D:=a.cr.p1;have E:=a.cr.p2;refine⟨s,a,f,by omega,λN m d k=>?_⟩;obtain⟨m,rfl⟩:∃b,m=b+1:=⟨m - 1,by omega⟩;obtain⟨w,rfl⟩:∃b,N=b+1:=⟨N - 1,by omega⟩;simp only[yF.arg];rw[tj,a.cr.pl,om,dV (by omega),f];rfl
 |succ R H=>
  intro r s a z A;have D:=a.cr.p1;have E:=a.cr.p2;have U:P*(R+1)=P*R+P:=Nat.mul_succ P R;have M:=bH;cases f:s.ov with
  |true=>
   refine⟨s,a,f,by omega,λN m d k=>?_⟩;obtain⟨m,rfl⟩:∃b,m=b+1:=⟨m - 1,by omega⟩;obtain⟨w,rfl⟩:∃b,N=b+1:=⟨N - 1,by omega⟩;simp only[yF.arg];rw[tj,a.cr.pl,om,dV (by omega),f];rfl
  |false=>
   have t:s.dq.flatten≠[]:=λe=>by
    have:=a.cr.ovr.2 e;rw[f]at this;cases this
   have h:∃q,0<=q/\q<P/\s.dq[q]? ≠some []:=by
    obtain⟨x,F⟩:=ath _ t;obtain⟨l,C,G⟩:=ase.1 F;obtain⟨q,h⟩:=atU C;refine⟨q,aqI _,by rw[<-a.cr.pl];exact cH h,λe=>?_⟩;rw[h]at e;cases e;cases G
   have Q:1<=left g s.ts s.dq.flatten:=by
    have:=a.cr.job.len.2.1;have:=ar0.2 t;omega
   obtain⟨j,u,V,I⟩:=E1 r (left g s.ts s.dq.flatten) P 0 s (by omega) a (by omega) (.inl h) (aqf _);obtain⟨c,B⟩:∃c,left g s.ts s.dq.flatten=c+1:=⟨left g s.ts s.dq.flatten - 1,by omega⟩;have S:P*left g s.ts s.dq.flatten=P*c+P:=by rw[B];exact Nat.mul_succ P c
   rcases I with⟨v,_,o⟩|⟨v,_,o⟩
   ·refine⟨j,u,v,by omega,λN m d k=>?_⟩
    obtain⟨m,rfl⟩:∃b,m=b+1:=⟨m - 1,by omega⟩;have e:=o N N d (by omega);simp only[yF.arg]at e⊢;rw[show((0:Nat):Int)=0 from rfl]at e;rw[tj,a.cr.pl,e,ob]
   ·obtain⟨s2,J,K,W,L⟩:=H (wrap .i64 (r+(1:Int))) j u (by omega) (by omega)
    have O:P*left g j.ts j.dq.flatten<=P*c:=ar8 P (by omega);refine⟨s2,J,K,by omega,λN m d k=>?_⟩;obtain⟨m,rfl⟩:∃b,m=b+1:=⟨m - 1,by omega⟩;have e:=o N N d (by omega);have p:=L N m d (by omega);simp only[yF.arg]at e p⊢;rw[show((0:Nat):Int)=0 from rfl]at e;rw[tj,a.cr.pl,e,ob];exact p
def iE(n P:Nat):yF:=⟨[((0:Int),(n:Int),(-1:Int),(0:Int))],List.replicate n false,(List.replicate P ([]:List Int)).set 0 [0],false,0,[]⟩
def QX{P:Nat}(a:1<=P):((List.replicate P ([]:List Int)).set 0 [0]).flatten=[0]:=by
 obtain⟨P,rfl⟩:∃q,P=q+1:=⟨P - 1,by omega⟩;rw[arK,atm,aqR,List.flatten_replicate_nil];rfl
def QY{n g P:Nat}(b:1<=n)(c:n<=60)(d:1<=g)(e:g<=8)(f:1<=P)(h:P<=8):qu n g P (iE n P):=by
 have a:=QX f;refine⟨⟨?_,by simp[iE],f,h,?_⟩,λj i=>(by simp[iE]at i),?_,by simp[iE,Ot]⟩
 ·simp only[iE,a,atY]
  exact yY.first b c d e
 ·simp only[iE,a];simp
 ·have:=(yY.first (g:=g) b c d e).nb
  simp only[iE,a,Ot,List.countP_nil];simp only[aqC,aq5]at this;omega
def adI{n g P:Nat}(b:1<=n)(c:n<=60)(d:1<=g)(e:g<=8)(h:1<=P)(i:P<=8){N:Nat}(j:3<=N):
 I0 N ((n:Int),(g:Int),(P:Int))=some ((0:Int),(iE n P).ts,(g:Int),(iE n P).dn,(iE n P).dq,false,0,0):=by
 obtain⟨N,rfl⟩:∃m,N=m+1:=⟨N - 1,by omega⟩;have f:IZ N ((n:Int),(g:Int))=some ((0:Int),[((0:Int),(n:Int),(-1:Int),(0:Int))],(g:Int),List.replicate n false):=by
  obtain⟨N,rfl⟩:∃m,N=m+1:=⟨N - 1,by omega⟩;rw[Xx,EU (by omega) b c d e,ob];simp only[aqv,aqi];rw[mf (by omega) (by omega) (by omega),ob,aqo]
 have a:aZ (List.replicate P ([]:List Int)) 0=some []:=by
  obtain⟨P,rfl⟩:∃q,P=q+1:=⟨P - 1,by omega⟩;rfl
 rw[Xy,dN (by omega),dN (by omega),f,ob,yV rfl,mf (by omega) (by omega) (by omega),ob,aqo,a,ob,ob];rfl
def adJ{n g P:Nat}(c:1<=n)(j:n<=60)(d:1<=g)(k:g<=8)(l:1<=P)(e:P<=8)(a:List (Int×Int))(w:a.length<=200):
 ∃s:yF,qu n g P s/\s.ov=true/\s.oJ.length<=a.length+P*tn g n/\∀N,Fu+12<=N->Mx N ((n:Int),(g:Int),(P:Int),a)=some ((0:Int),s.arg g):=by
 have z:=bH;have v:=QY c j d k l e;obtain⟨b,f,x,p⟩:=EZ (g:=g) a w 0 false 0 0 a.length 0 (iE n P) (by omega) v (by simp[iE];omega);have E:=Ol d n n (aqf _) c;have o:left g b.ts b.dq.flatten<=tn g n:=by have:=f.did;omega
 have C:P*left g b.ts b.dq.flatten<=P*tn g n:=ar8 P o;have D:P*tn g n<=8*119:=arO e (by omega);have B:(iE n P).oJ.length=0:=rfl;obtain⟨s2,q,r,y,t⟩:=Ou (tn g n) 0 b f o (by omega);refine⟨s2,q,r,by omega,λN A=>?_⟩;obtain⟨N,rfl⟩:∃m,N=m+1:=⟨N - 1,by omega⟩;have h:=p N N (by omega) (by omega);rw[abJ,adI c j d k l e (by omega),ob,yV rfl];rw[show((0:Nat):Int)=0 from rfl]at h;have u:xr N N (a,((a.length:Nat):Int),0,0,false,0,0,(iE n P).ts,(g:Int),(iE n P).dn,(iE n P).dq,false,0,0,[])=some (.inl (0,false,0,0,b.arg g)):=h;simp only;rw[u,ob];obtain⟨N,rfl⟩:∃m,N=m+1:=⟨N - 1,by omega⟩;have i:=t N N (by omega) (by omega);simp only[yF.arg]at i⊢;rw[abI,i,ob,ob]
def adK{a b:Int}(h:a<b):yX a b=a::yX (a+1) b:=by
 rw[<-VS (a:=a) (m:=a+1) (b:=b) (by omega) (by omega)];have:yX a (a+1)=[a]:=by
  unfold yX;rw[show(a+1 - a).toNat=1 by omega];simp
 rw[this];rfl
def agz{a b:Int}(h:b<=a):yX a b=[]:=by
 unfold yX;rw[show(b - a).toNat=0 by omega];rfl
def VU(a b:Int):(yX a b).length=(b - a).toNat:=by simp[yX]
def HI(ts:List Tk)(ev:Ev):List (Int×Int):=if ev.2.2.2=true\/ev.2.2.1<0 then []else match ts[ev.2.2.1.toNat]? with
 |some t=>[(t.1,t.2.1)]
 |none=>[]
def YB(b:List Tk)(a:Ev):(HI b a).flatMap (λs=>yX s.1 s.2)=QW b a:=by
 unfold HI QW;split
 ·rfl
 ·unfold HF
  cases c:b[a.2.2.1.toNat]? with
  |some t=>simp
  |none=>rfl
def Bc(c:List Tk)(g:Int)(n:List Bool)(o:List (List Int))(v:Bool)(w u:Int)(b:List Ev)(z:b.length<=100000)(p:∀a∈b,a.2.2.1<(c.length:Int)):∀(k i:Nat) (d:List (Int×Int)),i+k=b.length->d.length<=i->∀N m,k<m->
 pw N m (b,((b.length:Nat):Int),(i:Int),c,g,n,o,v,w,u,d)=some (d++(b.drop i).flatMap (HI c))
 |0,i,d,y,B,N,m,A=>by
  obtain⟨m,rfl⟩:∃l,m=l+1:=⟨m - 1,by omega⟩;rw[GQ,dN (by omega),arb (by omega)];simp
 |k+1,i,d,y,B,N,m,A=>by
  obtain⟨m,rfl⟩:∃l,m=l+1:=⟨m - 1,by omega⟩;obtain⟨a,h⟩:=get_at (xs:=b) (i:=i) (by omega);have E:=p a (aqw h);have j:=λD C=>Bc c g n o v w u b z p k (i+1) D (by omega) C N m (by omega);rw[GQ,dV (by omega),ba h,ob,cb,cn (by omega),cY h,aqO];by_cases f:a.2.2.2=true
  ·rw[aqd f,j d (by omega)]
   have:HI c a=[]:=by unfold HI;rw[aqd (.inl f)]
   rw[this];rfl
  ·rw[aqc f,cd]
   by_cases e:a.2.2.1<0
   ·rw[aqd e,j d (by omega)]
    have:HI c a=[]:=by unfold HI;rw[aqd (.inr e)]
    rw[this];rfl
   ·rw[aqc e,dN (by omega)]
    obtain⟨x,r⟩:∃x:Nat,a.2.2.1=(x:Int):=⟨a.2.2.1.toNat,by omega⟩;obtain⟨t,q⟩:=get_at (xs:=c) (i:=x) (by omega);rw[r,ba q,ob,cE (by omega) (by simp;omega),ob,j _ (by rw[aqy,aso];omega)];have:HI c a=[(t.1,t.2.1)]:=by
     unfold HI;rw[aqc (by simp[f,e]),r,aqo,q]
    rw[this,aqJ]
def Bd(a b:Int)(l:List Ev)(s s2:Int)(v:List (Int×Int))(f:0<=s)(g:s2<=60)(c:Nat)(h:s+(c:Int)=s2):∀(k j:Nat) (d:List Int),j+k=c->d.length+k<=1000->∀N m,k<m->
 xt N m (a,b,(c:Int),(j:Int),l,d,s,s2,v)=some (a,b,l,d++yX (s+(j:Int)) s2,v)
 |0,j,d,i,o,N,m,n=>by
  obtain⟨m,rfl⟩:∃e,m=e+1:=⟨m - 1,by omega⟩;rw[DW,dN (by omega),agz (by omega),aqV]
 |k+1,j,d,i,o,N,m,n=>by
  obtain⟨m,rfl⟩:∃e,m=e+1:=⟨m - 1,by omega⟩;rw[DW,dV (by omega),gG (x:=s+(j:Int)) (by omega) (by omega),cE (by omega) (by simp;omega),ob,cn (by omega),
   Bd a b l s s2 v f g c h k (j+1) _ (by omega) (by rw[aqy,aso];omega) N m (by omega),adK (a:=s+(j:Int)) (by omega),aqJ]
  rw[show s+((j+1:Nat):Int)=s+(j:Int)+1 by omega];rfl
def Be(l:List Ev)(v:List (Int×Int))(r:v.length<=100000)(g:∀s∈v,0<=s.1/\s.1<=s.2/\s.2<=60):∀(k i:Nat) (a:List Int),i+k=v.length->a.length+((v.drop i).flatMap λs=>yX s.1 s.2).length<=1000->∀N m,Fu<=N->k<m->
 xu N m (((v.length:Nat):Int),(i:Int),l,a,v)=some (l,a++(v.drop i).flatMap λs=>yX s.1 s.2)
 |0,i,a,p,h,N,m,f,q=>by
  obtain⟨m,rfl⟩:∃d,m=d+1:=⟨m - 1,by omega⟩;rw[DX,dN (by omega),arb (by omega)];simp
 |k+1,i,a,p,h,N,m,f,q=>by
  obtain⟨m,rfl⟩:∃d,m=d+1:=⟨m - 1,by omega⟩;obtain⟨s,b⟩:=get_at (xs:=v) (i:=i) (by omega);obtain⟨j,t,n⟩:=g s (aqw b);rw[cY b,aqO,aqy,VU]at h;obtain⟨c,o⟩:∃c:Nat,s.2 - s.1=(c:Int):=⟨(s.2 - s.1).toNat,by omega⟩;have u:=bH;have e:=Bd ((v.length:Nat):Int) (i:Int) l s.1 s.2 v j n c (by omega) c 0 a (by omega) (by omega) N N (by omega);rw[show((0:Nat):Int)=0 from rfl,Int.add_zero]at e;rw[DX,dV (by omega),ba b,ob,ob,gG (by omega) (by omega),o,e,ob];dsimp only;rw[cn (by omega),Be l v r g k (i+1) _ (by omega) (by rw[aqy,VU];omega) N m f (by omega),cY b,aqO,aqJ]
def adL{n g P:Nat}(y:1<=n)(z:n<=60)(A:1<=g)(B:g<=8)(C:1<=P)(D:P<=8){d:List (Int×Int)}(G:d.length<=200){s:yF}(f:qu n g P s)(o:s.oJ.length<=100000)(v:∀N,Fu+12<=N->Mx N ((n:Int),(g:Int),(P:Int),d)=some ((0:Int),s.arg g)){N:Nat}(F:Fu+13<=N):
 jX N ((n:Int),(g:Int),(P:Int),d)=some (((s.oJ.length:Nat):Int),0,s.oJ.flatMap (QW s.ts)):=by
 obtain⟨N,rfl⟩:∃m,N=m+1:=⟨N - 1,by omega⟩;have E:=bH;have l:IY N ((g:Int),(P:Int),d)=some true:=by
  obtain⟨N,rfl⟩:∃m,N=m+1:=⟨N - 1,by omega⟩;rw[GO,dV (by omega),dV (by omega),dV (by omega),dV (by omega)];simp only[aqg,ard];omega
 have h:T7 N (s.arg g)=some (s.oJ.flatMap (HI s.ts)):=by
  obtain⟨N,rfl⟩:∃m,N=m+1:=⟨N - 1,by omega⟩;have:=Bc s.ts (g:Int) s.dn s.dq s.ov ((s.oJ.length:Nat):Int) s.idl s.oJ o f.ev s.oJ.length 0 [] (by omega) (by simp) N N (by omega);rw[show((0:Nat):Int)=0 from rfl,aq3,aqZ]at this;simp only[yF.arg];rw[abK,this,ob]
 have j:(s.oJ.flatMap (HI s.ts)).flatMap (λq=>yX q.1 q.2)=s.oJ.flatMap (QW s.ts):=by
  rw[List.flatMap_assoc];rw[show(λb=>(HI s.ts b).flatMap λq=>yX q.1 q.2)=QW s.ts from funext λb=>YB s.ts b]
 have H:(s.oJ.flatMap (QW s.ts)).length<=60:=by
  have:=f.cr.job.pu.length_eq;rw[aqy]at this;have e:(si n).length=n:=by simp[si]
  omega
 have r:(s.oJ.flatMap (HI s.ts)).length<=100000:=by
  have:∀c:List Ev,(c.flatMap (HI s.ts)).length<=c.length:=λc=>by
   induction c with
   |nil=>simp
   |cons b c I=>
    have:(HI s.ts b).length<=1:=by
     unfold HI;split
     ·simp
     ·split<;>simp
    rw[aqO,aqy,aqC];omega
  have:=this s.oJ;omega
 have p:∀q∈s.oJ.flatMap (HI s.ts),0<=q.1/\q.1<=q.2/\q.2<=60:=λq a=>by
  obtain⟨b,_,a⟩:=arz.1 a;unfold HI at a;split at a
  ·cases a
  ·split at a
   ·rename_i t u
    rw[aqB.1 a];obtain⟨k,w,x,_⟩:=f.cr.job.tr.sh _ t u;exact⟨k,by omega,by show t.2.1<=60;omega⟩
   ·cases a
 have i:=Be s.oJ (s.oJ.flatMap (HI s.ts)) r p (s.oJ.flatMap (HI s.ts)).length 0 [] (by omega) (by rw[aq3,j,aq5,aqN];omega) N N (by omega) (by omega);rw[show((0:Nat):Int)=0 from rfl,aq3,aqZ,j]at i;have e:=v N (by omega);simp only[yF.arg]at e h;rw[GU,dN (by omega),dN (by omega),l,ob];simp only[aqv,aqi];rw[dN (by omega),e,ob,yV rfl,h,ob,i,ob]
end Go.Proofs.YtmdbmigbihboaaaGreatDoor.Sp
namespace Go.Proofs.YtmdbmigbihboaaaGreatDoor
variable{a d:Nat}{e:Type}
section
open Go Go.RowKit Go.Sort
def adM{s:List e}{x:e}(h:a<s.length):(s.set a x).take (a+1)=s.take a++[x]:=by
 rw[atA,List.set_eq_take_append_cons_drop];simp[h,arB (Nat.le_of_lt h),asw,aq0];omega
def set_drop{s:List e}{x:e}(h:a<d):(s.set a x).drop d=s.drop d:=by
 rw[List.drop_set,aqd h]
def yG{α β:Type}{F:Nat->Int->Int->List α->Option β}{keep:α->Bool}{fin:Int->List α->β}(p:∀m i j s,F (m+1) i j s=if j<((s.length:Nat):Int)then(aW (aZ s j) λx=>if keep x=true then(aW (aZ s i) λ_=>F m (wrap .i64 (i+1)) (wrap .i64 (j+1)) (s.set i.toNat x))else F m i (wrap .i64 (j+1)) s)else some (fin i s)){a:List α}(r:a.length<=100000):
 ∀(d m i j:Nat) (s:List α),a.length - j<=d->d<m->j<=a.length->i<=j->s.length=a.length->s.take i=(a.take j).filter keep->s.drop j=a.drop j->∃(k:Nat) (g:List α),F m (i:Int) (j:Int) s=some (fin (k:Int) g)/\k<=g.length/\g.length=a.length/\g.take k=a.filter keep
 |d,0,_,_,_,_,h,_,_,_,_,_=>absurd h (by omega)
 |d,m+1,i,j,s,u,v,w,z,n,o,b=>by
  rw[p];by_cases c:j<a.length
  ·obtain⟨x,e⟩:=get_at (xs:=a) (i:=j) c
   have q:s[j]? =some x:=by
    have:=aqr (λl:List α=>l[0]?) b;simpa[e]using this
   rw[aqd (by omega),ba q,ob];by_cases f:keep x=true
   ·obtain⟨y,t⟩:=get_at (xs:=s) (i:=i) (by omega)
    rw[aqd f,ba t,ob,cn (by omega),cn (by omega),aqo];refine yG p r (d - 1) m (i+1) (j+1) _ (by omega) (by omega) (by omega) (by omega) (by rw[arE];exact n) ?_ ?_
    ·rw[cG e,asF,<-o,adM (by omega)]
     simp[f]
    ·rw[set_drop (by omega)]
     rw[cY q,cY e]at b;exact(auM b).2
   ·rw[aqc f,cn (by omega)]
    refine yG p r (d - 1) m i (j+1) s (by omega) (by omega) (by omega) (by omega) n ?_ ?_
    ·rw[cG e,asF,o,List.filter_cons_of_neg f];simp
    ·rw[cY q,cY e]at b
     exact(auM b).2
  ·rw[aqc (by omega)]
   refine⟨i,s,rfl,by omega,n,?_⟩;rw[o,aqQ (by omega)]
def VV{α β:Type}{s:List α}(i:a<=s.length)(d:s≠[])(z:α)(g:List α->Option β):cond (((true && true) && true) && (!(lX s))) (aW (jf s (a:Int) ((s.length:Nat):Int)) λ_=>aW (WM s (a:Int) (((s.length:Nat):Int) - (a:Int)) z) λe=>aW (jf e (0:Int) (a:Int)) λf=>g f) none=g (s.take a):=by
 have b:lX s=false:=by cases s with
  |nil=>exact absurd rfl d
  |cons x l=>rfl
 have c:(KV s a (((s.length:Nat):Int) - (a:Int)).toNat z).take a=s.take a:=by
  unfold KV;rw[avd (by rw[aq0];omega),asw,Nat.min_self]
 have h:a<=(KV s a (((s.length:Nat):Int) - (a:Int)).toNat z).length:=by
  unfold KV;rw[aqy,aq0];omega
 rw[b];simp only[auP,arv,aqE];rw[r7 (by omega) (by omega),ob];unfold WM;rw[aqd ⟨by omega,by omega,by omega⟩,ob,aqo,r6 (by omega) (by omega),ob,aqo,c]
def Ov{α β:Type}{F:Nat->Nat->Option β}{keep:α->Bool}{s:List α}{no:β}{yes:Nat->β}(o:∀m i x,i<s.length->s[i]? =some x->F (m+1) i=if keep x=true then F m (i+1)else some (yes i))(j:∀m,F (m+1) s.length=some no){m:Nat}(p:s.length<m):
 (F m 0=some no/\∀x∈s,keep x=true)\/∃(k:Nat) (x:α),F m 0=some (yes k)/\s[k]? =some x/\keep x=false/\∀y∈s.take k,keep y=true:=by
 obtain⟨b,e,l⟩:=lp (F:=λm k (_:Unit)=>F m k) (n:=s.length) (Q:=λb=>(b=no/\∀x∈s,keep x=true)\/∃(k:Nat) (x:α),b=yes k/\s[k]? =some x/\keep x=false/\∀y∈s.take k,keep y=true) (I:=λk _=>∀y∈s.take k,keep y=true) (λm k _ f c=>by
  obtain⟨x,d⟩:=get_at (xs:=s) (i:=k) f;rw[o m k x f d];cases g:keep x with
  |true=>
   refine .inl ⟨(),λy a=>?_,aqd rfl⟩;rw[cG d]at a;rcases aqp.1 a with a|a
   ·exact c y a
   ·rw[aqB.1 a];exact g
  |false=>exact .inr ⟨_,aqc (by decide),.inr ⟨k,x,rfl,d,g,c⟩⟩) (λm _ c=>⟨_,j m,.inl ⟨rfl,by rw[aqQ (aqf _)]at c;exact c⟩⟩) (m:=m) (i:=0) (s:=()) (by omega) (by omega) (by simp)
 rcases l with⟨rfl,h⟩|⟨k,x,rfl,h⟩
 ·exact .inl ⟨e,h⟩
 ·exact .inr ⟨k,x,e,h⟩
def Bf(h:List ((Int×Int)×Int))(e:Int×Int):Bool:= !(decide ((bC vL h e).getD 0=0))
def agA(w:Fu+4<=a)(s:List (Int×Int))(h:List ((Int×Int)×Int))(t:s.length<=100000):afZ a (s,h)=some (s.filter (Bf h),h):=by
 obtain⟨a,rfl⟩:∃m,a=m+3:=⟨a - 3,by omega⟩;have v:=bH;have l:∀(M:Nat) (x:Int×Int),M1 (M+1) (x.1,x.2,h)=some (!(Bf h x),h):=λM x=>by
  rw[ab2];unfold Bf;rw[Bool.not_not]
 have f:=Ov (F:=λm k=>Je (a+1) m (s,((s.length:Nat):Int),(k:Int),h)) (keep:=Bf h) (s:=s) (no:=.inl h) (yes:=λk=>.inr ((k:Int),h)) (λm i x f u=>by
  rw[M3,dV (by omega),ba u,ob,l,ob];simp only;cases Bf h x with
  |true=>rw[aqv,aqi,cn (by omega),aqd rfl]
  |false=>rw[arv,aqE,aqc (by decide)]) (λm=>by rw[M3,dN (by omega)]) (m:=a+1) (by omega)
 rw[show((0:Nat):Int)=(0:Int)from rfl]at f;rw[af0,afY];rcases f with⟨d,b⟩|⟨k,x,d,b,q,r⟩
 ·rw[d,ob]
  simp only[ob];rw[dV trivial,at1.2 b]
 ·have z:=Sp.cH b
  obtain⟨A,B,n,o,g,p⟩:=yG (F:=λm i j s=>D9 (a+2) m (i,j,s,h)) (keep:=Bf h) (fin:=λi s=>(i,s,h)) (λm i j s=>by
   rw[ab9,cd];by_cases c:j<((s.length:Nat):Int)
   ·rw[aqd c,aqd c]
    cases aZ s j with
    |none=>rfl
    |some x=>
     rw[ob,ob,ob,l,ob];simp only;cases Bf h x with
     |true=>
      rw[aqv,arv,aqE,aqd rfl];cases aZ s i with
      |none=>rfl
      |some y=>rw[ob,ob]
     |false=>rw[arv,aqv,aqi,aqc (by decide)]
   ·rw[aqc c,aqc c]) t s.length (a+2) k (k+1) s (by omega) (by omega) (by omega) (by omega) rfl (by rw[cG b,asF,at1.2 r];simp[q]) rfl
  rw[d,ob];simp only[ob];rw[dN (by omega),cn (by omega),n,ob];simp only;rw[VV o (λe=>by rw[e]at g;simp at g;omega) ((0:Int),(0:Int)),p]
def adN{s:Sc}(z v:e)(x:s.cQ)(f:s.key=true):∀a:List (s.cQ×e),PF (dI s a x z) ((Iq s a x:Nat):Int) v=some (dI s a x v):=by
 have d:∀(l:List (s.cQ×e)) (k:Nat),PF l (k:Int) v=(l[k]?).map λp=>l.set k (p.1,v):=λl k=>by
  unfold PF;rw[aqd (by omega),aqo]
 intro a
 induction a with
 |nil=>rw[d];rfl
 |cons p a b=>
  rw[d]at b⊢;simp only[dI,Iq];cases iB s p.1 x with
  |true=>rfl
  |false=>
   simp only[aqi];rw[ar2];cases c:(dI s a x z)[Iq s a x]? with
   |none=>rw[c]at b;cases b
   |some q=>
    rw[c]at b;simp only[art,aqg]at b⊢;rw[auw,b]
def Cn(m:List ((Int×Int)×Int))(k:Nat)(p:Int×Int->Prop):Prop:=∀e,0<=(bC vL m e).getD 0/\(bC vL m e).getD 0<=(k:Int)/\((bC vL m e).getD 0=0↔¬p e)
def Cn.put{m:List ((Int×Int)×Int)}{p:Int×Int->Prop}(h:Cn m a p)(r:a<=100000)(x:Int×Int):Cn (dI vL m x (wrap .i64 ((bC vL m x).getD 0+1))) (a+1) λe=>p e\/e=x:=λe=>by
 obtain⟨k,l,n⟩:=h x;rw[gG (by omega) (by omega)];have g:=Oe (s:=vL) rfl x e ((bC vL m x).getD 0+1) m;by_cases c:x=e
 ·have:=g.1 c
  rw[this];refine⟨by show 0<=_+1;omega,by show _+1<=_;omega,λb=>?_,λb=>absurd (.inr c.symm) b⟩;have q:(bC vL m x).getD 0+1=0:=b;omega
 ·have:=g.2 c
  obtain⟨i,o,f⟩:=h e;rw[this];refine⟨i,by omega,λb d=>?_,λb=>f.2 λj=>b (.inl j)⟩;rcases d with d|d
  ·exact f.1 b d
  ·exact c d.symm
def Cw{N:Nat}(P:Fu+18<=N){f:List bT}(h:GR a f)(l:List (Int×Int))(R:l.length<=10000):
 (zD N ((a:Int),f,l)=some (10,[])/\¬∀x∈l,lI (a:Int) x)\/∃q,zD N ((a:Int),f,l)=some (0,q)/\(∀x∈l,lI (a:Int) x)/\q.Sublist (cD f)/\∀e,e∈q↔e∈cD f/\e∈l.map c_:=by
 obtain⟨N,rfl⟩:∃M,N=M+1:=⟨N - 1,by omega⟩;have O:=bH;have S:=h.len;obtain⟨b,u,G⟩:=lp (F:=λm k (s:List ((Int×Int)×Int))=>xQ N m (l,((l.length:Nat):Int),(k:Int),(a:Int),f,s)) (n:=l.length) (Q:=λb=>(b=.inr 10/\¬∀x∈l,lI (a:Int) x)\/∃s,b=.inl ((a:Int),f,s)/\(∀x∈l,lI (a:Int) x)/\Cn s l.length λe=>e∈l.map c_)
  (I:=λk s=>Cn s k (λe=>e∈(l.take k).map c_)/\∀x∈l.take k,lI (a:Int) x) (λm k s C p=>by
   obtain⟨x,g⟩:=get_at (xs:=l) (i:=k) C;have v:=aqw g;obtain⟨H,J⟩:=p;rw[D_,dV (by omega),ba g,ob,(ER x).1,(ER x).2,cd];have t:lI (a:Int) x↔¬(c_ x).1<0/\¬(a:Int)<=(c_ x).2:=by unfold lI c_;omega
   by_cases n:(c_ x).1<0
   ·rw[aqd n];exact .inr ⟨_,rfl,.inl ⟨rfl,λh=>(t.1 (h x v)).1 n⟩⟩
   rw[aqc n,cd];by_cases o:(a:Int)<=(c_ x).2
   ·rw[aqd o];exact .inr ⟨_,rfl,.inl ⟨rfl,λh=>(t.1 (h x v)).2 o⟩⟩
   rw[aqc o];refine .inl ⟨dI vL s (c_ x) (wrap .i64 ((bC vL s (c_ x)).getD 0+1)),⟨?_,λy j=>?_⟩,?_⟩
   ·have E:=H.put (by omega) (c_ x)
    intro e;have r:(e∈(l.take k).map c_\/e=c_ x)↔e∈(l.take (k+1)).map c_:=by rw[cG g,aq4,aqp,List.map_singleton,aqB]
    obtain⟨w,z,A⟩:=E e;exact⟨w,z,A.trans (not_congr r)⟩
   ·rw[cG g]at j
    rcases aqp.1 j with j|j
    ·exact J y j
    ·rw[aqB.1 j];exact t.2 ⟨n,o⟩
   ·have r:=adN (s:=vL) ((bC vL s (c_ x)).getD 0) (wrap .i64 ((bC vL s (c_ x)).getD 0+1)) (c_ x) rfl s
    have B:PF (dI vL s ((c_ x).1,(c_ x).2) ((bC vL s ((c_ x).1,(c_ x).2)).getD 0)) ((Iq vL s ((c_ x).1,(c_ x).2):Nat):Int) (wrap .i64 ((bC vL s ((c_ x).1,(c_ x).2)).getD 0+1))=some (dI vL s (c_ x) (wrap .i64 ((bC vL s (c_ x)).getD 0+1))):=r;rw[B,ob,cn (by omega)]) (λm s p=>⟨_,by rw[D_,dN (by omega)],.inr ⟨s,rfl,by have d:=p.2;rw[aqQ (aqf _)]at d;exact d,by have d:=p.1;rw[aqQ (aqf _)]at d;exact d⟩⟩) (m:=N) (i:=0) (s:=[]) (by omega) (by omega) ⟨λe=>⟨asR _,asR _,λ_ h=>(by simp at h),λ_=>rfl⟩,λx g=>by simp at g⟩
 rw[show((0:Nat):Int)=(0:Int)from rfl]at u;rw[XT,h.right (by omega),ob];simp only[aqv,aqi];rw[u,ob];rcases G with⟨rfl,D⟩|⟨s,rfl,K,L⟩
 ·exact .inl ⟨rfl,D⟩
 ·simp only
  rw[zU (by omega) h,ob,agA (by omega) _ _ (by simp[cD];omega),ob];refine .inr ⟨_,rfl,K,List.filter_sublist,λe=>?_⟩;rw[ar_];have:=(L e).2.2;unfold Bf;rw[arq,decide_eq_false_iff_not];by_cases c:e∈l.map c_
  ·exact⟨λh=>⟨h.1,c⟩,λh=>⟨h.1,λd=>this.1 d c⟩⟩
  ·exact⟨λh=>absurd (this.2 c) h.2,λh=>absurd h.2 c⟩
end
variable{E:Int}{s:List (List Int)}{i:List bT}{D:Nat}
section
open Go Go.RowKit Go.Sort
def YC(d:1<=a)(b:List Int)(c:b.length<=100000000000):U3 a b=some b:=by
 obtain⟨a,rfl⟩:∃m,a=m+1:=⟨a - 1,by omega⟩;rw[acw,cE (by omega) (by simpa using c),aqZ];cases b with
 |nil=>exact sV.2 ⟨rfl,rfl⟩
 |cons x e=>rfl
def agB(A:Fu+4<=a)(f:Int)(d:List (List Int))(s:List Int)(v:s.length<=100000):af5 a (f,d,s)=some (s.filter λt=>decide (t<f)):=by
 obtain⟨a,rfl⟩:∃m,a=m+3:=⟨a - 3,by omega⟩;have z:=bH;have n:∀(M:Nat) (x:Int),Nr (M+1) (x,f,d)=some (!(decide (x<f))):=λM x=>by
  rw[acx];by_cases c:x<f
  ·rw[aqH c,aqK (by omega)];rfl
  ·rw[aqK c,aqH (by omega)];rfl
 have h:=Ov (F:=λm k=>Ck (a+1) m (s,f,d,((s.length:Nat):Int),(k:Int))) (keep:=λt=>decide (t<f)) (s:=s) (no:=.inl ()) (yes:=λk=>.inr (k:Int)) (λm i x h w=>by
  rw[Hd,dV (by omega),ba w,ob,n,ob];cases decide (x<f)with
  |true=>rw[aqv,aqi,cn (by omega),aqd rfl]
  |false=>rw[arv,aqE,aqc (by decide)]) (λm=>by rw[Hd,dN (by omega)]) (m:=a+1) (by omega)
 rw[show((0:Nat):Int)=(0:Int)from rfl]at h;rw[af6,acz];rcases h with⟨g,b⟩|⟨k,x,g,b,r,u⟩
 ·rw[g,ob]
  simp only[ob];rw[dV trivial,at1.2 b]
 ·have B:=Sp.cH b
  obtain⟨C,D,o,p,l,q⟩:=yG (F:=λm i j s=>Ep (a+2) m (f,d,i,j,s)) (keep:=λt=>decide (t<f)) (fin:=λi s=>(i,s)) (λm i j s=>by
   rw[acD,cd];by_cases c:j<((s.length:Nat):Int)
   ·rw[aqd c,aqd c]
    cases aZ s j with
    |none=>rfl
    |some x=>
     rw[ob,ob,ob,n,ob];cases decide (x<f)with
     |true=>
      rw[aqv,arv,aqE,aqd rfl];cases aZ s i with
      |none=>rfl
      |some y=>rw[ob,ob]
     |false=>rw[arv,aqv,aqi,aqc (by decide)]
   ·rw[aqc c,aqc c]) v s.length (a+2) k (k+1) s (by omega) (by omega) (by omega) (by omega) rfl (by rw[cG b,asF,at1.2 u];simp only[asp,r];simp) rfl
  rw[g,ob];simp only[ob];rw[dN (by omega),cn (by omega),o,ob];simp only;rw[VV p (λe=>by rw[e]at l;simp at l;omega) (0:Int),q]
def JK(n:Nat)(rs:List (List Int))(v:Nat):List Int:=(vt n (dG rs v)).mergeSort λx y=>decide (x<=y)
def adO:E∈JK a s d↔E∈vt a (dG s d):=(auF _ _).mem_iff
def E2{N:Nat}(i:Fu+12<=N)(h:bR a s)(c:d<a):Ns N ((a:Int),s,(d:Int))=some (0,JK a s d):=by
 obtain⟨N,rfl⟩:∃m,N=m+1:=⟨N - 1,by omega⟩;have g:=bH;have b:=h.ring c;have j:=h.small.2 _ b.2.2.1;rw[acE,zQ (by omega) h _ (by simp),aqd (λw f=>by rw[aqB.1 f];omega),ob,yV rfl,adq (by omega) h c,ob,ba b.1,ob,YC (by omega) _ (by omega),ob,agB (by omega) _ _ _ (by omega),ob];have e:((dG s d).filter λt=>decide (t<(a:Int))).length<1099511627776:=by have:=atw (λt=>decide (t<(a:Int))) (dG s d);omega
 rw[dS,aqH e,aqE,ob];rfl
def VW(h:bR a s)(b:d<a):(d:Int)∈JK a s d:=by
 rw[adO];have:=(h.ring b).2.1;exact(iN b).2 this
def yH(h:bR a s)(b:d<a):(JK a s d).length<=1000:=by
 unfold JK vt;rw[avf];exact aq9 (atw _ _) (h.small.2 _ (h.ring b).2.2.1)
def VX(A B:List Int)(v:Int):List Int:=if v∈A then []else if(if zt (A.length:Int) (B.length:Int)=0 then zt (A.headD 0) (B.headD 0)else zt (A.length:Int) (B.length:Int))<0 then A else B
def Ow{N:Nat}(w:Fu+20<=N)(n:Nat)(a:List bT)(s:a.length<=100000)(u v:Int):
 (∃e:Int,Eo N ((n:Int),a,u,v)=some (0,e)/\(e=1/\¬GR n a\/e=10/\¬lI (n:Int) (u,v)\/e=6/\GR n a/\lI (n:Int) (u,v)))\/
  ∃(k:Nat) (x:bT),Eo N ((n:Int),a,u,v)=some ((k:Int),0)/\GR n a/\lI (n:Int) (u,v)/\a[k]? =some x/\(x.1,x.2.1)=c_ (u,v):=by
 obtain⟨N,rfl⟩:∃m,N=m+1:=⟨N - 1,by omega⟩;obtain⟨b,p,j⟩:=tB (N:=N) (by omega) (n:Int) a s;rw[aqo]at j;rw[Nq,p,ob];cases b with
 |false=>exact .inl ⟨1,rfl,.inl ⟨rfl,λh=>by have:=j.2 ⟨by omega,h⟩;cases this⟩⟩
 |true=>
  have h:=(j.1 rfl).2;have g:=ER (u,v);simp only at g;simp only[aqv,aqi];rw[g.1,g.2,cd];have f:lI (n:Int) (u,v)↔¬(c_ (u,v)).1<0/\¬(n:Int)<=(c_ (u,v)).2:=by unfold lI c_;simp only;omega
  by_cases c:(c_ (u,v)).1<0
  ·rw[aqd c];exact .inl ⟨10,rfl,.inr (.inl ⟨rfl,λh=>(f.1 h).1 c⟩)⟩
  rw[aqc c,cd];by_cases d:(n:Int)<=(c_ (u,v)).2
  ·rw[aqd d];exact .inl ⟨10,rfl,.inr (.inl ⟨rfl,λh=>(f.1 h).2 d⟩)⟩
  rw[aqc d];obtain⟨i,q,r⟩:=adz (N:=N) (by omega) h u v;rw[q,ob,cd];rcases r with rfl|⟨k,x,rfl,t,l,o⟩
  ·rw[aqd (by omega)];exact .inl ⟨6,rfl,.inr (.inr ⟨rfl,h,f.2 ⟨c,d⟩⟩)⟩
  ·rw[aqc (by omega)];exact .inr ⟨k,x,rfl,h,f.2 ⟨c,d⟩,t,by unfold c_;rw[l,o]⟩
def agC{N:Nat}(F:Fu+22<=N)(h:GR a i)(s:d<a)(t:D<a)(o:Int):∃e,Er N ((a:Int),i,(d:Int),(D:Int),o)=some (e,VX (JK a (EN a (gp i o)) d) (JK a (EN a (gp i o)) D) (D:Int)):=by
 obtain⟨N,rfl⟩:∃m,N=m+1:=⟨N - 1,by omega⟩;have E:=bH;have G:=h.len;have n:=h.JI o;have eK:lI (a:Int) ((d:Int),(D:Int)):=⟨by simp;omega,by simp;omega⟩;have j:∃g e:Int,Eo N ((a:Int),i,(d:Int),(D:Int))=some (g,e)/\e≠1/\e≠10:=by
  rcases Ow (N:=N) (by omega) a i (by omega) (d:Int) (D:Int)with⟨e,j,l⟩|⟨k,x,j,_⟩
  ·refine⟨0,e,j,?_⟩
   rcases l with⟨_,l⟩|⟨_,l⟩|⟨rfl,_⟩
   ·exact absurd h l
   ·exact absurd eK l
   ·exact⟨by decide,by decide⟩
  ·exact⟨k,0,j,by decide,by decide⟩
 obtain⟨g,e,j,l,w⟩:=j;have z:=E2 (N:=N) (by omega) n s;have C:=E2 (N:=N) (by omega) n t;have u:=VW n s;have v:=VW n t;have H:=yH n s;have I:=yH n t;rw[He,j,ob,dN l,dN w,EP (by omega) h,ob];simp only;rw[z,ob,C,ob];simp only;generalize JK a (EN a (gp i o)) d=A at*;generalize JK a (EN a (gp i o)) D=B at*;obtain⟨M,rfl⟩:∃M,N=M+8:=⟨N - 8,by omega⟩;rw[has_eq (M+8) (by omega) _ _ (by omega),ob];unfold VX;by_cases c:(D:Int)∈A
 ·rw[aqH c,aqE,aqd c];exact⟨_,rfl⟩
 ·rw[aqK c,aqi,aqc c]
  obtain⟨f,p,rfl⟩:∃f p,A=f::p:=atQ λe=>by rw[e]at u;cases u
  obtain⟨b,r,rfl⟩:∃b r,B=b::r:=atQ λe=>by rw[e]at v;cases v
  rw[show M+8=(M+5)+3 from rfl,pd,ob,show aZ (f::p) 0=some f from rfl,show aZ (b::r) 0=some b from rfl,ob,ob,ob,ob,pd,ob,show M+5+3=(M+3)+5 from rfl,Qe,ob,cd];simp only[arN];have y:∀q:Int,∃e:Int,(if q<0 then some ((0:Int),f::p)else some (0,b::r))=some (e,if q<0 then f::p else b::r):=λq=>by
   by_cases c:q<0
   ·rw[aqd c,aqd c];exact⟨_,rfl⟩
   ·rw[aqc c,aqc c];exact⟨_,rfl⟩
  exact y _
def YD{A B:List Int}(c:A.length<=a)(d:B.length<=a):(VX A B E).length<=a:=by
 unfold VX;have b:∀q:Int,(if q<0 then A else B).length<=a:=λq=>by split<;>assumption
 split
 ·simp
 ·exact b _
def E3{x y:bT}(b:i[a]? =some x)(h:(y.1,y.2.1)=(x.1,x.2.1)):cD (i.set a y)=cD i:=by
 unfold cD;rw[asb,h];refine arZ λj=>?_;rw[arf];split
 ·rename_i e
  subst e;have c:=Sp.cH b;rw[aqd (by simpa using c),aqA,b];rfl
 ·rfl
def hS(a:List bT):(cD a).length=a.length:=by simp[cD]
def Ox{N:Nat}(j:1<=N){x:bT}(h:i[a]? =some x)(s:Int)(b c:Bool)(d e f g:Int):∃y:bT,Nu N ((a:Int),s,b,c,d,e,f,g,i)=some (s,b,c,d,e,wrap .i64 (f+1),g,i.set a y)/\(y.1,y.2.1)=(x.1,x.2.1):=by
 obtain⟨N,rfl⟩:∃m,N=m+1:=⟨N - 1,by omega⟩;rw[acF,ba h,ob,ob,aqo];exact⟨_,rfl,rfl⟩
def amP(hN:Fu+24<=a)(h1:1<=d)(c:List bT)(hl:c.length<=100000)(u v:Nat)(Z:u<d)(hv:v<d)(w:Int)(l o:Bool)(p t G j:Int):
 ∃(b:Bool) (a0:List bT) (t2 t3:Bool) (t4 t5 t6:Int),Vg a ((u:Int),(v:Int),w,(d:Int),l,o,p,t,G,j,c)=some (b,a0,(d:Int),t2,t3,t4,t5,t6,j)/\cD a0=cD c:=by
 obtain⟨a,rfl⟩:∃m,a=m+1:=⟨a - 1,by omega⟩;have hF:=bH;obtain⟨e,B,S,a4⟩:∃e B,Er a ((d:Int),c,(u:Int),(v:Int),w)=some (e,B)/\B.length<=1000:=by
  obtain⟨b,K,P⟩:=tB (N:=a - 2) (by omega) (d:Int) c hl;rw[aqo]at P;cases b with
  |true=>
   have h:=(P.1 rfl).2;obtain⟨e,he⟩:=agC (N:=a) (by omega) h Z hv w;exact⟨e,_,he,YD (yH (h.JI w) Z) (yH (h.JI w) hv)⟩
  |false=>
   obtain⟨M,rfl⟩:∃M,a=M+2:=⟨a - 2,by omega⟩;rw[show M+2 - 2=M by omega]at K;exact⟨1,[],by rw[He,Nq,K,ob];rfl,by simp⟩
 obtain⟨b1,L,V,rfl⟩:=lp (F:=λm k (q:List (Int×Int))=>Co a m (w,((B.length:Nat):Int),(k:Int),(d:Int),l,o,p,t,G,j,B,c,q)) (n:=B.length) (Q:=λb=>∃V,b=(w,(d:Int),l,o,p,t,G,j,c,V)) (I:=λ_ _=>True) (λm k q C _=>by
  obtain⟨x,g⟩:=get_at (xs:=B) (i:=k) C;exact .inl ⟨_,trivial,by rw[Hh,dV (by omega),ba g,ob,ob,cn (by omega)]⟩) (λm q _=>⟨_,by rw[Hh,dN (by omega)],q,rfl⟩) (m:=a) (i:=0) (s:=[]) (by omega) (by omega) trivial
 obtain⟨M,rfl⟩:∃M,a=M+1:=⟨a - 1,by omega⟩;obtain⟨b2,N,X,A,H,W,rfl,R,a1⟩:=lp (F:=λm k (q:Int×List Int×List bT×List (Int×Int))=>pH (M+1) m (w,((c.length:Nat):Int),(k:Int),(d:Int),l,o,p,t,q.1,j,q.2.1,q.2.2.1,q.2.2.2)) (n:=c.length) (Q:=λb=>∃(X:Int) (A:List Int) (H:List bT) (W:List (Int×Int)),b=((d:Int),l,o,p,t,X,j,A,H,W)/\(A.length<=c.length/\∀x∈A,∃i:Nat,x=(i:Int)/\i<c.length)/\cD H=cD c)
  (I:=λk q=>(q.2.1.length<=k/\∀x∈q.2.1,∃i:Nat,x=(i:Int)/\i<c.length)/\cD q.2.2.1=cD c) (λm k q C D=>by
   obtain⟨⟨i1,E⟩,f⟩:=D;have a2:q.2.2.1.length=c.length:=by rw[<-hS,f,hS]
   obtain⟨x,g⟩:=get_at (xs:=q.2.2.1) (i:=k) (by omega);rw[Hg,dV (by omega),ba g,ob,ob,FQ,cn (by omega)];split
   ·rw[ob]
    cases K:x.2.2.2 with
    |false=>
     rw[arv,aqE,cE (by omega) (by simp;omega),ob];refine .inl ⟨(q.1,q.2.1++[(k:Int)],q.2.2.1,q.2.2.2),⟨⟨by simp;omega,λy n=>?_⟩,f⟩,rfl⟩;rcases aqp.1 n with n|n
     ·exact E y n
     ·exact⟨k,aqB.1 n,C⟩
    |true=>
     rw[aqv,aqi,ob,Nt,ob];simp only;rw[cd];split
     ·obtain⟨y,n,U⟩:=Ox (N:=M+1) (by omega) g (d:Int) l o p t q.1 j
      rw[n,ob];exact .inl ⟨(wrap .i64 (q.1+1),q.2.1,q.2.2.1.set k y,q.2.2.2),⟨⟨at7 i1,E⟩,by rw[E3 g U];exact f⟩,rfl⟩
     ·exact .inl ⟨q,⟨⟨by omega,E⟩,f⟩,rfl⟩
   ·exact .inl ⟨q,⟨⟨by omega,E⟩,f⟩,rfl⟩) (λm q D=>⟨_,by rw[Hg,dN (by omega)],q.1,q.2.1,q.2.2.1,q.2.2.2,rfl,D.1,D.2⟩) (m:=M+1) (i:=0) (s:=(G,[],c,V)) (by omega) (by omega) ⟨⟨by simp,λx g=>by cases g⟩,rfl⟩
 obtain⟨b3,O,hq⟩:=lp (F:=λm k (q:Int×List bT×List (Int×Int))=>tk (M+1) m (((A.length:Nat):Int),(k:Int),(d:Int),l,o,p,t,q.1,j,A,q.2.1,q.2.2)) (n:=A.length) (Q:=λb=>∃(r:Int) (J:List bT),cD J=cD c/\(b=.inl ((d:Int),l,o,p,t,r,j,J)\/∃x y,b=.inr (true,(d:Int),l,true,x,y,r,j,J)))
  (I:=λ_ q=>cD q.2.1=cD c) (λm k q C f=>by
   have a2:q.2.1.length=c.length:=by rw[<-hS,f,hS]
   obtain⟨z,hz⟩:=get_at (xs:=A) (i:=k) C;obtain⟨i,rfl,P⟩:=R.2 z (aqw hz);obtain⟨x,g⟩:=get_at (xs:=q.2.1) (i:=i) (by omega);have a3:=R.1;rw[Hf,dV (by omega),ba hz,ob,ob,ba g,ob,Nt,ob,cd,cn (by omega)];split
   ·exact .inl ⟨q,f,rfl⟩
   ·rw[cd]
    split
    ·obtain⟨y,n,U⟩:=Ox (N:=M+1) (by omega) g (d:Int) l o p t q.1 j
     rw[n,ob];exact .inl ⟨(wrap .i64 (q.1+1),q.2.1.set i y,q.2.2),by rw[E3 g U];exact f,rfl⟩
    ·rw[cd]
     split
     ·have S:(q.2.1.set i (x.1,x.2.1,x.2.2.1,true))[i]? =some (x.1,x.2.1,x.2.2.1,true):=by rw[arf,aqd rfl,aqd (by omega)]
      rw[ob,aqo,ba S,ob,ob];exact .inr ⟨_,rfl,q.1,_,by rw[E3 g (y:=(x.1,x.2.1,x.2.2.1,true)) rfl];exact f,.inr ⟨_,_,rfl⟩⟩
     ·exact .inl ⟨q,f,rfl⟩) (λm q f=>⟨_,by rw[Hf,dN (by omega)],q.1,q.2.1,f,.inl rfl⟩) (m:=M+1) (i:=0) (s:=(X,H,W)) (by have:=R.1;omega) (by omega) a1
 rw[show((0:Nat):Int)=(0:Int)from rfl]at L N O;simp only at L N O;rw[acG,S,ob];simp only;rw[L,ob];simp only;rw[N,ob];simp only;rw[O,ob];obtain⟨r,J,Y,rfl|⟨x,y,rfl⟩⟩:=hq
 ·exact⟨_,_,_,_,_,_,_,rfl,Y⟩
 ·exact⟨_,_,_,_,_,_,_,rfl,Y⟩
end
section
open Go Go.RowKit Go.Sort
def QZ(j:Fu+3<=a)(c b:List bT)(k:c.length<=100000)(l:b.length<=100000):U2 a [c,b]=some (c++b):=by
 obtain⟨M,rfl⟩:∃M,a=M+4:=⟨a - 4,by rw[bH]at j;omega⟩;have d:aZ ([c,b]:List (List bT)) (0:Int)=some c:=rfl;have e:aZ ([c,b]:List (List bT)) (1:Int)=some b:=rfl;have f:wrap .i64 ((0:Int)+1)=1:=by decide
 have g:wrap .i64 ((1:Int)+1)=2:=by decide
 have h:Cj (M+3) (M+3) ([c,b],0,[c,b],((([c,b]:List (List bT)).length:Nat):Int),0)=some ([c,b],((c.length+b.length:Nat):Int)):=by
  rw[zH,dV (by simp),d,ob,cd,gG (x:=(0:Int)+((c.length:Nat):Int)) (by omega) (by omega),aqc (by omega),f,zH,dV (by simp),e,ob,cd,gG (x:=(0:Int)+((c.length:Nat):Int)+((b.length:Nat):Int)) (by omega) (by omega),aqc (by omega),g,zH,dN (by simp)];congr 2;omega
 have i:Ci (M+3) (M+3) ([c,b],((([c,b]:List (List bT)).length:Nat):Int),0,[])=some (c++b):=by
  rw[zG,dV (by simp),d,ob,cE (by omega) (by simp;omega),ob,f,zG,dV (by simp),e,ob,cE (by omega) (by simp;omega),ob,g,zG,dN (by simp)];simp
 rw[show M+4=(M+3)+1 from rfl,acv,h,ob];unfold eB;rw[aqH (by simp only;omega)];simp only[aqE,ob];rw[i,ob]
def Oy{N:Nat}(A:Fu+24<=N){n:Nat}(z:1<=n){u v:Nat}(B:u<n)(C:v<n)(i:Int)(j k:Bool)(l o p I:Int)(J:Bool)(f:Int):∀(d m:Nat) (a:Int) (e:List bT) (r s:Bool) (t w x:Int),a+1<=d->-1<=a->a<=100->d<m->e.length<=100000->
 ∃(g:List bT) (D E:Bool) (F G H:Int),x7 N m (a,i,j,k,l,o,p,(u:Int),(v:Int),I,J,(n:Int),r,s,t,w,x,f,e)=some (i,j,k,l,o,p,(n:Int),D,E,F,G,H,f,g)/\cD g=cD e
 |d,0,_,_,_,_,_,_,_,_,_,_,h,_=>absurd h (by omega)
 |d,m+1,a,e,r,s,t,w,x,V,W,U,X,y=>by
  rw[Qr];cases J with
  |false=>exact⟨_,_,_,_,_,_,rfl,rfl⟩
  |true=>
   rw[aqE,cd];by_cases c:0<=a
   ·obtain⟨b,g,O,P,Q,R,S,K,q⟩:=amP A z e y u v B C a r s t w x f
    rw[aqd c,K,ob];cases b with
    |true=>exact⟨_,_,_,_,_,_,rfl,q⟩
    |false=>
     simp only[arv,aqE];rw[gG (by omega) (by omega)];obtain⟨Y,D,E,F,G,H,L,M⟩:=Oy A z B C i j k l o p I true f (d - 1) m (a - 1) g O P Q R S (by omega) (by omega) (by omega) (by omega) (by rw[<-hS,q,hS];exact y);exact⟨_,_,_,_,_,_,L,M.trans q⟩
   ·rw[aqc c];exact⟨_,_,_,_,_,_,rfl,rfl⟩
def agD(n:Nat):Oc n<=6:=by
 unfold Oc
 repeat' split
 all_goals omega
def ajX{N:Nat}(C:Fu+26<=N){n:Nat}(ts:List bT)(y:ts.length<=100000){u v:Nat}(F:u<v):∃(e:Int) (a:List bT) (o p:Bool) (q r s:Int),Jh N ((n:Int),ts,(u:Int),(v:Int))=some (e,(n:Int),a,o,p,q,r,s)/\
 ((e≠0/\a=ts)\/e=0/\a.length<=ts.length/\(cD a).Sublist (cD ts)/\((u:Int),(v:Int))∉cD a):=by
 obtain⟨N,rfl⟩:∃m,N=m+1:=⟨N - 1,by omega⟩;have B:=bH;rw[X6];rcases Ow (N:=N) (by omega) n ts y (u:Int) (v:Int)with⟨e,f,b⟩|⟨k,x,f,h,eK,c,l⟩
 ·rw[f,ob,cnF (by simp only;rcases b with⟨rfl,_⟩|⟨rfl,_⟩|⟨rfl,_⟩<;>decide)]
  exact⟨_,_,_,_,_,_,_,rfl,.inl ⟨by rcases b with⟨rfl,_⟩|⟨rfl,_⟩|⟨rfl,_⟩<;>decide,rfl⟩⟩
 ·have D:=Sp.cH c
  have A:=h.tie x (aqw c);unfold mV at A;unfold lI at eK;simp only at eK;have E:=agD n;have d:x.1=(u:Int)/\x.2.1=(v:Int):=by
   unfold c_ at l;simp only[aqx]at l;omega
  rw[f,ob,yV rfl];simp only;rw[ba c,ob,r6 (by omega) (by omega),ob,cn (by omega),r7 (by omega) (by omega),ob,aqo,aqo,QZ (by omega) _ _ (by rw[aq0];omega) (by rw[ar4];omega),ob,adx (by omega) h.lo h.hi,ob,d.1,d.2];have t:(ts.take k++ts.drop (k+1)).length<=100000:=by rw[aqy,aq0,ar4];omega
  obtain⟨a,G,H,I,J,K,b,g⟩:=Oy (N:=N) (by omega) h.lo (u:=u) (v:=v) (by omega) (by omega) 0 false false 0 0 0 x.2.2.1 x.2.2.2 (Oc n:Int) (x.2.2.1.toNat+1) N x.2.2.1 _ x.2.2.2 false 0 0 0 (by omega) (by omega) (by omega) (by omega) t;rw[b,ob];have i:cD (ts.take k++ts.drop (k+1))=(cD ts).eraseIdx k:=by
   unfold cD;rw[List.eraseIdx_eq_take_drop_succ,aq4,asD,asY]
  refine⟨_,_,_,_,_,_,_,rfl,.inr ⟨rfl,?_,?_,λj=>?_⟩⟩
  ·rw[<-hS,g,hS,aqy,aq0,ar4];omega
  ·rw[g,i];exact auO _ _
  ·rw[g,i]at j
   have w:(cD ts)[k]? =some ((u:Int),(v:Int)):=by
    unfold cD;rw[aqA,c,art,d.1,d.2]
   have z:=(j_ w).nodup_iff.1 (tD (ES h.VF));exact(ars.1 z).1 j
def Oz{e:Int×Int}(h:e.1<e.2):c_ e=e:=by
 obtain⟨a,b⟩:=e;simp only at h;unfold c_;simp only;exact atl (by simp only;omega) (by simp only;omega)
def drop_eq{N:Nat}(hN:Fu+30<=N){c:List bT}(h:GR a c)(l:List (Int×Int))(S:l.length<=10000):∃(e:Int) (g:List bT) (all:List (Bool×Bool×(Int×Int)×Int)),pJ N ((a:Int),c,l)=some (e,(a:Int),g,all)/\
 ((e≠0/\g=c)\/e=0/\(cD g).Sublist (cD c)/\(∀x∈cD g,x∉l.map c_)/\(l=[]->g=c)):=by
 obtain⟨N,rfl⟩:∃m,N=m+1:=⟨N - 1,by omega⟩;have hF:=bH;have a1:=h.len;rw[Hi];rcases Cw (N:=N) (by omega) h l S with⟨r,_⟩|⟨f,r,eK,A,z⟩
 ·rw[r,ob,cnF (by simp)]
  exact⟨_,_,_,rfl,.inl ⟨by decide,rfl⟩⟩
 ·have a0:f.length<=400:=by have:=A.length_le;rw[hS]at this;omega
  rw[r,ob,yV rfl];simp only;obtain⟨b,t,V⟩:=lp (F:=λm k (q:List (Bool×Bool×(Int×Int)×Int)×List bT)=>x8 N m (((f.length:Nat):Int),(k:Int),(a:Int),c,(0:Int),q.1,(a:Int),q.2,f)) (n:=f.length) (Q:=λb=>(∃e,b=.inr (e,(a:Int),c)/\e≠0)\/∃all n,b=.inl ((0:Int),all,(a:Int),n)/\(cD n).Sublist (cD c)/\(∀x∈f,x∉cD n)/\(f=[]->n=c))
   (I:=λk q=>q.1.length<=k/\q.2.length<=c.length/\(cD q.2).Sublist (cD c)/\(∀x∈f.take k,x∉cD q.2)/\(f=[]->q.2=c)) (λm k q R o=>by
    obtain⟨i1,i2,X,Y,i5⟩:=o;obtain⟨x,d⟩:=get_at (xs:=f) (i:=k) R;have W:=VQ h.tie x (A.subset (aqw d));obtain⟨C,D⟩:=x;simp only at W;obtain⟨u,rfl⟩:∃u:Nat,C=(u:Int):=⟨C.toNat,by omega⟩;obtain⟨v,rfl⟩:∃v:Nat,D=(v:Int):=⟨D.toNat,by omega⟩;obtain⟨e,g,E,G,H,J,K,L,p⟩:=ajX (N:=N) (by omega) (n:=a) q.2 (by omega) (u:=u) (v:=v) (by omega);rw[vu,dV (by omega),ba d,ob,ob];simp only;rw[L,ob,FQ];rcases p with⟨p,M⟩|⟨rfl,M,w,O⟩
    ·rw[aqc p];exact .inr ⟨_,rfl,.inl ⟨e,rfl,p⟩⟩
    ·rw[aqd rfl,cE (by omega) (by simp;omega),ob,cn (by omega)]
     refine .inl ⟨(q.1++[(E,G,(H,J),K)],g),⟨by simp;omega,by simp only;omega,w.trans X,λy j=>?_,λe=>by rw[e]at d;simp at d⟩,rfl⟩;rw[cG d]at j;rcases aqp.1 j with j|j
     ·exactλh=>Y y j (w.subset h)
     ·rw[aqB.1 j];exact O) (λm q o=>⟨_,by rw[vu,dN (by omega)],.inr ⟨q.1,q.2,rfl,o.2.2.1,by have:=o.2.2.2.1;rw[aqQ (aqf _)]at this;exact this,o.2.2.2.2⟩⟩) (m:=N) (i:=0) (s:=([],c)) (by omega) (by omega) ⟨by simp,aqf _,List.Sublist.refl _,by simp,λ_=>rfl⟩
  rw[show((0:Nat):Int)=(0:Int)from rfl]at t;simp only at t;rw[t,ob];rcases V with⟨e,rfl,P⟩|⟨all,n,rfl,B,Z,q3⟩
  ·exact⟨_,_,_,rfl,.inl ⟨P,rfl⟩⟩
  ·refine⟨_,_,_,rfl,.inr ⟨rfl,B,λx d U=>Z x ((z x).2 ⟨B.subset d,U⟩) d,λe=>q3 ?_⟩⟩
   rw[arX];intro x d;have:=((z x).1 d).2;rw[e]at this;simp at this
end
section
open Go Go.RowKit Go.Sort
def Q0(n:Int):Prop:=0<=n/\n<65536
def yI{N:Nat}(c:1<=N)(n:Int):∃b,vo N n=some b/\(b=true↔Q0 n):=by
 obtain⟨N,rfl⟩:∃m,N=m+1:=⟨N - 1,by omega⟩;refine⟨_,Xr N n,?_⟩;have a:wrap .u16 n=n % 65536:=by simp[wrap,IntKind.bits,IntKind.signed]
 rw[ard,a,gG (by omega) (by omega)];unfold Q0;omega
def OA(e:Int×Int):Prop:=Q0 e.1/\Q0 e.2
def Q1(a:Int×Int×Int):Prop:=(1<=a.1/\a.1<=4)/\Q0 a.2.1/\Q0 a.2.2
def adP{N:Nat}(h:2<=N)(e:Int×Int):∃b,Tp N (e.1,e.2)=some b/\(b=false↔OA e):=by
 obtain⟨N,rfl⟩:∃m,N=m+1:=⟨N - 1,by omega⟩;obtain⟨a,f,c⟩:=yI (N:=N) (by omega) e.1;obtain⟨b,g,d⟩:=yI (N:=N) (by omega) e.2;rw[abc,f,ob,g];unfold OA;rw[<-c,<-d];cases a<;>cases b<;>exact⟨_,rfl,by simp⟩
def adQ{N:Nat}(j:2<=N)(e:Int×Int×Int):∃b,Tu N (e.1,e.2.1,e.2.2)=some b/\(b=false↔Q1 e):=by
 obtain⟨N,rfl⟩:∃m,N=m+2:=⟨N - 2,by omega⟩;obtain⟨a,g,d⟩:=yI (N:=N+1) (by omega) e.2.1;obtain⟨b,h,f⟩:=yI (N:=N+1) (by omega) e.2.2;have i:IT (N+1) e.1=some (decide (1<=e.1/\e.1<=4)):=by
  rw[Xs,cd];by_cases c:1<=e.1<;>simp[c]
 rw[abg,i,ob,g,h];unfold Q1;rw[<-d,<-f];by_cases c:1<=e.1/\e.1<=4
 ·rw[aqH c]
  cases a<;>cases b<;>exact⟨_,rfl,by simp[c]⟩
 ·rw[aqK c]
  exact⟨_,rfl,by simp[c]⟩
def agE{N:Nat}(u:Fu+4<=N)(l:List (Int×Int))(v:l.length<=100000):∃b,abf N l=some b/\(b=false↔∀e∈l,OA e):=by
 obtain⟨N,rfl⟩:∃m,N=m+2:=⟨N - 2,by omega⟩;have t:=bH;obtain⟨b,g,r⟩:=lp (F:=λm k (_:Unit)=>B2 N m (l,((l.length:Nat):Int),(k:Int))) (n:=l.length) (Q:=λb=>(b=.inl ()/\∀e∈l,OA e)\/∃k:Nat,b=.inr (k:Int)/\¬∀e∈l,OA e) (I:=λk _=>∀e∈l.take k,OA e) (λm k s j d=>by
  obtain⟨x,f⟩:=get_at (xs:=l) (i:=k) j;have p:=aqw f;obtain⟨o,q,a⟩:=adP (N:=N) (by omega) x;rw[GI,dV (by omega),ba f,ob,q,ob];cases o with
  |true=>exact .inr ⟨_,rfl,.inr ⟨k,rfl,λh=>by have:=a.2 (h x p);cases this⟩⟩
  |false=>
   refine .inl ⟨(),λe c=>?_,by rw[aqi,cn (by omega)]⟩;rw[cG f]at c;rcases aqp.1 c with c|c
   ·exact d e c
   ·rw[aqB.1 c];exact a.1 rfl) (λm s d=>⟨_,by rw[GI,dN (by omega)],.inl ⟨rfl,by rw[aqQ (aqf _)]at d;exact d⟩⟩) (m:=N) (i:=0) (s:=()) (by omega) (by omega) (by simp)
 rw[show((0:Nat):Int)=(0:Int)from rfl]at g;rw[afW,abe,g,ob];rcases r with⟨rfl,h⟩|⟨k,rfl,h⟩
 ·exact⟨_,rfl,λ_=>h,λ_=>rfl⟩
 ·refine⟨_,rfl,λa=>?_,λa=>absurd a h⟩
  have:=asn a;omega
def agF{N:Nat}(u:Fu+4<=N)(l:List (Int×Int×Int))(v:l.length<=100000):∃b,abj N l=some b/\(b=false↔∀e∈l,Q1 e):=by
 obtain⟨N,rfl⟩:∃m,N=m+2:=⟨N - 2,by omega⟩;have t:=bH;obtain⟨b,g,r⟩:=lp (F:=λm k (_:Unit)=>B3 N m (l,((l.length:Nat):Int),(k:Int))) (n:=l.length) (Q:=λb=>(b=.inl ()/\∀e∈l,Q1 e)\/∃k:Nat,b=.inr (k:Int)/\¬∀e∈l,Q1 e) (I:=λk _=>∀e∈l.take k,Q1 e) (λm k s j d=>by
  obtain⟨x,f⟩:=get_at (xs:=l) (i:=k) j;have p:=aqw f;obtain⟨o,q,a⟩:=adQ (N:=N) (by omega) x;rw[GJ,dV (by omega),ba f,ob,q,ob];cases o with
  |true=>exact .inr ⟨_,rfl,.inr ⟨k,rfl,λh=>by have:=a.2 (h x p);cases this⟩⟩
  |false=>
   refine .inl ⟨(),λe c=>?_,by rw[aqi,cn (by omega)]⟩;rw[cG f]at c;rcases aqp.1 c with c|c
   ·exact d e c
   ·rw[aqB.1 c];exact a.1 rfl) (λm s d=>⟨_,by rw[GJ,dN (by omega)],.inl ⟨rfl,by rw[aqQ (aqf _)]at d;exact d⟩⟩) (m:=N) (i:=0) (s:=()) (by omega) (by omega) (by simp)
 rw[show((0:Nat):Int)=(0:Int)from rfl]at g;rw[afX,abi,g,ob];rcases r with⟨rfl,h⟩|⟨k,rfl,h⟩
 ·exact⟨_,rfl,λ_=>h,λ_=>rfl⟩
 ·refine⟨_,rfl,λa=>?_,λa=>absurd a h⟩
  have:=asn a;omega
def WR(k:Int)(es:List (Int×Int))(qs:List (Int×Int×Int)):Prop:=
 ((k=1\/k=2)/\qs=[]/\es.length<=60/\∀e∈es,OA e)\/(k=3/\es=[]/\qs.length<=60/\∀a∈qs,Q1 a)
def zW{N:Nat}(z:Fu+6<=N)(k:Int)(a:List (Int×Int))(d:List (Int×Int×Int))(u:a.length<=100000)(w:d.length<=100000):∃b,IU N (k,a,d)=some b/\(b=true↔WR k a d):=by
 obtain⟨N,rfl⟩:∃m,N=m+2:=⟨N - 2,by omega⟩;obtain⟨q,s,l⟩:=agE (N:=N+1) (by omega) a u;obtain⟨r,t,n⟩:=agF (N:=N+1) (by omega) d w;have p:∀b:Bool,(b=true↔k=1\/k=2)->∃c,(aW (some (k,b,k,a,d)) λe=>cond e.2.1
  (cond (decide ((((List.length e.2.2.2.2):Nat):Int)=(0:Int)))
   (cond (decide ((((List.length e.2.2.2.1):Nat):Int)<=(60:Int)))
    (aW (abf (N+1) e.2.2.2.1) λx=>
     some (!x))
    (some false))
   (some false))
  (cond (decide (e.1=(3:Int)))
   (cond (decide ((((List.length e.2.2.2.1):Nat):Int)=(0:Int)))
    (cond (decide ((((List.length e.2.2.2.2):Nat):Int)<=(60:Int)))
     (aW (abj (N+1) e.2.2.2.2) λy=>
      some (!y))
     (some false))
    (some false))
   (some false)))=some c/\(c=true↔WR k a d):=λb o=>by
   rw[ob];simp only;unfold WR;cases b with
   |true=>
    have g:=o.1 rfl;rw[aqE,cd];by_cases f:d=[]
    ·subst f
     rw[aqd (by simp),cd];by_cases j:a.length<=60
     ·rw[aqd (by omega),s,ob]
      refine⟨_,rfl,?_⟩;cases q
      ·exact⟨λ_=>.inl ⟨g,rfl,j,l.1 rfl⟩,λ_=>rfl⟩
      ·refine⟨λh=>(by cases h),?_⟩
       rintro(⟨_,_,_,h⟩|⟨h,_⟩)
       ·exact absurd (l.2 h) (by simp)
       ·omega
     ·rw[aqc (by omega)]
      refine⟨_,rfl,λh=>(by cases h),?_⟩;rintro(⟨_,_,h,_⟩|⟨h,_⟩)<;>omega
    ·have v:d.length≠0:=λh=>f (arh h)
     rw[aqc (by omega)];refine⟨_,rfl,λh=>(by cases h),?_⟩;rintro(⟨_,h,_⟩|⟨h,_⟩)
     ·exact absurd h f
     ·omega
   |false=>
    have g:¬(k=1\/k=2):=λh=>by have:=o.2 h;cases this
    rw[aqi,cd];by_cases i:k=3
    ·rw[aqd i,cd]
     by_cases f:a=[]
     ·subst f
      rw[aqd (by simp),cd];by_cases j:d.length<=60
      ·rw[aqd (by omega),t,ob]
       refine⟨_,rfl,?_⟩;cases r
       ·exact⟨λ_=>.inr ⟨i,rfl,j,n.1 rfl⟩,λ_=>rfl⟩
       ·refine⟨λh=>(by cases h),?_⟩
        rintro(⟨h,_⟩|⟨_,_,_,h⟩)
        ·exact absurd h g
        ·exact absurd (n.2 h) (by simp)
      ·rw[aqc (by omega)]
       refine⟨_,rfl,λh=>(by cases h),?_⟩;rintro(⟨h,_⟩|⟨_,_,h,_⟩)
       ·exact absurd h g
       ·omega
     ·have v:a.length≠0:=λh=>f (arh h)
      rw[aqc (by omega)];refine⟨_,rfl,λh=>(by cases h),?_⟩;rintro(⟨h,_⟩|⟨_,h,_⟩)
      ·exact absurd h g
      ·exact absurd h f
    ·rw[aqc i]
     refine⟨_,rfl,λh=>(by cases h),?_⟩;rintro(⟨h,_⟩|⟨h,_⟩)
     ·exact absurd h g
     ·exact absurd h i
 rw[Xt,Qk,cd];by_cases c:k=1
 ·rw[aqd c];exact p true (by simp[c])
 ·rw[aqc c];exact p (decide (k=2)) (by simp[c])
def sj(a:Int×Int×Int):List Int:=if a.1=1 then [a.2.1,a.2.2]else if a.1=2\/a.1=3 then [a.2.1]else []
def uU(es:List (Int×Int))(qs:List (Int×Int×Int)):List Int:=es.flatMap (λe=>[e.1,e.2])++qs.flatMap sj
def E4(a:Int×Int×Int):(sj a).length<=2:=by unfold sj;split<;>(try split)<;>simp
def adR(c:1<=a)(b:Int×Int×Int):Ty a (b.1,b.2.1,b.2.2)=some (sj b):=by
 obtain⟨a,rfl⟩:∃m,a=m+1:=⟨a - 1,by omega⟩;rw[abk,cd,cd,cd];unfold sj;split
 ·rfl
 ·split
  ·rw[aqd (by omega)]
  ·split
   ·rw[aqd (by omega)]
   ·rw[aqc (by omega)]
def VY(t:Fu+3<=a)(k:Int)(c:List (Int×Int))(d:List (Int×Int×Int))(u:c.length<=1000)(w:d.length<=1000):TH a (k,c,d)=some (uU c d):=by
 obtain⟨a,rfl⟩:∃m,a=m+1:=⟨a - 1,by omega⟩;have r:=bH;have j:=lpv (F:=λm i (s:List Int)=>B5 a m (c,((c.length:Nat):Int),(i:Int),k,c,d,s)) (n:=c.length) (b:=(k,c,d,c.flatMap λe=>[e.1,e.2])) (I:=λi s=>s=(c.take i).flatMap (λe=>[e.1,e.2])/\s.length<=2*i) (λm i s h f=>by
  obtain⟨x,g⟩:=get_at (xs:=c) (i:=i) h;have:=f.2;exact⟨s++[x.1,x.2],⟨by rw[f.1,cG g,auT];rfl,by simp;omega⟩,by rw[GL,dV (by omega),ba g,ob,cE (by omega) (by simp;omega),ob,cn (by omega)]⟩) (λm s f=>by rw[GL,dN (by omega),f.1,aqQ (aqf _)]) (m:=a) (i:=0) (s:=[]) (by omega) (by omega) ⟨by simp,by simp⟩
 have p:∀l:List (Int×Int),(l.flatMap λe=>[e.1,e.2]).length=2*l.length:=λl=>by
  induction l with
  |nil=>rfl
  |cons x l q=>rw[aqO,aqy,q];simp;omega
 have o:=lpv (F:=λm i (s:List Int)=>B4 a m (d,((d.length:Nat):Int),(i:Int),s)) (n:=d.length) (b:=uU c d) (I:=λi s=>s=(c.flatMap λe=>[e.1,e.2])++(d.take i).flatMap sj/\s.length<=2000+2*i) (λm i s h f=>by
  obtain⟨x,g⟩:=get_at (xs:=d) (i:=i) h;have:=f.2;have v:=E4 x;exact⟨s++sj x,⟨by rw[f.1,cG g,auT,aqJ];simp,by rw[aqy];omega⟩,by rw[GK,dV (by omega),ba g,ob,adR (by omega),ob,cE (by omega) (by omega),ob,cn (by omega)]⟩) (λm s f=>by rw[GK,dN (by omega),f.1,aqQ (aqf _)];rfl) (m:=a) (i:=0) (s:=c.flatMap λe=>[e.1,e.2]) (by omega) (by omega) ⟨by simp,by rw[p];omega⟩
 rw[show((0:Nat):Int)=(0:Int)from rfl]at j o;rw[abl,j,ob];simp only;rw[o,ob]
def HJ(b:List (Int×Int))(a:List (Int×Int×Int))(g:b.length<=1000)(h:a.length<=1000):(uU b a).length<=4000:=by
 have d:∀l:List (Int×Int),(l.flatMap λe=>[e.1,e.2]).length=2*l.length:=λl=>by
  induction l with
  |nil=>rfl
  |cons x l c=>rw[aqO,aqy,c];simp;omega
 have f:∀l:List (Int×Int×Int),(l.flatMap sj).length<=2*l.length:=λl=>by
  induction l with
  |nil=>simp
  |cons x l c=>rw[aqO,aqy,aqC];have:=E4 x;omega
 have:=f a;unfold uU;rw[aqy,d];omega
def OB{N:Nat}(t:Fu+4<=N)(n:Int)(e:List bT)(a:List Int)(d:a.length<=100000):∃b,TM N (a,n,e)=some (b,n,e)/\(b=false↔∀v∈a,v<n):=by
 obtain⟨N,rfl⟩:∃m,N=m+2:=⟨N - 2,by omega⟩;have r:=bH;obtain⟨b,l,q⟩:=lp (F:=λm k (_:Unit)=>B6 N m (a,((a.length:Nat):Int),(k:Int),n,e)) (n:=a.length) (Q:=λb=>(b=.inl (n,e)/\∀v∈a,v<n)\/∃k:Nat,b=.inr ((k:Int),n,e)/\¬∀v∈a,v<n) (I:=λk _=>∀v∈a.take k,v<n) (λm k s o f=>by
  obtain⟨x,j⟩:=get_at (xs:=a) (i:=k) o;have p:=aqw j;obtain⟨M,rfl⟩:∃M,N=M+1:=⟨N - 1,by omega⟩;rw[GM,dV (by omega),ba j,ob,abn,ob];simp only;rw[cd];by_cases c:n<=x
  ·rw[aqd c];exact .inr ⟨_,rfl,.inr ⟨k,rfl,λh=>by have:=h x p;omega⟩⟩
  ·rw[aqc c,cn (by omega)]
   refine .inl ⟨(),λv d=>?_,rfl⟩;rw[cG j]at d;rcases aqp.1 d with d|d
   ·exact f v d
   ·rw[aqB.1 d];omega) (λm s f=>⟨_,by rw[GM,dN (by omega)],.inl ⟨rfl,by rw[aqQ (aqf _)]at f;exact f⟩⟩) (m:=N) (i:=0) (s:=()) (by omega) (by omega) (by simp)
 rw[show((0:Nat):Int)=(0:Int)from rfl]at l;rw[abq,abp,l,ob];rcases q with⟨rfl,h⟩|⟨k,rfl,h⟩
 ·exact⟨_,rfl,λ_=>h,λ_=>rfl⟩
 ·refine⟨_,rfl,λg=>?_,λg=>absurd g h⟩
  have:=asn g;simp only at this;omega
end
end Go.Proofs.YtmdbmigbihboaaaGreatDoor
namespace Go.Proofs.YtmdbmigbihboaaaGreatDoor.Dd
def lp{σ β:Type}{F:Nat->Nat->σ->Option β}{n:Nat}{I:Nat->σ->Prop}{Q:β->Prop}(g:∀m i s,i<n->I i s->(∃d,I (i+1) d/\F (m+1) i s=F m (i+1) d)\/∃b,F (m+1) i s=some b/\Q b)
 (f:∀m s,I n s->∃b,F (m+1) n s=some b/\Q b):∀{m i:Nat} {s:σ},n - i<m->i<=n->I i s->∃b,F m i s=some b/\Q b
 |0,i,s,h,_,_=>absurd h (by omega)
 |m+1,i,s,h,k,e=>by
  by_cases c:i<n
  ·rcases g m i s c e with⟨d,a,j⟩|a
   ·rw[j];exact lp g f (by omega) (by omega) a
   ·exact a
  ·obtain rfl:i=n:=by omega
   exact f m s e
def Q2{σ β:Type}{F:Nat->Nat->σ->Option β}{n:Nat}{I:Nat->σ->Prop}{Q:β->Prop}(g:∀m i s,i<n->I i s->∃a,I (i+1) a/\F (m+1) i s=F m (i+1) a)(e:∀m s,I n s->∃b,F (m+1) n s=some b/\Q b)
 {m:Nat} {s:σ} (h:n<m) (c:I 0 s):∃b,F m 0 s=some b/\Q b:=lp (λm i s f d=>.inl (g m i s f d)) e (by omega) (by omega) c
def wU(x:Int):wrap .u32 x=x % 4294967296:=auU x
def adS{α:Type}{a:List α}{f:Nat->α}{k:Nat}(b:k<a.length)(h:∀j,j<k->a[j]? =some (f j)):∀j,j<k+1->(a.set k (f k))[j]? =some (f j):=λj d=>by
 rw[arf];by_cases c:k=j
 ·subst c;rw[aqd rfl,aqd b]
 ·rw[aqc c];exact h j (by omega)
def yJ{α:Type}{a:List α}{f:Nat->α}{n:Nat}(b:a.length=n)(h:∀j,j<n->a[j]? =some (f j)):a=(List.range n).map f:=by
 refine arZ λj=>?_;by_cases c:j<n
 ·rw[h j c,aqA,ato c];rfl
 ·rw[aq1 (by omega),aq1 (by simp;omega)]
def oK(l:List Int)(i:Nat):Int:=(l.take i).sum % 4294967296
def OC{l:List Int}{i:Nat}{x:Int}(h:l[i]? =some x):oK l (i+1)=(oK l i+x) % 4294967296:=by
 unfold oK;rw[List.take_add_one,h];simp
def bJ(l:List Int)(b i:Nat):List Int:=(l.take ((i+1)*b)).drop (i*b)
def adT(l:List Int)(b i:Nat):l.take (i*b)++bJ l b i=l.take ((i+1)*b):=by
 unfold bJ;have:l.take (i*b)=(l.take ((i+1)*b)).take (i*b):=by
  rw[asw,arB (asu _ (by omega))]
 rw[this,ar7]
def JL(l:List Int)(b i:Nat):(bJ l b i).length=min ((i+1)*b) l.length - i*b:=by simp[bJ]
def JM{l:List Int}{b:Nat}{a:List Int}:∀(i:Nat),(∀j,j<i->a[j]? =some ((bJ l b j).sum % 4294967296))->oK a i=oK l (i*b)
 |0,_=>by simp[oK]
 |i+1,h=>by
  rw[OC (h i (by omega)),JM i (λj c=>h j (by omega))];unfold oK;rw[<-adT,at2];simp
def amQ{l:List Int}{b i k:Nat}(a:k<=b):(oK l (i*b)+oK (bJ l b i) k) % 4294967296=oK l (i*b+k):=by
 have:l.take (i*b)++(bJ l b i).take k=l.take (i*b+k):=by
  unfold bJ;rw[List.take_drop,asw,aty,arB (by omega)];have:l.take (i*b)=(l.take (i*b+k)).take (i*b):=by
   rw[asw,arB (by omega)]
  rw[this,ar7]
 unfold oK;rw[<-this,at2];simp
def fV(l:List Int):List Int:=(List.range l.length).map (oK l)
def vD{l:List Int}{i:Nat}(h:i<l.length):(fV l)[i]? =some (oK l i):=by
 unfold fV;rw[aqA,ato h];rfl
def E7{N:Nat}(h:Fu+3<=N)(l:List Int)(p:l.length<=100000):GW N l=some (oK l l.length,fV l):=by
 obtain⟨N,rfl⟩:∃M,N=M+2:=⟨N - 2,by omega⟩;have g:=bH;obtain⟨b,d,rfl⟩:=Q2 (F:=λm k (s:Int×List Int)=>B9 (N+1) m (s.1,l,((l.length:Nat):Int),(k:Int),s.2)) (n:=l.length) (Q:=λb=>b=(oK l l.length,fV l)) (I:=λk s=>s.1=oK l k/\s.2.length=l.length/\∀j,j<k->s.2[j]? =some (oK l j)) (λm k s c a=>by
  obtain⟨x,e⟩:=get_at (xs:=l) (i:=k) c;obtain⟨y,f⟩:=get_at (xs:=s.2) (i:=k) (by rw[a.2.1];exact c);refine⟨(oK l (k+1),s.2.set k (oK l k)),⟨rfl,by simp[a.2.1],adS (by rw[a.2.1];exact c) a.2.2⟩,?_⟩;rw[GX,dV (by omega),ba e,ob,ba f,ob,ob,GV,ob,wU,a.1,<-OC e,cn (by omega)];rfl) (λm s a=>⟨_,by rw[GX,dN (by omega)],by rw[a.1,yJ a.2.1 a.2.2];rfl⟩) (m:=N+1) (s:=(0,List.replicate l.length 0)) (by omega) ⟨by simp[oK],by simp,λj o=>by omega⟩
 rw[abM,mf (by omega) (by omega) (by omega),ob,aqo];rw[show((0:Nat):Int)=(0:Int)from rfl]at d;rw[d,ob]
def vE(n b:Nat):Nat:=(n+b - 1)/b
def zX{n b i:Nat}(a:1<=b):i<vE n b↔i*b<n:=by
 unfold vE;rw[Nat.lt_iff_add_one_le,atX (by omega),aty];omega
def E8{n b:Nat}(a:1<=b):vE n b<=n:=by
 unfold vE;rcases atp n with h|h
 ·subst h;rw[auG (by omega)];omega
 ·rw[Nat.div_le_iff_le_mul_add_pred (by omega)]
  have:n<=b*n:=Nat.le_mul_of_pos_left n (by omega);omega
def Cv{N:Nat}(m:1<=N){l:List Int}{b i:Nat}(n:b<=100)(f:1<=b)(o:l.length<=100000)(g:i<vE l.length b):DY N (l,(i:Int),(b:Int))=some (bJ l b i):=by
 obtain⟨N,rfl⟩:∃M,N=M+1:=⟨N - 1,by omega⟩;have h:=(zX f).1 g;have a:(i:Int)*(b:Int)=((i*b:Nat):Int):=by rw[ar9]
 have d:((i:Int)+1)*(b:Int)=(((i+1)*b:Nat):Int):=by rw[ar9];rfl
 have j:(i+1)*b=i*b+b:=aty _ _;have k:i<=i*b:=avq i (by omega);rw[XJ,show wrap .i64 ((i:Int)+1)=(i:Int)+1 from gG (by omega) (by omega),a,d,gG (x:=((i*b:Nat):Int)) (by omega) (by omega),gG (x:=(((i+1)*b:Nat):Int)) (by omega) (by omega)];have e:(if(((i+1)*b:Nat):Int)<((l.length:Nat):Int)then(((i+1)*b:Nat):Int)else((l.length:Nat):Int))=((min ((i+1)*b) l.length:Nat):Int):=by split<;>omega
 rw[e,Qw (by omega) (by omega) (by omega),ob];unfold bJ;rw[aqo,aqo];congr 2;rcases att ((i+1)*b) l.length with c|c
 ·rw[arB c]
 ·rw[atu c,aqQ (aqf _),aqQ c]
def adU(g P:Int)(adV:List (Int×Int)):Prop:=∀n:Nat,n<=60->∃(t:Nat) (us:List Int),us.Perm (Sp.si n)/\t<=100000/\∀N,Fu+13<=N->jX N ((n:Int),g,P,adV)=some ((t:Int),0,us)
def amR{g P:Nat}(b:1<=g)(e:g<=8)(f:1<=P)(c:P<=8){a:List (Int×Int)}(k:a.length<=200):adU (g:Int) (P:Int) a:=λn j=>by
 rcases atp n with h|h
 ·subst h
  refine⟨0,[],by simp[Sp.si],by omega,λN i=>?_⟩;obtain⟨N,rfl⟩:∃m,N=m+2:=⟨N - 2,by omega⟩;rw[GU,dN (by omega),dN (by omega),GO,dV (by omega),dV (by omega),dV (by omega),dV (by omega),ob,aqH (show((a.length:Nat):Int)<=4000 by omega)];rfl
 ·obtain⟨s,d,p,t,q⟩:=Sp.adJ (n:=n) (by omega) j b e f c a k
  have u:=Sp.Ol (g:=g) b n n (aqf _) (by omega);have r:P*Sp.tn g n<=8*119:=arO c (by omega);have o:=d.cr.ovr.1 p;have l:=d.cr.job.pu;rw[o,atY,aqV]at l;exact⟨_,_,l,by omega,λN i=>Sp.adL (by omega) j b e f c k d (by omega) q i⟩
def yK{n:Nat}{x:Int}:x∈Sp.si n↔∃i:Nat,x=(i:Int)/\i<n:=by
 unfold Sp.si;simp only[aqq,are];constructor
 ·rintro⟨i,h,rfl⟩;exact⟨i,rfl,h⟩
 ·rintro⟨i,rfl,h⟩;exact⟨i,h,rfl⟩
def YE{N:Nat}(c:2<=N){n b:Nat}(e:n<=1000)(a:1<=b)(d:b<=100):IX N ((n:Int),(b:Int))=some ((vE n b:Nat):Int):=by
 obtain⟨N,rfl⟩:∃M,N=M+2:=⟨N - 2,by omega⟩;have:=E8 (n:=n) a;rw[Xw,dN (by omega),dN (by omega),GN,dV (by omega),ob,aqH (by omega)];simp only[aqv,aqi];rw[show wrap .i64 ((n:Int)+(b:Int))=((n+b:Nat):Int) by rw[gG (by omega) (by omega)];omega,show wrap .i64 (((n+b:Nat):Int) - 1)=((n+b - 1:Nat):Int) by rw[gG (by omega) (by omega)];omega,Qx (by omega),ob,yk];rw[show(n+b - 1)/b=vE n b from rfl,gG (by omega) (by omega)]
def VZ{N:Nat}(hN:Fu+20<=N){g P:Int}{Y:List (Int×Int)}(hO:adU g P Y){l:List Int}(hl:l.length<=60){b:Nat}(w:1<=b)(H:b<=100):
 ∃t:Nat,t<=200000/\DZ N (l,(b:Int),g,P,Y)=some (oK l l.length,(t:Int),0,fV l):=by
 obtain⟨N,rfl⟩:∃M,N=M+2:=⟨N - 2,by omega⟩;have hF:=bH;have ab:=E8 (n:=l.length) w;obtain⟨t,f,G,ht,J⟩:=hO (vE l.length b) (by omega);refine⟨2*t,by omega,?_⟩;have ac:f.length<=60:=by rw[G.length_eq];simp[Sp.si];omega
 have X:∀{k:Nat} {x:Int},f[k]? =some x->∃i:Nat,x=(i:Int)/\i<vE l.length b:=λh=>yK.1 (G.mem_iff.1 (aqw h));obtain⟨b1,O,p,rfl,a5,W⟩:=Q2 (F:=λm k (s:List Int)=>Ca N m (l,(b:Int),(t:Int),((f.length:Nat):Int),(k:Int),f,s)) (n:=f.length) (Q:=λr=>∃p:List Int,r=(l,(b:Int),(t:Int),f,p)/\p.length=vE l.length b/\∀j,j<vE l.length b->p[j]? =some ((bJ l b j).sum % 4294967296))
  (I:=λk s=>s.length=vE l.length b/\∀j:Nat,(j:Int)∈f.take k->s[j]? =some ((bJ l b j).sum % 4294967296)) (λm k s C e=>by
   obtain⟨x,z⟩:=get_at (xs:=f) (i:=k) C;obtain⟨i,rfl,q⟩:=X z;obtain⟨y,K⟩:=get_at (xs:=s) (i:=i) (by rw[e.1];exact q);have E:(bJ l b i).length<=100000:=by rw[JL];omega
   refine⟨s.set i ((bJ l b i).sum % 4294967296),⟨by simp[e.1],λj o=>?_⟩,?_⟩
   ·rw[arf]
    by_cases c:i=j
    ·subst c;rw[aqd rfl,aqd (by rw[e.1];exact q)]
    ·rw[aqc c]
     rw[cG z]at o;rcases aqp.1 o with o|o
     ·exact e.2 j o
     ·have:=aqB.1 o;omega
   ·rw[G1,dV (by omega),ba z,ob,ob,Cv (by omega) H w (by omega) q,ob,E7 (by omega) _ E,ob,ba K,ob,ob,cn (by omega)]
    unfold oK;rw[aqQ (aqf _)];rfl) (λm s e=>⟨_,by rw[G1,dN (by omega)],s,rfl,e.1,λj o=>e.2 j (by rw[aqQ (aqf _)];exact G.mem_iff.2 (yK.2 ⟨j,rfl,o⟩))⟩) (m:=N) (s:=List.replicate (vE l.length b) 0) (by omega) ⟨by simp,λj o=>by simp at o⟩
 have a0:oK p p.length=oK l l.length:=by
  rw[a5,JM _ W];unfold oK;have a2:l.length<=vE l.length b*b:=by
   rcases asQ (vE l.length b*b) l.length with c|c
   ·have:=(zX w).2 c;omega
   ·exact c
  rw[aqQ a2,aqQ (aqf _)]
 have a7:(fV p).length=p.length:=by simp[fV]
 have eK:∀i:Nat,i<vE l.length b->∀(v:Int) (D:List Int),D.length=l.length->∃r,xw N N (l,(b:Int),oK l l.length,(t:Int),(i:Int),((f.length:Nat):Int),v,(((fV (bJ l b i)).length:Nat):Int),((0:Nat):Int),D,fV p,f,fV (bJ l b i))=some r/\∃B:List Int,r=(l,(b:Int),oK l l.length,(t:Int),((f.length:Nat):Int),v,B,fV p,f)/\
  B.length=l.length/\∀j:Nat,(i*b<=j->j<(i+1)*b->j<l.length->B[j]? =some (oK l j))/\(j<i*b\/(i+1)*b<=j->B[j]? =D[j]?):=λi q v D J=>by
  have E:=JL l b i;have a9:=(zX w).1 q;have h2:(i+1)*b=i*b+b:=aty _ _;have a8:i<=i*b:=avq i (by omega);have Z:(i:Int)*(b:Int)=((i*b:Nat):Int):=by rw[ar9]
  have aa:(fV (bJ l b i)).length=(bJ l b i).length:=by simp[fV]
  refine Q2 (F:=λm k (s:List Int)=>xw N m (l,(b:Int),oK l l.length,(t:Int),(i:Int),((f.length:Nat):Int),v,(((fV (bJ l b i)).length:Nat):Int),(k:Int),s,fV p,f,fV (bJ l b i))) (n:=(bJ l b i).length)
   (I:=λk s=>s.length=l.length/\∀j:Nat,(i*b<=j->j<i*b+k->s[j]? =some (oK l j))/\(j<i*b\/i*b+k<=j->s[j]? =D[j]?)) (λm k s C e=>?_) (λm s e=>⟨_,by rw[GY,dN (by omega)],s,rfl,e.1,λj=>⟨λA L h5=>(e.2 j).1 A (by omega),λA=>(e.2 j).2 (by omega)⟩⟩) (by omega) ⟨J,λj=>⟨λA L=>by omega,λ_=>rfl⟩⟩
  have S:i*b+k<l.length:=by omega
  obtain⟨y,K⟩:=get_at (xs:=s) (i:=i*b+k) (by rw[e.1];exact S);have a1:(fV p)[i]? =some (oK l (i*b)):=by rw[vD (by omega),JM i λj o=>W j (by omega)]
  refine⟨s.set (i*b+k) (oK l (i*b+k)),⟨by simp[e.1],λj=>⟨λA L=>?_,λA=>?_⟩⟩,?_⟩
  ·rw[arf]
   by_cases c:i*b+k=j
   ·subst c;rw[aqd rfl,aqd (by rw[e.1];exact S)]
   ·rw[aqc c];exact(e.2 j).1 A (by omega)
  ·rw[arf,aqc (by omega)]
   exact(e.2 j).2 (by omega)
  ·rw[GY,dV (by omega),ba (vD C),ob,ob,ba a1,ob,ob,show N=(N - 1)+1 by omega,GV,<-show N=(N - 1)+1 by omega,ob,wU,amQ (by omega),Z,show wrap .i64 ((i*b:Nat):Int)=((i*b:Nat):Int)from gG (by omega) (by omega),show wrap .i64 (((i*b:Nat):Int)+(k:Int))=((i*b+k:Nat):Int) by rw[gG (by omega) (by omega)];omega,ba K,ob,ob,cn (by omega),aqo]
 obtain⟨b2,R,rfl⟩:=Q2 (F:=λm k (s:List Int)=>B_ N m (l,(b:Int),oK l l.length,(t:Int),((f.length:Nat):Int),(k:Int),s,fV p,f)) (n:=f.length) (Q:=λr=>r=(oK l l.length,(t:Int),fV l))
  (I:=λk s=>s.length=l.length/\∀j:Nat,j<l.length->((j/b:Nat):Int)∈f.take k->s[j]? =some (oK l j)) (λm k s C e=>by
   obtain⟨x,z⟩:=get_at (xs:=f) (i:=k) C;obtain⟨i,rfl,q⟩:=X z;have E:(bJ l b i).length<=100000:=by rw[JL];omega
   obtain⟨r,V,B,rfl,a4,U⟩:=eK i q (k:Int) s e.1;refine⟨B,⟨a4,λj o u=>?_⟩,?_⟩
   ·rw[cG z]at u
    by_cases c:j/b=i
    ·subst c
     exact(U j).1 (avr _ _) (by have:=Nat.lt_div_mul_add (a:=j) (b:=b) (by omega);rw[aty];exact this) o
    ·have a3:((j/b:Nat):Int)∈f.take k:=by
      rcases aqp.1 u with u|u
      ·exact u
      ·have:=aqB.1 u;omega
     rw[(U j).2 ?_]
     ·exact e.2 j o a3
     ·rcases asQ (j/b) i with d|d
      ·exact .inl ((Nat.div_lt_iff_lt_mul (by omega)).1 d)
      ·exact .inr ((atX (by omega)).1 (by omega))
   ·rw[show((0:Nat):Int)=(0:Int)from rfl]at V
    rw[GZ,dV (by omega),ba z,ob,ob,Cv (by omega) H w (by omega) q,ob,E7 (by omega) _ E,ob];simp only;rw[V,ob,cn (by omega)]) (λm s e=>⟨_,by rw[GZ,dN (by omega)],by
    rw[yJ e.1 λj o=>e.2 j o (by rw[aqQ (aqf _)];exact G.mem_iff.2 (yK.2 ⟨_,rfl,(zX w).2 (Nat.lt_of_le_of_lt (avr _ _) o)⟩))];rfl⟩) (m:=N) (s:=List.replicate l.length 0) (by omega) ⟨by simp,λj o u=>by simp at u⟩
 have a6:p.length<=100000:=by omega
 rw[XK,abO,show N=(N - 1)+1 by omega,GN,<-show N=(N - 1)+1 by omega,dV (by omega),ob,aqH (by omega)];simp only[aqv,aqi];rw[dN (by omega),YE (by omega) (by omega) w H,ob,J N (by omega),ob,yV rfl,mf (by omega) (by omega) (by omega),ob,aqo];simp only;rw[show((0:Nat):Int)=(0:Int)from rfl]at O R;rw[O,ob];simp only;rw[E7 (by omega) p a6,ob,mf (by omega) (by omega) (by omega),ob,aqo,a0,R,ob,ob];simp only;rw[gG (by omega) (by omega)];have e2:(2:Int)*(t:Int)=((2*t:Nat):Int):=by omega
 rw[e2]
def HK{α:Type}(f:α->Nat)(d:Nat)(l:List α):l.countP (λi=>decide (f i<d+1))=l.countP (λi=>decide (f i<d))+l.countP (λi=>decide (f i=d)):=by
 induction l with
 |nil=>rfl
 |cons x l c=>
  simp only[List.countP_cons,c,ard];by_cases a:f x<d
  ·rw[aqd (by omega),aqd a,aqc (by omega)];omega
  ·by_cases b:f x=d
   ·rw[aqd (by omega),aqc a,aqd b];omega
   ·rw[aqc (by omega),aqc a,aqc b];omega
def sm{α:Type}{f:α->Nat}{l:List α}{k:Nat}{x:α}(h:l[k]? =some x)(d:Nat):(l.take (k+1)).countP (λi=>decide (f i=d))=(l.take k).countP (λi=>decide (f i=d))+if f x=d then 1 else 0:=by
 rw[cG h,as1,List.countP_cons];simp
def adW{α:Type}{f:α->Nat}{l:List α}{k:Nat}{x:α}(h:l[k]? =some x):l.countP (λi=>decide (f i<f x))+(l.take k).countP (λi=>decide (f i=f x))<l.length:=by
 have b:=HK f (f x) l;have c:l.countP (λi=>decide (f i<f x+1))<=l.length:=atx;have a:(l.take (k+1)).countP (λi=>decide (f i=f x))<=l.countP (λi=>decide (f i=f x)):=(List.take_sublist _ _).countP_le;rw[sm h,aqd rfl]at a;omega
def ahN{b:Nat}(a:b<=16):2^b<=65536/\1<=2^b:=⟨auV (by omega) a,Nat.one_le_two_pow⟩
def HL{N:Nat}(c:1<=N){b:Nat}(a:1<=b)(d:b<=16):L8 N (b:Int)=some ((vE 32 b:Nat):Int):=by
 obtain⟨N,rfl⟩:∃M,N=M+1:=⟨N - 1,by omega⟩;have:=E8 (n:=32) a;rw[abr,dN (by omega),dN (by omega),show wrap .i64 ((32:Int)+(b:Int))=((32+b:Nat):Int) by rw[gG (by omega) (by omega)];omega,show wrap .i64 (((32+b:Nat):Int) - 1)=((32+b - 1:Nat):Int) by rw[gG (by omega) (by omega)];omega,Qx (by omega),ob,yk];rw[show(32+b - 1)/b=vE 32 b from rfl,gG (by omega) (by omega)]
def OD(b p:Nat)(x:Int):Nat:=(x.fdiv (2^(p*b)) % 2^b).toNat
def E9{x:Int}(e:0<=x)(k:x<4294967296){b p:Nat}(c:1<=b)(f:b<=16)(m:p<vE 32 b):OD b p x<2^b/\∀M,3<=M->ME M (x,(p:Int),(b:Int))=some (OD b p x:Int):=by
 unfold OD;have r:=ahN f;have o:p*b<32:=(zX c).1 m;have j:(p:Int)*(b:Int)=((p*b:Nat):Int):=by rw[ar9]
 have d:(2:Int)^b=((2^b:Nat):Int):=by simp
 have g:0<=x.fdiv (2^(p*b))/\x.fdiv (2^(p*b))<4294967296:=by
  have:(0:Int)<2^(p*b):=Int.pow_pos (by decide);rw[auQ _ (by omega)];exact⟨Int.ediv_nonneg e (by omega),Int.lt_of_le_of_lt (Int.ediv_le_self _ e) k⟩
 have l:(0:Int)<2^b:=Int.pow_pos (by decide);refine⟨?_,λM s=>?_⟩
 ·have i:=Int.emod_nonneg (x.fdiv (2^(p*b))) (show(2:Int)^b≠0 by omega)
  have q:=Int.emod_lt_of_pos (x.fdiv (2^(p*b))) l;omega
 obtain⟨M,rfl⟩:∃K,M=K+3:=⟨M - 3,by omega⟩;have u:=E8 (n:=32) c;rw[abS,abR,dV (by omega),HL (by omega) c f,ob,ob,aqH (by omega)];simp only[aqv,aqi];rw[j,show wrap .i64 ((p*b:Nat):Int)=((p*b:Nat):Int)from gG (by omega) (by omega)];have h:∀n:Nat,n<32->wrap .u64 (n:Int)=(n:Int):=λn t=>by simp[wrap,IntKind.bits,IntKind.signed];omega
 rw[h _ o,h b (by omega)];unfold Zh Pr;rw[aqc (by omega),aqc (by omega),ob,ob,aqo,aqo,arB (show p*b<=IntKind.bits .u32 by show p*b<=32;omega),arB (show b<=IntKind.bits .u32 by show b<=32;omega),Int.one_mul,wU,wU,d,show((2^b:Nat):Int) % 4294967296=((2^b:Nat):Int) by omega,show(((2^b:Nat):Int) - 1) % 4294967296=((2^b:Nat):Int) - 1 by omega,<-d,Ib];rw[bits_mask .u32 32 (by decide) (λn a b=>by rw[auU];omega) b (by omega) _ g.1 (by simpa using g.2)];have i:=Int.emod_nonneg (x.fdiv (2^(p*b))) (show(2:Int)^b≠0 by omega);congr 1;omega
def YY(l:List Int):Prop:=∀x∈l,0<=x/\x<4294967296
def FA(n:Nat)(l:List Int):Prop:=∀x∈l,∃i:Nat,x=(i:Int)/\i<n
def FA.get{n:Nat}{l:List Int}(h:FA n l){k:Nat}{x:Int}(a:l[k]? =some x):∃i:Nat,x=(i:Int)/\i<n:=h x (aqw a)
def FA.set{n:Nat}{l:List Int}(h:FA n l){i k:Nat}(b:i<n):FA n (l.set k (i:Int)):=λx c=>by
 rcases as3 c with a|a
 ·exact h x a
 ·exact⟨i,a,b⟩
def FA.zero{n m:Nat}(h:0<m->0<n):FA n (List.replicate m 0):=λx a=>by
 have:=List.mem_replicate.1 a;exact⟨0,this.2,h (by omega)⟩
def amS{N:Nat}(hN:Fu+5<=N){l g:List Int}(hk:YY l)(a4:l.length<=1000)(a6:g.length<=1000)(U:FA l.length g){b p:Nat}(G:1<=b)(C:b<=16)(J:p<vE 32 b):
 ∃O,I7 N (l,g,(p:Int),(b:Int))=some O/\O.length=g.length/\FA l.length O:=by
 obtain⟨N,rfl⟩:∃M,N=M+1:=⟨N - 1,by omega⟩;have hF:=bH;have h2:=ahN C;have L:∀{k:Nat} {x:Int},g[k]? =some x->∃(i:Nat) (y:Int),x=(i:Int)/\i<l.length/\l[i]? =some y/\0<=y/\y<4294967296/\l.getD x.toNat 0=y:=λh=>by
  obtain⟨i,rfl,w⟩:=U.get h;obtain⟨y,v⟩:=get_at (xs:=l) (i:=i) w;have:=hk y (aqw v);exact⟨i,y,rfl,w,v,this.1,this.2,by rw[aqo,arI,v];rfl⟩
 obtain⟨f,hf⟩:∃f:Int->Nat,f=λx=>OD b p (l.getD x.toNat 0):=⟨_,rfl⟩;have H:∀x,f x=OD b p (l.getD x.toNat 0):=λx=>by rw[hf]
 have a5:∀{k:Nat} {x:Int},g[k]? =some x->f x<2^b:=λh=>by
  obtain⟨i,y,_,_,_,a,c,e⟩:=L h;rw[H,e];exact(E9 a c G C J).1
 obtain⟨r1,W,t,rfl,c1,c2,c3⟩:=Q2 (F:=λm k (s:List Int)=>xz N m (l,g,(p:Int),(b:Int),g,((g.length:Nat):Int),(k:Int),s)) (n:=g.length) (Q:=λr=>∃t:List Int,r=(l,g,(p:Int),(b:Int),t)/\t.length=2^b+1/\t[0]? =some 0/\∀d,d<2^b->t[d+1]? =some ((g.countP λi=>decide (f i=d):Nat):Int))
  (I:=λk s=>s.length=2^b+1/\s[0]? =some 0/\∀d,d<2^b->s[d+1]? =some (((g.take k).countP λi=>decide (f i=d):Nat):Int)) (λm k s B j=>by
   obtain⟨x,u⟩:=get_at (xs:=g) (i:=k) B;obtain⟨i,y,rfl,w,v,P,R,S⟩:=L u;have o:=E9 P R G C J;have D:f (i:Int)=OD b p y:=by rw[H,S]
   have E:=j.2.2 _ o.1;have a3:((g.take k).countP λi=>decide (f i=OD b p y))<=g.length:=aq9 atx (by rw[aq0];omega);refine⟨s.set (OD b p y+1) (((g.take (k+1)).countP λi=>decide (f i=OD b p y):Nat):Int),⟨by simp[j.1],by rw[arf,aqc (by omega)];exact j.2.1,λd A=>?_⟩,?_⟩
   ·rw[arf]
    by_cases c:OD b p y=d
    ·subst c;rw[aqd rfl,aqd (by omega)]
    ·rw[aqc (by omega),sm u,aqc (by omega)];exact j.2.2 d A
   ·rw[D3,dV (by omega),ba u,ob,ba v,ob,o.2 N (by omega),ob,show wrap .u32 ((OD b p y:Int)+1)=((OD b p y+1:Nat):Int) by rw[aoN (by omega) (by omega)];omega,ba E,ob,ob,ob,ob,cn (by omega),sm u,aqd D,aqo,cn (by omega)]) (λm s j=>⟨_,by rw[D3,dN (by omega)],s,rfl,j.1,j.2.1,λd o=>by rw[j.2.2 d o,aqQ (aqf _)]⟩) (m:=N) (s:=List.replicate (2^b+1) 0) (by omega) ⟨by simp,by simp,λd o=>by rw[asP,aqd (by omega)];simp⟩
 have c4:∀d,d<=0->t[d]? =some ((g.countP λi=>decide (f i<d):Nat):Int):=λd o=>by
  obtain rfl:d=0:=by omega
  rw[c2];simp
 obtain⟨r2,X,a0,rfl,d1,d2⟩:=Q2 (F:=λm k (s:List Int)=>xy N m (l,g,(p:Int),(b:Int),((2^b:Nat):Int),(k:Int),s)) (n:=2^b) (Q:=λr=>∃t:List Int,r=(l,g,(p:Int),(b:Int),t)/\t.length=2^b+1/\∀d,d<=2^b->t[d]? =some ((g.countP λi=>decide (f i<d):Nat):Int))
  (I:=λk s=>s.length=2^b+1/\(∀d,d<=k->s[d]? =some ((g.countP λi=>decide (f i<d):Nat):Int))/\∀d,k<=d->d<2^b->s[d+1]? =some ((g.countP λi=>decide (f i=d):Nat):Int)) (λm k s B j=>by
   have Z:=j.2.1 k (aqf _);have a2:=j.2.2 k (aqf _) B;have l1:(g.countP λi=>decide (f i<k))<=g.length:=atx;have l2:(g.countP λi=>decide (f i=k))<=g.length:=atx;refine⟨s.set (k+1) ((g.countP λi=>decide (f i<k+1):Nat):Int),⟨by simp[j.1],λd o=>?_,λd o A=>?_⟩,?_⟩
   ·rw[arf]
    by_cases c:k+1=d
    ·subst c;rw[aqd rfl,aqd (by omega)]
    ·rw[aqc c];exact j.2.1 d (by omega)
   ·rw[arf,aqc (by omega)];exact j.2.2 d (by omega) A
   ·rw[D2,dV (by omega),cn (by omega),ba a2,ob,ob,ba Z,ob,ob,ob,ob,HK,aqo,show wrap .i64 (((g.countP λi=>decide (f i=k):Nat):Int)+((g.countP λi=>decide (f i<k):Nat):Int))=(((g.countP λi=>decide (f i<k))+(g.countP λi=>decide (f i=k)):Nat):Int) by rw[gG (by omega) (by omega)];omega]) (λm s j=>⟨_,by rw[D2,dN (by omega)],s,rfl,j.1,j.2.1⟩) (m:=N) (s:=t) (by omega) ⟨c1,c4,λd _ o=>c3 d o⟩
 obtain⟨r3,Y,e1,e2⟩:=Q2 (F:=λm k (s:List Int×List Int)=>xx N m (l,(p:Int),(b:Int),g,((g.length:Nat):Int),(k:Int),s.1,s.2)) (n:=g.length) (Q:=λr=>r.length=g.length/\FA l.length r)
  (I:=λk s=>s.1.length=2^b+1/\(∀d,d<2^b->s.1[d]? =some ((g.countP (λi=>decide (f i<d))+(g.take k).countP (λi=>decide (f i=d)):Nat):Int))/\s.2.length=g.length/\FA l.length s.2) (λm k s B j=>by
   obtain⟨x,u⟩:=get_at (xs:=g) (i:=k) B;have K:=adW (f:=f) u;obtain⟨i,y,rfl,w,v,P,R,S⟩:=L u;have o:=E9 P R G C J;have D:f (i:Int)=OD b p y:=by rw[H,S]
   have E:=j.2.1 _ o.1;rw[D]at K;obtain⟨q,V⟩:∃q,q=g.countP (λi=>decide (f i<OD b p y))+(g.take k).countP (λi=>decide (f i=OD b p y)):=⟨_,rfl⟩;rw[<-V]at E K;obtain⟨z,hz⟩:=get_at (xs:=s.2) (i:=q) (by rw[j.2.2.1];exact K);refine⟨(s.1.set (OD b p y) ((q+1:Nat):Int),s.2.set q (i:Int)),⟨by simp[j.1],λd A=>?_,by simp[j.2.2.1],j.2.2.2.set w⟩,?_⟩
   ·rw[arf]
    by_cases c:OD b p y=d
    ·subst c;rw[aqd rfl,aqd (by omega),sm u,aqd D,V];rfl
    ·rw[aqc c,sm u,aqc (by omega)];exact j.2.1 d A
   ·rw[D1,dV (by omega),ba u,ob,ba v,ob,o.2 N (by omega),ob,ba E,ob,ob,ba hz,ob,ob,ob,ob,ob,ob,cn (by omega),cn (by omega),aqo,aqo]) (λm s j=>⟨_,by rw[D1,dN (by omega)],j.2.2.1,j.2.2.2⟩) (m:=N) (s:=(a0,List.replicate g.length 0)) (by omega) ⟨d1,λd o=>by rw[d2 d (by omega)];simp,by simp,FA.zero λh=>by
    obtain⟨x,u⟩:=get_at (xs:=g) (i:=0) h;obtain⟨i,_,w⟩:=U.get u;omega⟩
 refine⟨r3,?_,e1,e2⟩;have u1:wrap .u64 (b:Int)=(b:Int):=by simp[wrap,IntKind.bits,IntKind.signed];omega
 have e3:(2:Int)^b=((2^b:Nat):Int):=by simp
 rw[XL,u1];unfold Pr;rw[aqc (by omega),ob,aqo,arB (show b<=IntKind.bits .i64 by show b<=64;omega),Int.one_mul,e3,show wrap .i64 ((2^b:Nat):Int)=((2^b:Nat):Int)from gG (by omega) (by omega),cn (by omega),mf (by omega) (by omega) (by omega),ob,aqo];rw[show((0:Nat):Int)=(0:Int)from rfl]at W X Y;rw[W,ob];simp only;rw[show wrap .i64 (((t.length:Nat):Int) - 1)=((2^b:Nat):Int) by rw[gG (by omega) (by omega)];omega,X,ob];simp only;rw[mf (by omega) (by omega) (by omega),ob,aqo,Y,ob]
end Go.Proofs.YtmdbmigbihboaaaGreatDoor.Dd
namespace Go.Proofs.YtmdbmigbihboaaaGreatDoor.Dd
structure Bg(bits block g P:Int)(adV:List (Int×Int)):Prop where
 bi:1<=bits/\bits<=16
 bl:1<=block/\block<=100
 o:adU g P adV
def adX{N:Nat}(Z:Fu+25<=N){e f g P:Int}{v:List (Int×Int)}(O:Bg e f g P v){a:List Int}(G:YY a)(H:a.length<=60):
 ∃(t:Nat) (l:List Int),t<=6400000/\I8 N (a,e,f,g,P,v)=some ((t:Int),0,l)/\l.length=a.length/\FA a.length l:=by
 obtain⟨N,rfl⟩:∃M,N=M+1:=⟨N - 1,by omega⟩;have Y:=bH;obtain⟨⟨U,V⟩,⟨W,X⟩,E⟩:=O;obtain⟨b,rfl⟩:∃b:Nat,e=(b:Int):=⟨e.toNat,by omega⟩;obtain⟨c,rfl⟩:∃c:Nat,f=(c:Int):=⟨f.toNat,by omega⟩;obtain⟨t,L,K⟩:=VZ (N:=N) (by omega) E H (b:=c) (by omega) (by omega);have J:=E8 (n:=32) (b:=b) (by omega);have a0:0<vE 32 b:=(zX (by omega)).2 (by omega);have a3:t*vE 32 b<=200000*32:=arO L J;obtain⟨r1,q,R,rfl,w,y⟩:=Q2 (F:=λm k (s:List Int)=>xB N m (a,(b:Int),((vE 32 b:Nat):Int),(t:Int),((a.length:Nat):Int),(k:Int),s)) (n:=a.length) (Q:=λr=>∃o:List Int,r=(a,(b:Int),((vE 32 b:Nat):Int),(t:Int),o)/\o.length=a.length/\FA a.length o)
  (I:=λk s=>s.length=k/\FA a.length s) (λm k s i d=>by
   refine⟨s++[(k:Int)],⟨by simp[d.1],λx j=>?_⟩,?_⟩
   ·rcases aqp.1 j with h|h
    ·exact d.2 x h
    ·exact⟨k,aqB.1 h,i⟩
   ·rw[D5,dV (by omega),cE (by omega) (by simp;omega),ob,cn (by omega)]) (λm s d=>⟨_,by rw[D5,dN (by omega)],s,rfl,d.1,d.2⟩) (m:=N) (s:=[]) (by omega) ⟨rfl,λx j=>by cases j⟩
 obtain⟨r2,u,S,rfl,z,A⟩:=Q2 (F:=λm k (s:List Int)=>xA N m (a,(b:Int),((vE 32 b:Nat):Int),(t:Int),((vE 32 b:Nat):Int),(k:Int),s)) (n:=vE 32 b) (Q:=λr=>∃o:List Int,r=(((vE 32 b:Nat):Int),(t:Int),o)/\o.length=a.length/\FA a.length o)
  (I:=λk s=>s.length=a.length/\FA a.length s) (λm k s i d=>by
   obtain⟨o,B,C,D⟩:=amS (N:=N) (by omega) G (by omega) (by omega) d.2 (b:=b) (p:=k) (by omega) (by omega) i;exact⟨o,⟨by rw[C,d.1],D⟩,by rw[D4,dV (by omega),B,ob,cn (by omega)]⟩) (λm s d=>⟨_,by rw[D4,dN (by omega)],s,rfl,d.1,d.2⟩) (m:=N) (s:=R) (by omega) ⟨w,y⟩
 refine⟨t*vE 32 b,S,by omega,?_,z,A⟩;rw[XM,HL (by omega) (by omega) (by omega),ob,dN (by omega),K,ob,yV rfl];rw[show((0:Nat):Int)=(0:Int)from rfl]at q u;simp only;rw[q,ob];simp only;rw[u,ob];simp only;rw[show(t:Int)*((vE 32 b:Nat):Int)=((t*vE 32 b:Nat):Int) by rw[ar9],gG (by omega) (by omega)]
def adY{N:Nat}(h:Fu+2<=N)(o:List Int)(j:o.length<=1000)(n:Int):∃b,I9 N (o,n)=some b:=by
 obtain⟨N,rfl⟩:∃M,N=M+1:=⟨N - 1,by omega⟩;have g:=bH;obtain⟨r,c,_⟩:=lp (F:=λm k (s:List (Int×Int))=>xD N m (o,n,o,((o.length:Nat):Int),(k:Int),s)) (n:=o.length) (Q:=λr=>True) (I:=λk s=>True) (λm k s e d=>by
  obtain⟨x,f⟩:=get_at (xs:=o) (i:=k) e;rw[D6,dV (by omega),ba f,ob,cd,cd,cd,cn (by omega)];split
  ·exact .inr ⟨_,rfl,trivial⟩
  ·split
   ·exact .inr ⟨_,rfl,trivial⟩
   ·split
    ·exact .inr ⟨_,rfl,trivial⟩
    ·exact .inl ⟨_,trivial,rfl⟩) (λm s d=>⟨_,by rw[D6,dN (by omega)],trivial⟩) (m:=N) (i:=0) (s:=[]) (by omega) (by omega) trivial
 rw[XN];rw[show((0:Nat):Int)=(0:Int)from rfl]at c;rw[c,ob];cases r with
 |inl a=>exact⟨_,rfl⟩
 |inr b=>exact⟨_,rfl⟩
def YF{N:Nat}(B:Fu+4<=N){c o:List Int}(q:YY c)(u:o.length<=1000)(v:FA c.length o):∃b s,Um N (c,o)=some (b,s)/\YY s/\s.length<=o.length:=by
 obtain⟨N,rfl⟩:∃M,N=M+1:=⟨N - 1,by omega⟩;have A:=bH;obtain⟨b,l⟩:=adY (N:=N) (by omega) o u ((c.length:Nat):Int);rw[abT,l,ob];cases b with
 |false=>exact⟨_,_,rfl,(λx a=>by cases a),by simp⟩
 |true=>
  obtain⟨r,e,g,j⟩:=Q2 (F:=λm k (s:List Int)=>Cb N m (c,o,((o.length:Nat):Int),(k:Int),s)) (n:=o.length) (Q:=λr=>YY r/\r.length<=o.length) (I:=λk s=>YY s/\s.length<=k) (λm k s t d=>by
   obtain⟨x,a⟩:=get_at (xs:=o) (i:=k) t;obtain⟨i,rfl,p⟩:=v.get a;obtain⟨y,f⟩:=get_at (xs:=c) (i:=i) p;have C:=d.2;refine⟨s++[y],⟨λz w=>?_,by simp;omega⟩,?_⟩
   ·rcases aqp.1 w with h|h
    ·exact d.1 z h
    ·rw[aqB.1 h];exact q y (aqw f)
   ·rw[G2,dV (by omega),ba a,ob,ba f,ob,cE (by omega) (by simp;omega),ob,cn (by omega)]) (λm s d=>⟨_,by rw[G2,dN (by omega)],d⟩) (m:=N) (s:=[]) (by omega) ⟨(λx a=>by cases a),by simp⟩
  rw[show((0:Nat):Int)=(0:Int)from rfl]at e;simp only[aqv,aqi];rw[e,ob];exact⟨_,_,rfl,g,j⟩
def YG{N:Nat}(j:Fu+3<=N)(s:List Int)(o:s.length<=1000):∃l,Uq N s=some l/\l.length=s.length:=by
 obtain⟨N,rfl⟩:∃M,N=M+1:=⟨N - 1,by omega⟩;have h:=bH;obtain⟨r,b,d⟩:=Q2 (F:=λm k (l:List Bool)=>xF N m (s,s,((s.length:Nat):Int),(k:Int),l)) (n:=s.length) (Q:=λr=>r.length=s.length) (I:=λk l=>l.length=s.length) (λm k l e a=>by
  obtain⟨x,f⟩:=get_at (xs:=s) (i:=k) e;obtain⟨y,c⟩:=get_at (xs:=l) (i:=k) (by omega);rw[G3,dV (by omega),ba f,ob,cd];split
  ·exact⟨l.set k true,by rw[arE];exact a,by rw[ba c,ob,ob,cn (by omega),aqo]⟩
  ·obtain⟨z,g⟩:=get_at (xs:=s) (i:=k - 1) (by omega)
   exact⟨l.set k (!(decide (z=x))),by rw[arE];exact a,by rw[show wrap .i64 ((k:Int) - 1)=((k - 1:Nat):Int) by rw[gG (by omega) (by omega)];omega,ba g,ob,ba c,ob,ob,cn (by omega),aqo]⟩) (λm l a=>⟨_,by rw[G3,dN (by omega)],a⟩) (m:=N) (s:=List.replicate s.length false) (by omega) (by simp)
 rw[show((0:Nat):Int)=(0:Int)from rfl]at b;rw[abU,mf (by omega) (by omega) (by omega),ob,aqo,b,ob];exact⟨_,rfl,d⟩
def qv(keep:List Bool):List Int:=keep.map λb=>if b then 1 else 0
def adZ{N:Nat}(u:Fu+3<=N)(a:List Bool)(w:a.length<=1000):I_ N (a,false)=some (qv a):=by
 obtain⟨N,rfl⟩:∃M,N=M+1:=⟨N - 1,by omega⟩;have t:=bH;obtain⟨r,f,rfl⟩:=Q2 (F:=λm k (l:List Int)=>rU N m (false,a,((a.length:Nat):Int),(k:Int),l)) (n:=a.length) (Q:=λr=>r=qv a) (I:=λk l=>l=qv (a.take k)++List.replicate (a.length - k) 0) (λm k l p b=>by
  obtain⟨x,o⟩:=get_at (xs:=a) (i:=k) p;have d:(qv (a.take k)).length=k:=by simp[qv];omega
  have c:l[k]? =some 0:=by rw[b,arx (by omega),d,asP,aqd (by omega)]
  have g:∀v:Int,v=(if x then 1 else 0)->l.set k v=qv (a.take (k+1))++List.replicate (a.length - (k+1)) 0:=λv q=>by
   rw[b,atM _ _ (by omega),d,atO,show a.length - k=(a.length - (k+1))+1 by omega,arK,atm,cG o,q];simp[qv]
  rw[D7,dV (by omega),ba o,ob];cases x with
  |true=>
   refine⟨_,g 1 rfl,?_⟩;rw[show(!(true==false))=true from rfl,aqE,ba c,ob,ob,cn (by omega),aqo]
  |false=>
   refine⟨_,g 0 rfl,?_⟩;have:l.set k 0=l:=by
    refine arZ λj=>?_;rw[arf];split
    ·rename_i e;subst e;rw[c];split
     ·rfl
     ·rename_i h;have:=Sp.cH c;omega
    ·rfl
   rw[show(!(false==false))=false from rfl,aqi,this,cn (by omega)]) (λm l b=>⟨_,by rw[D7,dN (by omega)],by rw[b,aqQ (aqf _)];simp⟩) (m:=N) (s:=List.replicate a.length 0) (by omega) (by simp[qv])
 rw[show((0:Nat):Int)=(0:Int)from rfl]at f;rw[XO,mf (by omega) (by omega) (by omega),ob,aqo,f,ob]
def Cx(a:List Bool):0<=(qv a).sum/\(qv a).sum<=a.length:=by
 induction a with
 |nil=>simp[qv]
 |cons x l b=>cases x<;>simp[qv]at b⊢<;>omega
def OE(a:List Bool)(i:Nat):(qv a).take i=qv (a.take i):=by simp[qv,asD]
def ajY(a:List Bool)(b:a.length<=60)(i:Nat):oK (qv a) i=(qv (a.take i)).sum:=by
 have h:=Cx (a.take i);have:(a.take i).length<=a.length:=by rw[aq0];omega
 unfold oK;rw[OE];omega
def ad0{a:List Bool}{i:Nat}(h:(qv a)[i]? =some 1):(qv (a.take i)).sum<(qv a).sum:=by
 have b:(qv a).sum=((qv a).take (i+1)).sum+((qv a).drop (i+1)).sum:=by rw[<-at2,ar7]
 rw[cG h,at2,OE]at b;have c:(qv a).drop (i+1)=qv (a.drop (i+1)):=by simp[qv,asY]
 have d:=Cx (a.drop (i+1));rw[c]at b;simp at b;omega
def ad1{N:Nat}(hN:Fu+25<=N){K j g P:Int}{J:List (Int×Int)}(X:Bg K j g P J)(a:List Bool)(w:a.length<=60):∃(t:Nat) (o:List Int),t<=300000/\Ja N (a,j,g,P,J)=some ((t:Int),0,o)/\FA a.length o/\o.length<=a.length:=by
 obtain⟨N,rfl⟩:∃M,N=M+2:=⟨N - 2,by omega⟩;have hF:=bH;obtain⟨_,⟨Z,c2⟩,u⟩:=X;obtain⟨c,rfl⟩:∃c:Nat,j=(c:Int):=⟨j.toNat,by omega⟩;have A:(qv a).length=a.length:=by simp[qv]
 obtain⟨t,ht,E⟩:=VZ (N:=N) (by omega) u (l:=qv a) (by omega) (b:=c) (by omega) (by omega);obtain⟨t2,f,B,a4,S⟩:=u a.length w;have a3:=Cx a;have C:=ajY a w;have a5:f.length<=60:=by rw[B.length_eq];simp[Sp.si];omega
 obtain⟨q,V⟩:∃q:Nat,(qv a).sum=(q:Int):=⟨(qv a).sum.toNat,by omega⟩;have W:oK (qv a) a.length=(q:Int):=by rw[C,aqQ (aqf _),V]
 rw[A]at E;obtain⟨r,D,o,rfl,h1,L⟩:=Q2 (F:=λm k (l:List Int)=>xH N m (qv a,(t:Int),(t2:Int),((f.length:Nat):Int),(k:Int),fV (qv a),l,f)) (n:=f.length) (Q:=λr=>∃o:List Int,r=((t:Int),(t2:Int),o)/\o.length=q/\FA a.length o) (I:=λk l=>l.length=q/\FA a.length l) (λm k l R d=>by
  obtain⟨x,G⟩:=get_at (xs:=f) (i:=k) R;obtain⟨i,rfl,O⟩:=yK.1 (B.mem_iff.1 (aqw G));obtain⟨y,H⟩:=get_at (xs:=qv a) (i:=i) (by omega);rw[G4,dV (by omega),ba G,ob,ob,ba H,ob,cd,cn (by omega)];split
  ·rename_i e
   subst e;have a2:=ad0 H;have a0:=Cx (a.take i);have a1:=C i;obtain⟨p,U⟩:∃p:Nat,oK (qv a) i=(p:Int):=⟨(oK (qv a) i).toNat,by omega⟩;obtain⟨z,Y⟩:=get_at (xs:=l) (i:=p) (by rw[d.1];omega);have v:=vD (l:=qv a) (i:=i) (by omega);rw[U]at v;exact⟨l.set p (i:Int),⟨by simp[d.1],d.2.set O⟩,by rw[ba v,ob,ob,ba Y,ob,ob,aqo]⟩
  ·exact⟨l,d,rfl⟩) (λm l d=>⟨_,by rw[G4,dN (by omega)],l,rfl,d.1,d.2⟩) (m:=N) (s:=List.replicate q 0) (by omega) ⟨by simp,FA.zero λh=>by omega⟩
 rw[show((0:Nat):Int)=(0:Int)from rfl]at D;refine⟨t+t2,o,by omega,?_,L,by omega⟩;rw[XP,adZ (by omega) a (by omega),ob,abW,E,ob,yV rfl,A,S N (by omega),ob,yV rfl];simp only;rw[W,mf (by omega) (by omega) (by omega),ob,aqo,D,ob,ob];simp only;rw[show wrap .i64 ((t:Int)+(t2:Int))=((t+t2:Nat):Int) by rw[gG (by omega) (by omega)];omega]
def Jq{N:Nat}(hN:Fu+30<=N){p q g P:Int}{D:List (Int×Int)}(B:Bg p q g P D){f:List Int}(w:YY f)(Y:f.length<=60):∃(t:Nat) (o:List Int),t<=7000000/\Jc N (f,p,q,g,P,D)=some ((t:Int),0,o)/\YY o/\o.length<=f.length:=by
 obtain⟨N,rfl⟩:∃M,N=M+2:=⟨N - 2,by omega⟩;have hF:=bH;obtain⟨c,a4,a0,K,ol,op⟩:=adX (N:=N) (by omega) B w Y;obtain⟨b,s,L,su,sl⟩:=YF (N:=N) (by omega) w (by omega) op;obtain⟨U,O,S⟩:=YG (N:=N) (by omega) s (by omega);obtain⟨t2,a,a3,R,u,J⟩:=ad1 (N:=N) (by omega) B U (by omega);rw[S]at u J;obtain⟨r,A,o,E,rfl,h1,V⟩:=Q2 (F:=λm k (l:List Int×List Int)=>Cc N m ((c:Int),(t2:Int),((a.length:Nat):Int),(k:Int),s,a,l.1,l.2)) (n:=a.length) (Q:=λr=>∃o E:List Int,r=((c:Int),(t2:Int),o,E)/\o.length=a.length/\YY o) (I:=λk l=>l.1.length=k/\l.2.length=k/\YY l.1) (λm k l X d=>by
  obtain⟨x,e⟩:=get_at (xs:=a) (i:=k) X;obtain⟨i,rfl,W⟩:=u.get e;obtain⟨y,C⟩:=get_at (xs:=s) (i:=i) W;have G:=d.1;have H:=d.2.1;obtain⟨v,Z⟩:∃v,Jb N N ((c:Int),(t2:Int),(k:Int),(i:Int),((s.length:Nat):Int),((a.length:Nat):Int),(k:Int),s,a,l.1,l.2)=some ((c:Int),(t2:Int),(i:Int),v,((a.length:Nat):Int),(k:Int),s,a,l.1,l.2):=by
   obtain⟨M,rfl⟩:∃M,N=M+1:=⟨N - 1,by omega⟩;rw[XQ,cd,cn (by omega)];split
   ·obtain⟨z,j⟩:=get_at (xs:=a) (i:=k+1) (by omega)
    exact⟨z,by rw[ba j,ob,ob]⟩
   ·exact⟨_,rfl⟩
  refine⟨(l.1++[y],l.2++[wrap .i64 (v - (i:Int))]),⟨by simp[G],by simp[H],λz j=>?_⟩,?_⟩
  ·rcases aqp.1 j with h|h
   ·exact d.2.2 z h
   ·rw[aqB.1 h];exact su y (aqw C)
  ·rw[G5,dV (by omega),ba e,ob,ob,Z,ob]
   simp only;rw[ba C,ob,ob,cE (by omega) (by simp;omega),ob,cE (by omega) (by simp;omega),ob,cn (by omega)]) (λm l d=>⟨_,by rw[G5,dN (by omega)],l.1,l.2,rfl,d.1,d.2.2⟩) (m:=N) (s:=([],[])) (by omega) ⟨rfl,rfl,λx e=>by cases e⟩
 rw[show((0:Nat):Int)=(0:Int)from rfl]at A;refine⟨c+t2,o,by omega,?_,V,by omega⟩;rw[XR,abY,K,ob,yV rfl];simp only;rw[L,ob];simp only;rw[O,ob,R,ob,yV rfl];simp only;rw[A,ob,ob];simp only;rw[show wrap .i64 ((c:Int)+(t2:Int))=((c+t2:Nat):Int) by rw[gG (by omega) (by omega)];omega]
def ajZ{N:Nat}(o:2<=N)(u v:Int):∃k b,IV N (u,v)=some (k,b)/\(b=true->0<=k/\k<4294967296)/\(0<=u->u<65536->0<=v->v<65536->b=true):=by
 obtain⟨N,rfl⟩:∃M,N=M+2:=⟨N - 2,by omega⟩;have j:∀n:Int,DL (N+1) n=some (decide (0<=n/\n<65536)):=λn=>by
  rw[Xu,cd];split
  ·rename_i h;congr 1;exact arP.2 ⟨λd=>⟨h,d⟩,λd=>d.2⟩
  ·rename_i h;rw[aqK λd=>h d.1]
 rw[Xv,j,ob,FQ,j];by_cases g:0<=u/\u<65536
 ·rw[aqd g,ob,FQ]
  by_cases i:0<=v/\v<65536
  ·rw[aqd i]
   refine⟨_,_,rfl,λ_=>?_,λ_ _ _ _=>rfl⟩;have l:(2:Int)^(min (Int.toNat (16:Int)) (32:Nat))=65536:=by decide
   rw[l,Ib,wU (if v<u then v else u),wU (if v>u then v else u),wU];have m:0<=(if v<u then v else u)/\(if v<u then v else u)<65536:=by split<;>omega
   have d:0<=(if v>u then v else u)/\(if v>u then v else u)<65536:=by split<;>omega
   generalize(if v<u then v else u)=a at*;generalize(if v>u then v else u)=c at*;rw[bits_join .u32 32 (by decide) (λn a b=>by rw[auU];omega) 16 _ _ (by omega) (by omega) (by omega) (by omega) (by omega) (by omega)];omega
  ·rw[aqc i]
   exact⟨_,_,rfl,λh=>(by cases h),λ_ _ e f=>absurd ⟨e,f⟩ i⟩
 ·rw[aqc g]
  exact⟨_,_,rfl,λh=>(by cases h),λe f _ _=>absurd ⟨e,f⟩ g⟩
def agG{N:Nat}(e:1<=N){k:Int}(c:0<=k)(d:k<4294967296):Jd N k=some (k/65536,k % 65536):=by
 obtain⟨N,rfl⟩:∃M,N=M+1:=⟨N - 1,by omega⟩;have a:(2:Int)^(min (Int.toNat (16:Int)) (32:Nat))=65536:=by decide
 have b:wrap .u16 k=k % 65536:=by simp[wrap,IntKind.bits,IntKind.signed]
 rw[XS,a,b,auQ _ (by omega),gG (by omega) (by omega),gG (by omega) (by omega)]
def OF{N:Nat}(hN:Fu+35<=N){j p g P:Int}{q:List (Int×Int)}(X:Bg j p g P q)(l:List (Int×Int))(L:l.length<=60):
 ∃(t:Nat) (e:Int) (o:List (Int×Int)),t<=7000000/\D8 N (l,j,p,g,P,q)=some ((t:Int),e,o)/\(∀x∈o,0<=x.1/\0<=x.2)/\o.length<=(l.filter λx=>decide (x.1≠x.2)).length/\((∀x∈l,0<=x.1/\x.1<65536/\0<=x.2/\x.2<65536)->e=0):=by
 obtain⟨N,rfl⟩:∃M,N=M+1:=⟨N - 1,by omega⟩;have hF:=bH;have D:∀m:List (Int×Int),(m.filter λx=>decide (x.1≠x.2)).length<=m.length:=λm=>atw _ _;obtain⟨r,E,R⟩:=lp (F:=λm k (s:List Int)=>xP N m (l,((l.length:Nat):Int),(k:Int),j,p,g,P,q,s)) (n:=l.length) (Q:=λr=>(∃s:List Int,r=.inl (j,p,g,P,q,s)/\s.length=(l.filter λx=>decide (x.1≠x.2)).length/\YY s)\/r=.inr (0,10)/\¬∀x∈l,0<=x.1/\x.1<65536/\0<=x.2/\x.2<65536)
  (I:=λk s=>s.length=((l.take k).filter λx=>decide (x.1≠x.2)).length/\YY s) (λm k s A a=>by
   obtain⟨⟨u,v⟩,d⟩:=get_at (xs:=l) (i:=k) A;obtain⟨Y,b,w,y,C⟩:=ajZ (N:=N) (by omega) u v;have a0:s.length<=60:=by have:=D (l.take k);rw[a.1];rw[aq0]at this;omega
   rw[G7,dV (by omega),ba d,ob];simp only;rw[w,ob];simp only;cases b with
   |false=>exact .inr ⟨_,rfl,.inr ⟨rfl,λh=>by
    have:=h _ (aqw d);have:=C this.1 this.2.1 this.2.2.1 this.2.2.2;cases this⟩⟩
   |true=>
    simp only[aqv,aqi];rw[FQ];by_cases c:u=v
    ·rw[aqd c]
     exact .inl ⟨s,⟨by rw[cG d,asF,aqy,a.1];simp[c],a.2⟩,by rw[cn (by omega)]⟩
    ·rw[aqc c,cE (by omega) (by simp;omega),ob,cn (by omega)]
     refine .inl ⟨s++[Y],⟨by rw[cG d,asF,aqy,aqy,a.1];simp[c],λz B=>?_⟩,rfl⟩;rcases aqp.1 B with h|h
     ·exact a.2 z h
     ·rw[aqB.1 h];exact y rfl) (λm s a=>⟨_,by rw[G7,dN (by omega)],.inl ⟨s,rfl,by rw[a.1,aqQ (aqf _)],a.2⟩⟩) (m:=N) (i:=0) (s:=[]) (by omega) (by omega) ⟨by simp,λx d=>by cases d⟩
 rw[show((0:Nat):Int)=(0:Int)from rfl]at E;rw[abZ,E,ob];rcases R with⟨s,rfl,S,U⟩|⟨rfl,O⟩
 ·have V:s.length<=60:=by rw[S];exact aq9 (D l) L
  obtain⟨t,o,W,w,y,C⟩:=Jq (N:=N) (by omega) X U V;simp only;rw[w,ob];simp only;obtain⟨r2,G,f,rfl,Z,J⟩:=Q2 (F:=λm k (s:List (Int×Int))=>Cd N m ((t:Int),0,((o.length:Nat):Int),(k:Int),s,o)) (n:=o.length) (Q:=λr=>∃f:List (Int×Int),r=((t:Int),0,f)/\f.length=o.length/\∀x∈f,0<=x.1/\0<=x.2) (I:=λk s=>s.length=k/\∀x∈s,0<=x.1/\0<=x.2) (λm k s A a=>by
   obtain⟨x,d⟩:=get_at (xs:=o) (i:=k) A;have H:=y x (aqw d);have K:=a.1;refine⟨s++[(x/65536,x % 65536)],⟨by simp[K],λz B=>?_⟩,by rw[G6,dV (by omega),ba d,ob,ob,agG (by omega) H.1 H.2,ob,cE (by omega) (by simp;omega),ob,cn (by omega)]⟩;rcases aqp.1 B with h|h
   ·exact a.2 z h
   ·rw[aqB.1 h];simp only;omega) (λm s a=>⟨_,by rw[G6,dN (by omega)],s,rfl,a.1,a.2⟩) (m:=N) (s:=[]) (by omega) ⟨rfl,λx d=>by cases d⟩
  rw[show((0:Nat):Int)=(0:Int)from rfl]at G;rw[G,ob];exact⟨t,0,f,W,rfl,J,by omega,λ_=>rfl⟩
 ·exact⟨0,10,[],by omega,rfl,(λx d=>by cases d),by simp,λh=>absurd h O⟩
end Go.Proofs.YtmdbmigbihboaaaGreatDoor.Dd
namespace Go.Proofs.YtmdbmigbihboaaaGreatDoor
variable{E:Int}{C:List (Int×Int×Int)}{i:List bT}{a d:Nat}
section
open Go Go.RowKit Go.Sort
def amT(N:Nat)(n:Nat)(ts:List bT)(w:Int×Int×Int×Int×List (Int×Int))(k:Int)(es:List (Int×Int))(qs:List (Int×Int×Int))(t:Nat)(es':List (Int×Int))(qs':List (Int×Int×Int)):Prop:=
 (k=3/\t=0/\es'=[]/\qs'=qs/\qs.length<=60)\/∃once,D8 N (es,w)=some ((t:Int),0,once)/\qs'=[]/\es'.length<=60/\once.length<=60/\
  once.length<=(es.filter λx=>decide (x.1≠x.2)).length/\((k=2/\(∀x∈once,lI (n:Int) x)/\es'.Sublist (cD ts)/\∀e,e∈es'↔e∈cD ts/\e∈once.map c_)\/k=1/\Ys n ts once es'/\ts.length+es'.length<=400)
def ad2(hN:Fu+45<=a){m n g P:Int}{y:List (Int×Int)}(W:Dd.Bg m n g P y)(h:GR d i){b:List (Int×Int)}(k:WR E b C):
 ∃(t:Nat) (e L:Int) (F:List (Int×Int)) (N:List (Int×Int×Int)),t<=7000000/\ot (a+1) ((d:Int),i,E,b,C,m,n,g,P,y)=some ((t:Int),e,L,F,N)/\((e≠0)\/e=0/\L=E/\(∀v∈uU b C,v<(d:Int))/\amT a d i (m,n,g,P,y) E b C t F N):=by
 have hF:=bH;have a2:=h.len;have I:b.length<=60:=by
  rcases k with⟨_,_,h,_⟩|⟨_,rfl,_⟩
  ·exact h
  ·simp
 have V:C.length<=60:=by
  rcases k with⟨_,rfl,_⟩|⟨_,_,h,_⟩
  ·simp
  ·exact h
 obtain⟨b1,R,Y⟩:=zW (N:=a) (by omega) E b C (by omega) (by omega);obtain rfl:=Y.2 k;have a3:=HJ b C (by omega) (by omega);obtain⟨O,S,Z⟩:=OB (N:=a) (by omega) (d:Int) i (uU b C) (by omega);rw[Ee,h.right (by omega),ob];simp only[aqv,aqi];rw[R,ob];simp only[aqv,aqi];rw[VY (by omega) _ _ _ (by omega) (by omega),ob,S,ob];simp only;cases O with
 |true=>exact⟨0,10,0,[],[],by omega,rfl,.inl (by decide)⟩
 |false=>
  have w:=Z.1 rfl;rw[aqi,cd];by_cases p:E=3
  ·rw[aqd p]
   exact⟨0,0,E,[],C,by omega,rfl,.inr ⟨rfl,rfl,w,.inl ⟨p,rfl,rfl,rfl,V⟩⟩⟩
  ·rw[aqc p]
   obtain⟨t,e,f,l,s,ho,u,a1⟩:=Dd.OF (N:=a) (by omega) W b I;have J:f.length<=60:=aq9 u (aq9 (atw _ _) I);rw[s,ob,FQ];by_cases q:e=0
   ·subst q
    rw[aqd rfl,cd];by_cases o:E=2
    ·rw[aqd o]
     simp only;rcases Cw (N:=a) (by omega) h f (by omega)with⟨c,_⟩|⟨r,c,j,G,H⟩
     ·rw[c,ob];exact⟨t,10,E,[],[],l,rfl,.inl (by decide)⟩
     ·rw[c,ob]
      have U:r.length<=60:=by
       have:=Cu (A:=r) (B:=f.map c_) ((tD (ES h.VF)).sublist G) λx X=>((H x).1 X).2;rw[aqn]at this;omega
      exact⟨t,0,E,r,[],l,rfl,.inr ⟨rfl,rfl,w,.inr ⟨f,s,rfl,U,J,u,.inl ⟨o,j,G,H⟩⟩⟩⟩
    ·rw[aqc o]
     simp only;have Q:E=1:=by rcases k with⟨h,_⟩|⟨h,_⟩<;>omega
     have K:Ed a ((d:Int),i)=some (400 - ((i.length:Nat):Int)):=by
      obtain⟨M,rfl⟩:∃M,a=M+1:=⟨a - 1,by omega⟩;rw[G_,h.right (by omega),ob];simp only[aqv,aqi];rw[gG (by omega) (by omega)]
     rcases QM (N:=a) (by omega) h f (by omega)with⟨c,_⟩|⟨D,c,j⟩
     ·rw[c,ob,K,ob,cd]
      simp only[aq5];rw[aqc (by omega)];exact⟨t,10,E,[],[],l,rfl,.inl (by decide)⟩
     ·rw[c,ob,K,ob,cd]
      simp only;have a0:=j.len;by_cases z:400 - ((i.length:Nat):Int)<((D.length:Nat):Int)
      ·rw[aqd z];exact⟨0,2,0,[],[],by omega,rfl,.inl (by decide)⟩
      ·rw[aqc z]
       exact⟨t,0,E,D,[],l,rfl,.inr ⟨rfl,rfl,w,.inr ⟨f,s,rfl,by omega,J,u,.inr ⟨Q,j,by omega⟩⟩⟩⟩
   ·rw[aqc q];exact⟨0,e,0,[],[],by omega,rfl,.inl q⟩
def YH(l:Fu+45<=a)(h:GR d i){b:List (Int×Int)}(g:b.length<=100000)(j:C.length<=100000)(f:¬WR E b C)(w:Int×Int×Int×Int×List (Int×Int)):ot (a+1) ((d:Int),i,E,b,C,w)=some (0,1,0,[],[]):=by
 obtain⟨c,e,k⟩:=zW (N:=a) (by omega) E b C g j;obtain⟨m,n,o,p,q⟩:=w;rw[Ee,h.right (by omega),ob];simp only[aqv,aqi];rw[e,ob];cases c with
 |true=>exact absurd (k.1 rfl) f
 |false=>rfl
end
section
open Go Go.RowKit Go.Sort
def HM(u:Fu+4<=a)(c d:List Int)(e:d.length<=1000):Hl a (c,d)=some (decide (∀v∈d,0<=v/\v<(c.length:Int))):=by
 obtain⟨a,rfl⟩:∃M,a=M+3:=⟨a - 3,by omega⟩;have t:=bH;obtain⟨b,o,r⟩:=lp (F:=λm k (_:Unit)=>Ji a m (d,((d.length:Nat):Int),(k:Int),c)) (n:=d.length) (Q:=λb=>(b=.inl c/\∀v∈d,0<=v/\v<(c.length:Int))\/∃k:Nat,b=.inr ((k:Int),c)/\¬∀v∈d,0<=v/\v<(c.length:Int)) (I:=λk _=>∀v∈d.take k,0<=v/\v<(c.length:Int)) (λm k s q f=>by
  obtain⟨x,g⟩:=get_at (xs:=d) (i:=k) q;have p:=aqw g;obtain⟨M,rfl⟩:∃M,a=M+1:=⟨a - 1,by omega⟩;rw[ND,dV (by omega),ba g,ob,acJ,cd];by_cases j:x<0
  ·rw[aqd j,ob];exact .inr ⟨_,rfl,.inr ⟨k,rfl,λh=>by have:=h x p;omega⟩⟩
  ·rw[aqc j,ob]
   simp only;rw[cd];by_cases l:((c.length:Nat):Int)<=x
   ·rw[aqd l];exact .inr ⟨_,rfl,.inr ⟨k,rfl,λh=>by have:=h x p;omega⟩⟩
   ·rw[aqc l,cn (by omega)]
    refine .inl ⟨(),λv e=>?_,rfl⟩;rw[cG g]at e;rcases aqp.1 e with e|e
    ·exact f v e
    ·rw[aqB.1 e];omega) (λm s f=>⟨_,by rw[ND,dN (by omega)],.inl ⟨rfl,by rw[aqQ (aqf _)]at f;exact f⟩⟩) (m:=a) (i:=0) (s:=()) (by omega) (by omega) (by simp)
 rw[show((0:Nat):Int)=(0:Int)from rfl]at o;rw[acN,af8,af7,o,ob];rcases r with⟨rfl,h⟩|⟨k,rfl,h⟩
 ·rw[aqH h];rfl
 ·rw[aqK h]
  simp only[ob];rw[aqH (by omega)];rfl
def YI{N:Nat}(l:Fu+3<=N)(c:List Int)(o:c.length<=1000)(a u v:Int)(d:0<=u/\u<(c.length:Int)):∃r,acT N (c,c,a,u,v)=some r:=by
 obtain⟨N,rfl⟩:∃M,N=M+1:=⟨N - 1,by omega⟩;have j:=bH;obtain⟨y,_,h⟩:=Jo d.1 d.2;obtain⟨r,b,_⟩:=lp (F:=λm k (s:Int)=>Es N m (s,c,((c.length:Nat):Int),(k:Int),c,a,u,v)) (n:=c.length) (Q:=λ_=>True) (I:=λk _=>True) (λm k s f e=>by
  obtain⟨x,g⟩:=get_at (xs:=c) (i:=k) f;obtain⟨M,rfl⟩:∃M,N=M+1:=⟨N - 1,by omega⟩;rw[NF,dV (by omega),ba g,ob,acP,h,ob,ob,cd,cn (by omega)];split
  ·exact .inl ⟨_,trivial,rfl⟩
  ·exact .inl ⟨_,trivial,rfl⟩) (λm s e=>⟨_,by rw[NF,dN (by omega)],trivial⟩) (m:=N) (i:=0) (s:=0) (by omega) (by omega) trivial
 rw[show((0:Nat):Int)=(0:Int)from rfl]at b;rw[af9,b,ob];exact⟨_,rfl⟩
def YJ{N:Nat}(g:Fu+3<=N)(c:List Int)(h:c.length<=1000):∃r,NG N c=some r:=by
 obtain⟨N,rfl⟩:∃M,N=M+1:=⟨N - 1,by omega⟩;have f:=bH;obtain⟨r,a,_⟩:=lp (F:=λm k (s:Int)=>x_ N m (s,c,((c.length:Nat):Int),(k:Int))) (n:=c.length) (Q:=λ_=>True) (I:=λk _=>True) (λm k s d b=>by
  obtain⟨x,e⟩:=get_at (xs:=c) (i:=k) d;obtain⟨M,rfl⟩:∃M,N=M+1:=⟨N - 1,by omega⟩;rw[Hm,dV (by omega),ba e,ob,acV,ob,cd,cn (by omega)];split
  ·exact .inl ⟨_,trivial,rfl⟩
  ·exact .inl ⟨_,trivial,rfl⟩) (λm s b=>⟨_,by rw[Hm,dN (by omega)],trivial⟩) (m:=N) (i:=0) (s:=0) (by omega) (by omega) trivial
 rw[show((0:Nat):Int)=(0:Int)from rfl]at a;rw[acW,a,ob];exact⟨_,rfl⟩
def YK{N:Nat}(s:Fu+6<=N)(c:List Int)(k:c.length<=1000)(a u v:Int):∃r,Vs N (c,a,u,v)=some r:=by
 obtain⟨N,rfl⟩:∃M,N=M+2:=⟨N - 2,by omega⟩;rw[acX,cd];by_cases i:a=1
 ·rw[aqd i,HM (by omega) c _ (by simp),ob]
  by_cases h:∀w∈[u,v],0<=w/\w<(c.length:Int)
  ·rw[aqH h]
   simp only[aqv,aqi];have e:=h u (by simp);have j:=h v (by simp);obtain⟨x,_,g⟩:=Jo e.1 e.2;obtain⟨y,_,m⟩:=Jo j.1 j.2;rw[g,ob,m,ob,cd];split<;>exact⟨_,rfl⟩
  ·rw[aqK h];exact⟨_,rfl⟩
 ·rw[aqc i,X9,cd]
  have l:∀b:Bool,∃r,(aW (some (a,b,c,a,u,v)) λd=>cond d.2.1
   (aW (Hl (N+1) (d.2.2.1,[d.2.2.2.2.1])) λn=>
    cond (!n)
     (some ((0:Int),(10:Int)))
     (cond (decide (d.2.2.2.1=(2:Int)))
      (aW (aZ d.2.2.1 d.2.2.2.2.1) λo=>
       some (o,(0:Int)))
      (aW (acT (N+1) (d.2.2.1,(d.2.2.1,(d.2.2.2.1,(d.2.2.2.2.1,d.2.2.2.2.2))))) λp=>
       some (p.1,(0:Int)))))
   (cond (decide (d.1=(4:Int)))
    (aW (NG (N+1) d.2.2.1) λq=>
     some (q,(0:Int)))
    (some ((0:Int),(1:Int)))))=some r:=λb=>by
    rw[ob];cases b with
    |true=>
     simp only[aqE];rw[HM (by omega) c _ (by simp),ob];by_cases h:∀w∈[u],0<=w/\w<(c.length:Int)
     ·rw[aqH h]
      simp only[aqv,aqi];have e:=h u (by simp);obtain⟨x,_,g⟩:=Jo e.1 e.2;rw[cd];split
      ·rw[g,ob];exact⟨_,rfl⟩
      ·obtain⟨r,f⟩:=YI (N:=N+1) (by omega) c k a u v e
       rw[f,ob];exact⟨_,rfl⟩
     ·rw[aqK h];exact⟨_,rfl⟩
    |false=>
     simp only[aqi];rw[cd];split
     ·obtain⟨r,f⟩:=YJ (N:=N+1) (by omega) c k
      rw[f,ob];exact⟨_,rfl⟩
     ·exact⟨_,rfl⟩
  split
  ·exact l true
  ·exact l (decide (a=3))
def E_{N:Nat}(A:Fu+20<=N){d:List bT}(h:GR a d)(l:List (Int×Int×Int))(B:l.length<=1000):∃r,uR N ((a:Int),d,l)=some r/\r.2.length<=1000:=by
 obtain⟨N,rfl⟩:∃M,N=M+2:=⟨N - 2,by omega⟩;have z:=bH;have C:=h.len;have j:tQ (a:Int) (cD d)=0:=by
  rw[VJ h.lo h.hi,aqd λe q=>by
   obtain⟨t,w,rfl⟩:=aqq.1 q;have:=h.tie t w;unfold mV at this;exact⟨⟨by show 0<=t.1;omega,by show t.1<_;omega⟩,by show 0<=t.2.1;omega,by show t.2.1<_;omega⟩]
 have p:(agl (a:Int) (cD d)).length<=1000:=by have:=h.hi;simp[agl];omega
 rw[acY,X8,h.right (by omega),ob];simp only[aqv,aqi];rw[zU (by omega) h,ob,QC (by omega) _ _ (by simp[cD];omega),j,aqd rfl,ob,ob];simp only[aqv,aqi];generalize agl (a:Int) (cD d)=c at*;obtain⟨b,f,n⟩:=lp (F:=λm k (s:List Int)=>Cq (N+1) m (l,((l.length:Nat):Int),(k:Int),c,s)) (n:=l.length) (Q:=λb=>∀o,b=.inl o->o.length<=1000) (I:=λk s=>s.length<=k) (λm k s u g=>by
  obtain⟨x,y⟩:=get_at (xs:=l) (i:=k) u;obtain⟨r,v⟩:=YK (N:=N+1) (by omega) c p x.1 x.2.1 x.2.2;rw[Hn,dV (by omega),ba y,ob,v,ob,FQ];split
  ·rw[cE (by omega) (by simp;omega),ob,cn (by omega)]
   exact .inl ⟨_,by simp;omega,rfl⟩
  ·exact .inr ⟨_,rfl,λo h=>by cases h⟩) (λm s g=>⟨_,by rw[Hn,dN (by omega)],λo h=>by cases h;omega⟩) (m:=N+1) (i:=0) (s:=[]) (by omega) (by omega) (by simp)
 rw[show((0:Nat):Int)=(0:Int)from rfl]at f;rw[f,ob];cases b with
 |inl o=>exact⟨_,rfl,n o rfl⟩
 |inr e=>exact⟨_,rfl,by simp⟩
end
section
open Go Go.RowKit Go.Sort
abbrev SV:Type:=Int×List bT×Int×Int
abbrev XV:Type:=Int×List (Int×Int)×List (Int×Int×Int)
abbrev WV:Type:=Int×Int×Int×Int×List (Int×Int)
abbrev RV:Type:=Int×Int×List Int
noncomputable def qw(N:Nat)(s:SV)(x:XV)(w:WV):Option (SV×RV):=
 aW (qn N s) λb=>cond b
  (aW (ot N (s.1,s.2.1,x.1,x.2.1,x.2.2,w)) λc=>cond (decide (c.2.1=0))
   (aW (jX N (wrap .i64 (((c.2.2.2.1.length:Nat):Int)+((c.2.2.2.2.length:Nat):Int)),w.2.2)) λo=>cond (decide (o.2.1=0))
    (cond (decide (c.2.2.1=1))
     (aW (mb N (s.1,s.2.1,c.2.2.2.1)) λa=>cond (decide (a.2.1=0))
      (some ((a.2.2.1,a.2.2.2,wrap .i64 (s.2.2.1+1),wrap .i64 (s.2.2.2+wrap .i64 (c.1+o.1))),0,a.1,[]))
      (some (s,a.2.1,0,[])))
     (cond (decide (c.2.2.1=2))
      (aW (pJ N (s.1,s.2.1,c.2.2.2.1)) λa=>cond (decide (a.1=0))
       (some ((a.2.1,a.2.2.1,wrap .i64 (s.2.2.1+1),wrap .i64 (s.2.2.2+wrap .i64 (c.1+o.1))),0,((c.2.2.2.1.length:Nat):Int),[]))
       (some (s,a.1,0,[])))
      (cond (decide (c.2.2.1=3))
       (aW (uR N (s.1,s.2.1,c.2.2.2.2)) λa=>cond (decide (a.1=0))
        (some ((s.1,s.2.1,wrap .i64 (s.2.2.1+1),wrap .i64 (s.2.2.2+wrap .i64 (c.1+o.1))),0,0,a.2))
        (some (s,a.1,0,[])))
       (some ((s.1,s.2.1,wrap .i64 (s.2.2.1+1),wrap .i64 (s.2.2.2+wrap .i64 (c.1+o.1))),0,0,[])))))
    (some (s,o.2.1,0,[])))
   (some (s,c.2.1,0,[])))
  (some (s,1,0,[]))
def StR(s:SV):Prop:=(0<=s.1/\GR s.1.toNat s.2.1)/\(0<=s.2.2.1/\s.2.2.1<=1099511627776)/\0<=s.2.2.2/\s.2.2.2<=1099511627776
def HN{N:Nat}(k:Fu+18<=N)(s:SV)(i:s.2.1.length<=100000):∃b,qn N s=some b/\(b=true↔StR s):=by
 obtain⟨N,rfl⟩:∃m,N=m+2:=⟨N - 2,by omega⟩;obtain⟨n,j,d,l⟩:=s;obtain⟨b,g,f⟩:=tB (N:=N+1) (by omega) n j i;have e:∀c:Int,L3 (N+1) c=some (decide (0<=c/\c<=1099511627776)):=λc=>by
  rw[aa_,cd];by_cases h:0<=c<;>simp[h]
 rw[aba,g,ob];unfold StR;simp only;cases b with
 |false=>exact⟨_,rfl,λh=>(by cases h),λh=>by have:=f.2 h.1;cases this⟩
 |true=>
  rw[aqE,e,ob,cd];by_cases a:0<=d/\d<=1099511627776
  ·rw[aqd a,e,ob]
   exact⟨_,rfl,λh=>⟨f.1 rfl,a,aq7 h⟩,λh=>aqH h.2.2⟩
  ·rw[aqc a];exact⟨_,rfl,λh=>(by cases h),λh=>absurd h.2.1 a⟩
structure TkR(n:Nat)(ts:List bT)(w:WV)(k:Int)(es:List (Int×Int))(qs:List (Int×Int×Int))(M:Nat)(O7:List bT)(ch:Int)(an:List Int):Prop where
 wr:WR k es qs
 vt:∀v∈uU es qs,v<(n:Int)
 len:O7.length<=400
 res:(k=3/\O7=ts/\ch=0/\uR (M+1) ((n:Int),ts,qs)=some (0,an))\/∃(t:Nat) (once:List (Int×Int)),t<=7000000/\D8 M (es,w)=some ((t:Int),0,once)/\once.length<=60/\(∀x∈once,lI (n:Int) x)/\an=[]/\
  ((k=2/\(cD O7).Sublist (cD ts)/\(∀x∈cD O7,x∉once.map c_)/\((∀e∈cD ts,e∉once.map c_)->O7=ts/\ch=0))\/
   k=1/\(∀e∈once.map c_,e.1<e.2->e∈cD O7)/\(∀e∈cD ts,e∈cD O7)/\((∀e∈once.map c_,e.1<e.2->e∈cD ts)->O7=ts/\ch=0))
def V0{N:Nat}(K:Fu+45<=N){w:WV}(H:Dd.Bg w.1 w.2.1 w.2.2.1 w.2.2.2.1 w.2.2.2.2)(s:SV)(R:s.2.1.length<=100000)(k:Int)(p:List (Int×Int))(r:List (Int×Int×Int))(D:p.length<=100000)(hq:r.length<=100000):
 ∃e:Int,(qw (N+1) s (k,p,r) w=some (s,e,0,[])/\e≠0/\(¬StR s->e=1)/\(StR s->¬WR k p r->e=1))\/
  (StR s/\∃(n:Nat) (v:List bT) (J a8:Int) (B:List Int),s.1=(n:Int)/\GR n s.2.1/\qw (N+1) s (k,p,r) w=some ((s.1,v,s.2.2.1+1,a8),0,J,B)/\TkR n s.2.1 w k p r N v J B):=by
 obtain⟨g,u,C,st⟩:=s;obtain⟨bi,bl,gr,P,pk⟩:=w;simp only at R H;have hF:=bH;obtain⟨b,hb,hi⟩:=HN (N:=N+1) (by omega) (g,u,C,st) R;unfold qw;rw[hb,ob];cases b with
 |false=>exact⟨1,.inl ⟨rfl,by decide,λ_=>rfl,λ_ _=>rfl⟩⟩
 |true=>
  have z:=hi.1 rfl;have q:=z;unfold StR at z;simp only at z;obtain⟨⟨h0,d⟩,ab,ag⟩:=z;obtain⟨n,rfl⟩:∃n:Nat,g=(n:Int):=⟨g.toNat,by omega⟩;rw[aqo]at d;rw[aqE];simp only;by_cases i:WR k p r
  ·obtain⟨t,e,k',a,qs',W,hc,A⟩:=ad2 K H d i
   rw[hc,ob];simp only;rcases A with A|⟨rfl,rfl,G,eK⟩
   ·rw[dN A];exact⟨e,.inl ⟨rfl,A,λh=>absurd q h,λ_ h=>absurd i h⟩⟩
   ·rw[dV rfl]
    have a2:a.length+qs'.length<=60:=by
     rcases eK with⟨_,_,rfl,rfl,h⟩|⟨_,_,rfl,h,_⟩
     ·simpa using h
     ·simpa using h
    obtain⟨m,us,F,S,ho⟩:=H.o (a.length+qs'.length) a2;rw[show wrap .i64 (((a.length:Nat):Int)+((qs'.length:Nat):Int))=((a.length+qs'.length:Nat):Int) by rw[gG (by omega) (by omega)];omega,ho (N+1) (by omega),ob,dV rfl,show wrap .i64 (C+1)=C+1 from gG (by omega) (by omega)];simp only;rcases eK with⟨rfl,rfl,rfl,rfl,af⟩|⟨Y,O,rfl,ad,V,ae,⟨rfl,a0,ah,U⟩|⟨rfl,l,a9⟩⟩
    ·rw[dN (by decide),dN (by decide),dV rfl]
     obtain⟨⟨e,B⟩,j,_⟩:=E_ (N:=N+1) (by omega) d qs' (by omega);rw[j,ob,cd];by_cases c:e=0
     ·subst c
      rw[aqd rfl];exact⟨0,.inr ⟨q,n,_,_,_,_,rfl,d,rfl,i,G,d.len,.inl ⟨rfl,rfl,rfl,j⟩⟩⟩
     ·rw[aqc c];exact⟨e,.inl ⟨rfl,c,λh=>absurd q h,λ_ h=>absurd i h⟩⟩
    ·rw[dN (by decide),dV rfl]
     obtain⟨e,v,all,j,a5⟩:=drop_eq (N:=N+1) (by omega) d a (by omega);rw[j,ob,cd];rcases a5 with⟨c,_⟩|⟨rfl,I,q2,q3⟩
     ·rw[aqc c];exact⟨e,.inl ⟨rfl,c,λh=>absurd q h,λ_ h=>absurd i h⟩⟩
     ·rw[aqd rfl]
      refine⟨0,.inr ⟨q,n,_,_,_,_,rfl,d,rfl,i,G,(by have:=I.length_le;rw[hS,hS]at this;exact aq9 this d.len),.inr ⟨t,Y,W,O,V,a0,rfl,.inl ⟨rfl,I,λx f S=>?_,λE=>?_⟩⟩⟩⟩
      ·have X:=I.subset f
       have a7:=(U x).2 ⟨X,S⟩;exact q2 x f (aqq.2 ⟨x,a7,Oz (VQ d.tie x X).2.1⟩)
      ·have:a=[]:=by
        rw[arX];intro x f;have:=(U x).1 f;exact E x this.1 this.2
       exact⟨q3 this,by rw[this];rfl⟩
    ·rw[dV rfl]
     have Z:∀x∈a,lI (n:Int) x:=λx f=>by
      have:=l.rng x f;exact⟨⟨by omega,by omega⟩,by omega,by omega⟩
     have a6:a.map c_=a:=by
      have:a.map c_=a.map id:=aq6 λx f=>Oz (l.rng x f).2.1;rw[this,ar6]
     rcases add_eq (N:=N+1) (by omega) d a (by omega)with⟨_,a1⟩|⟨o,L,j⟩
     ·exact absurd Z a1
     ·have M:∀x,x∈o↔x∈a:=λx=>by
       rw[L.mem,a6];exact⟨λh=>h.2.1,λh=>⟨(l.rng x h).2.1,h,((l.mem x).1 h).2.2⟩⟩
      have ac:o.length<=a.length:=L.len;rcases j with⟨aa,_⟩|⟨_,v,j,y⟩
      ·omega
      ·rw[j,ob,dV rfl]
       have Q:∀e,e∈cD v↔e∈cD u\/e∈o:=λe=>by
        rw[(Yt y.perm).mem_iff,Oh,Og (vA n u o),aqp]
       refine⟨0,.inr ⟨q,n,_,_,_,_,rfl,d,rfl,i,G,(by show v.length<=400;rw[y.perm.length_eq,aqy,Of (vA n u o)];omega),.inr ⟨t,Y,W,O,V,l.inn,rfl,.inr ⟨rfl,λe a3 a4=>?_,λe D=>(Q e).2 (.inl D),λE=>?_⟩⟩⟩⟩
       ·rw[Q]
        by_cases c:e∈cD u
        ·exact .inl c
        ·exact .inr ((M e).2 ((l.mem e).2 ⟨a4,a3,c⟩))
       ·have:o=[]:=by
         rw[arX];intro x f;have:=(l.mem x).1 ((M x).1 f);exact this.2.2 (E x this.2.1 this.1)
        subst this;have F:=y.perm;rw[show BC [] (vz n u [])=[]from rfl,aqV]at F;exact⟨adB y.VF d.VF F,rfl⟩
  ·rw[YH K d D hq i,ob]
   simp only;rw[dN (by decide)];exact⟨1,.inl ⟨rfl,by decide,λ_=>rfl,λ_ _=>rfl⟩⟩
end
variable{u:Bool}{e:Type}{t:Value}{F j:World}
section
inductive Tr(α:Type)where
 |lf
 |nd (l:Tr α) (x:Option α) (r:Tr α)
def bB{α:Type}(b:Bool)(x y:α):α:=Bool.rec (motive:=λ_=>α) y x b
def oB{α R:Type}(o:Option α)(k:α->Option R):Option R:=Option.rec (motive:=λ_=>Option R) none k o
def kN{R:Type}(n:Nat)(k:Nat->R):R:=Nat.rec (motive:=λ_=>R) (k 0) (λm _=>k (Nat.succ m)) n
def kI{R:Type}(x:Int)(k:Int->R):R:=Int.rec (motive:=λ_=>R) (λn=>kN n λm=>k (Int.ofNat m)) (λn=>kN n λm=>k (Int.negSucc m)) x
def fm(n:Nat)(k:Nat->e):kN n k=k n:=by cases n<;>rfl
def yL(x:Int)(k:Int->e):kI x k=k x:=by
 cases x with
 |ofNat n=>exact fm n λm=>k (Int.ofNat m)
 |negSucc n=>exact fm n λm=>k (Int.negSucc m)
def bu{α R:Type}{o:Option α}{k:α->Option R}{r:R}(h:oB o k=some r):∃x,o=some x/\k x=some r:=by
 cases o with
 |none=>cases h
 |some x=>exact⟨x,rfl,h⟩
def dt{x y:Option e}{r:e}(h:bB u x y=some r):(u=true/\x=some r)\/(u=false/\y=some r):=by
 cases u with
 |true=>exact .inl ⟨rfl,h⟩
 |false=>exact .inr ⟨rfl,h⟩
def bd{x:Option e}{r:e}(h:bB u x none=some r):u=true/\x=some r:=by
 cases u with
 |true=>exact⟨rfl,h⟩
 |false=>cases h
def Tr.get{α:Type}:Tr α->Nat->Option α:=Tr.rec (motive:=λ_=>Nat->Option α) (λ_=>none)
 (λ_ x _ gl gr i=>bB (Nat.beq i 0) x (bB (Nat.beq (Nat.mod i 2) 1) (gl (Nat.div i 2)) (gr (Nat.sub (Nat.div i 2) 1))))
def Tr.put{α R:Type}(c:α):Tr α->Nat->(Tr α->Option R)->Option R:=Tr.rec (motive:=λ_=>Nat->(Tr α->Option R)->Option R) (λ_ _=>none)
 (λl x r pl pr i k=>bB (Nat.beq i 0) (oB x λ_=>k (.nd l (some c) r)) (bB (Nat.beq (Nat.mod i 2) 1) (pl (Nat.div i 2) λl'=>k (.nd l' x r)) (pr (Nat.sub (Nat.div i 2) 1) λr'=>k (.nd l x r'))))
def Tr.new{α R:Type}(c:Option α):Nat->Tr α->Nat->(Tr α->Option R)->Option R:=Nat.rec (motive:=λ_=>Tr α->Nat->(Tr α->Option R)->Option R) (λ_ _ _=>none)
 (λ_ ih t=>Tr.rec (motive:=λ_=>Nat->(Tr α->Option R)->Option R)
  (λi k=>bB (Nat.beq i 0) (k (.nd .lf c .lf)) (bB (Nat.beq (Nat.mod i 2) 1) (ih .lf (Nat.div i 2) λl=>k (.nd l none .lf)) (ih .lf (Nat.sub (Nat.div i 2) 1) λr=>k (.nd .lf none r))))
  (λl x r _ _ i k=>bB (Nat.beq i 0) (k (.nd l c r)) (bB (Nat.beq (Nat.mod i 2) 1) (ih l (Nat.div i 2) λl'=>k (.nd l' x r)) (ih r (Nat.sub (Nat.div i 2) 1) λr'=>k (.nd l x r')))) t)
def Tr.fill{α:Type}(c:α):Nat->Nat->Tr α:=Nat.rec (motive:=λ_=>Nat->Tr α) (λ_=>.lf)
 (λ_ ih n=>bB (Nat.beq n 0) .lf (.nd (ih (Nat.div n 2)) (some c) (ih (Nat.div (Nat.sub n 1) 2))))
def Tr.iF(l:Tr e)(x:Option e)(r:Tr e)(i:Nat):(Tr.nd l x r).get i=if i=0 then x else if i % 2=1 then l.get (i/2)else r.get (i/2 - 1):=by
 show bB (Nat.beq i 0) x (bB (Nat.beq (i % 2) 1) (l.get (i/2)) (r.get (i/2 - 1)))=_;by_cases b:i=0
 ·subst b;rfl
 ·have e0:Nat.beq i 0=false:=by cases h:Nat.beq i 0;·rfl
                                ·exact absurd (aqj h) b
  rw[e0,aqc b];by_cases a:i % 2=1
  ·rw[aqd a,a];rfl
  ·have c:Nat.beq (i % 2) 1=false:=by cases h:Nat.beq (i % 2) 1;·rfl
                                      ·exact absurd (aqj h) a
   rw[c,aqc a];rfl
def Tr.Q3(i:Nat):(Tr.lf:Tr e).get i=none:=rfl
def oD{α:Type}(c:Option α)(i:Nat)(t t':Tr α):Prop:=∀j,t'.get j=if j=i then c else t.get j
def oD.left{c:Option e}{l g r:Tr e}{x:Option e}(i:a % 2=1)(h:oD c (a/2) l g):oD c a (.nd l x r) (.nd g x r):=λj=>by
 rw[Tr.iF,Tr.iF];by_cases d:j=0
 ·subst d;rw[aqd rfl,aqd rfl,aqc (by omega)]
 ·rw[aqc d,aqc d]
  by_cases b:j % 2=1
  ·rw[aqd b,aqd b,h]
   by_cases f:j=a
   ·rw[aqd (by rw[f]),aqd f]
   ·rw[aqc (by omega),aqc f]
  ·rw[aqc b,aqc b,aqc (by omega)]
def oD.right{c:Option e}{l r g:Tr e}{x:Option e}(i:¬a=0)(k:¬a % 2=1)(h:oD c (a/2 - 1) r g):oD c a (.nd l x r) (.nd l x g):=λj=>by
 rw[Tr.iF,Tr.iF];by_cases d:j=0
 ·subst d;rw[aqd rfl,aqd rfl,aqc (by omega)]
 ·rw[aqc d,aqc d]
  by_cases b:j % 2=1
  ·rw[aqd b,aqd b,aqc (by omega)]
  ·rw[aqc b,aqc b,h]
   by_cases f:j=a
   ·rw[aqd (by rw[f]),aqd f]
   ·rw[aqc (by omega),aqc f]
def oD.here{c:Option e}{l r:Tr e}{x:Option e}:oD c 0 (.nd l x r) (.nd l c r):=λj=>by
 rw[Tr.iF,Tr.iF];by_cases h:j=0<;>simp[h]
def dW(h:Nat.beq a d=true):a=d:=aqj h
def iO(h:Nat.beq a d=false):¬a=d:=λe=>by rw[e,aqM]at h;cases h
def Tr.mo{α R:Type}{c:α}{r:R}:∀{t:Tr α} {i:Nat} {k:Tr α->Option R},Tr.put c t i k=some r->∃d,k d=some r/\(∃x,t.get i=some x)/\oD (some c) i t d
 |.lf,i,k,h=>by cases h
 |.nd l x j,i,k,h=>by
  change bB _ _ _=_ at h;rcases dt h with⟨b,h⟩|⟨b,h⟩
  ·obtain rfl:=dW b
   obtain⟨y,rfl,h⟩:=bu h;exact⟨_,h,⟨y,by rw[Tr.iF,aqd rfl]⟩,oD.here⟩
  ·have b:=iO b
   rcases dt h with⟨a,h⟩|⟨a,h⟩
   ·have a:i % 2=1:=dW a
    obtain⟨d,e,g,f⟩:=Tr.mo (t:=l) h;exact⟨_,e,by rw[Tr.iF,aqc b,aqd a];exact g,oD.left a f⟩
   ·have a:¬i % 2=1:=iO a
    obtain⟨d,e,g,f⟩:=Tr.mo (t:=j) h;exact⟨_,e,by rw[Tr.iF,aqc b,aqc a];exact g,oD.right b a f⟩
def Tr.nG{α R:Type}{c:Option α}{r:R}:∀{N:Nat} {t:Tr α} {i:Nat} {k:Tr α->Option R},Tr.new c N t i k=some r->∃t',k t'=some r/\oD c i t t'
 |0,t,i,k,h=>by cases h
 |N+1,t,i,k,h=>by
  have m:∀l x d,(∀j,t.get j=(Tr.nd l x d).get j)->bB (Nat.beq i 0) (k (.nd l c d)) (bB (Nat.beq (Nat.mod i 2) 1) (Tr.new c N l (Nat.div i 2) λo=>k (.nd o x d)) (Tr.new c N d (Nat.sub (Nat.div i 2) 1) λp=>k (.nd l x p)))=some r->
   ∃t',k t'=some r/\oD c i t t':=by
   intro l x d n h;have g:∀{t'},oD c i (.nd l x d) t'->oD c i t t':=λe j=>by rw[e j,n j]
   rcases dt h with⟨b,h⟩|⟨b,h⟩
   ·obtain rfl:=dW b
    exact⟨_,h,g oD.here⟩
   ·have b:=iO b
    rcases dt h with⟨a,h⟩|⟨a,h⟩
    ·have a:i % 2=1:=dW a
     obtain⟨t',f,e⟩:=Tr.nG h;exact⟨_,f,g (oD.left a e)⟩
    ·have a:¬i % 2=1:=iO a
     obtain⟨t',f,e⟩:=Tr.nG h;exact⟨_,f,g (oD.right b a e)⟩
  cases t with
  |lf=>exact m .lf none .lf (λj=>by
   rw[Tr.iF];by_cases b:j=0
   ·simp[b,Tr.Q3]
   ·by_cases a:j % 2=1<;>simp[b,a,Tr.Q3]) h
  |nd l x d=>exact m l x d (λ_=>rfl) h
def Tr.jl{α:Type}{c:α}:∀{N n i:Nat} {x:α},(Tr.fill c N n).get i=some x->x=c/\i<n
 |0,n,i,x,h=>by cases h
 |N+1,n,i,x,h=>by
  change(bB (Nat.beq n 0) Tr.lf (Tr.nd (Tr.fill c N (n/2)) (some c) (Tr.fill c N ((n - 1)/2)))).get i=_ at h;cases a:Nat.beq n 0 with
  |true=>rw[a]at h;cases h
  |false=>
   rw[a]at h;have b:=iO a;change(Tr.nd _ _ _).get i=_ at h;rw[Tr.iF]at h;split at h
   ·cases h;exact⟨rfl,by omega⟩
   ·split at h
    ·have:=Tr.jl h;exact⟨this.1,by omega⟩
    ·have:=Tr.jl h;exact⟨this.1,by omega⟩
inductive CV where
 |v (x:Value)
 |pt (k o:Nat)
 |sl (k o n:Nat) (c:Option Nat)
 |mp (k:Nat)
 |gl (g o:Nat)
 |ag (cs:List CV)
 |tu (cs:List CV)
 |cl (fn:Fn) (fs cs:List CV)
instance:Inhabited CV:=⟨.v undef⟩
def CV.one:CV->Bool
 |.v x=>x.oneCell'
 |.pt .. |.sl .. |.mp _|.cl .. |.gl .. =>true
 |.ag _|.tu _=>false
abbrev Nm:=Nat->Option (Nat×Nat)
inductive KR(ρ:Nm):CV->Value->Prop
 |v {x}:KR ρ (.v x) x
 |pt {k o b m} (h:ρ k=some (b,m)):KR ρ (.pt k o) (.pointer (some ⟨b,o,none⟩))
 |sl {k o n c b m cap f} (h:ρ k=some (b,m)) (ho:0<n\/o=0->f=o) (h1:n<=cap) (h3:∀x,c=some x->cap=x) (h4:c=none->o=0->cap=m):KR ρ (.sl k o n c) (.slice (some ⟨b,f,none⟩) n cap)
 |mp {k b m} (h:ρ k=some (b,m)):KR ρ (.mp k) (.map (some b))
 |gl {g o}:KR ρ (.gl g o) (.pointer (some ⟨g,o,none⟩))
 |ag {cs} (us:List Value) (hl:us.length=cs.length) (hc:∀(j:Nat) c u,cs[j]? =some c->us[j]? =some u->KR ρ c u):KR ρ (.ag cs) (.agg us.toArray)
 |tu {cs} (us:List Value) (hl:us.length=cs.length) (hc:∀(j:Nat) c u,cs[j]? =some c->us[j]? =some u->KR ρ c u):KR ρ (.tu cs) (.tuple us.toArray)
 |cl {fn fs cs} (us xs:List Value) (hl:us.length=fs.length) (hl2:xs.length=cs.length) (hc:∀(j:Nat) c u,fs[j]? =some c->us[j]? =some u->KR ρ c u)
  (hc2:∀(j:Nat) c u,cs[j]? =some c->xs[j]? =some u->KR ρ c u):KR ρ (.cl fn fs cs) (.func fn us.toArray xs.toArray)
def zY(ρ ρ':Nm):Prop:=∀k p,ρ k=some p->ρ' k=some p
def zY.refl(ρ:Nm):zY ρ ρ:=λ_ _ h=>h
def KR.mono{ρ g:Nm}(e:zY ρ g){c:CV}(h:KR ρ c t):KR g c t:=by
 induction h with
 |v=>exact .v
 |pt h=>exact .pt (e _ _ h)
 |sl h m i j k=>exact .sl (e _ _ h) m i j k
 |mp h=>exact .mp (e _ _ h)
 |gl=>exact .gl
 |ag d a f b=>exact .ag d a b
 |tu d a f b=>exact .tu d a b
 |cl d o a l f p b n=>exact .cl d o a l b n
def KR.jk{ρ:Nm}{c:CV}(h:KR ρ c t)(a:c.one=true):t.oneCell'=true:=by
 cases h with
 |v=>simpa[CV.one]using a
 |ag=>simp[CV.one]at a
 |tu=>simp[CV.one]at a
 |_=>rfl
def KR.bE{ρ:Nm}{x u:Value}(h:KR ρ (.v x) u):u=x:=by cases h;rfl
def KR.vF{ρ:Nm}(h:KR ρ (.pt a d) t):∃b m,ρ a=some (b,m)/\t=.pointer (some ⟨b,d,none⟩):=by
 cases h with
 |pt h=>exact⟨_,_,h,rfl⟩
def KR.eS{ρ:Nm}{cs:List CV}(h:KR ρ (.ag cs) t):∃a,t=.agg a.toArray/\LR (KR ρ) cs a:=by
 cases h with
 |ag a c b=>exact⟨a,rfl,c,b⟩
def KR.CB{ρ:Nm}{cs:List CV}(h:KR ρ (.tu cs) t):∃a,t=.tuple a.toArray/\LR (KR ρ) cs a:=by
 cases h with
 |tu a c b=>exact⟨a,rfl,c,b⟩
inductive cO where
 |ce (cs:Tr CV) (n:Nat) (ext:Option Nat) (wr:Bool)
 |ma (t:TypeId) (es:List (Value×CV)) (wr:Bool)
def cO.wr:cO->Bool
 |.ce _ _ _ b=>b
 |.ma _ _ b=>b
abbrev KH:=Nat->Option cO
variable{P:Program}{w0:World}
def BR(P:Program)(ρ:Nm)(w:World)(b m:Nat):cO->Prop
 |.ce cs n ext _=>∃t us,w.heap[b]? =some (.cells us t (0,0))/\n<=us.size/\(∀j c,cs.get j=some c->j<n/\∃u,us[j]? =some u/\KR ρ c u/\c.one=true)/\∀sz,ext=some sz->us.size=m*sz
 |.ma t es _=>∃d z arr clock,mapA P t=some (d,z)/\w.heap[b]? =some (.map arr clock)/\Fs (KR ρ) d es arr clock
def BR.lt{ρ:Nm}{x:cO}(h:BR P ρ j a d x):a<j.heap.size:=by
 cases x with
 |ce f n ext wr=>obtain⟨t,i,h,_⟩:=h;exact(aqU.1 h).1
 |ma t g wr=>obtain⟨b,z,c,e,_,h,_⟩:=h;exact(aqU.1 h).1
def BR.mono{ρ q:Nm}{w p:World}{b m:Nat}{x:cO}(h:BR P ρ w b m x)(i:zY ρ q)(o:p.heap[b]? =w.heap[b]?):BR P q p b m x:=by
 cases x with
 |ce B n ext wr=>
  obtain⟨t,A,e,f,g,v⟩:=h;exact⟨t,A,by rw[o];exact e,f,λj c y=>let⟨l,u,a,b,c⟩:=g j c y;⟨l,u,a,b.mono i,c⟩,v⟩
 |ma t C wr=>
  obtain⟨d,z,r,s,e,f,g⟩:=h;exact⟨d,z,r,s,e,by rw[o];exact f,g.imp λ_ _ k=>k.mono i⟩
structure HR(P:Program)(w0:World)(ρ:Nm)(h:KH)(n:Nat)(w:World):Prop where
 ext:Ext w0 w
 ob:∀k x b m,h k=some x->ρ k=some (b,m)->BR P ρ w b m x
 lo:∀k x b m,h k=some x->ρ k=some (b,m)->w0.heap.size<=b
 inj:∀k k' x x' b m m',h k=some x->h k'=some x'->ρ k=some (b,m)->ρ k'=some (b,m')->x.wr=true->k=k'
 top:∀k,n<=k->ρ k=none
 Cy:∀k,n<=k->h k=none
def HR.lt{ρ:Nm}{h:KH}(e:HR P w0 ρ h a j){p:Nat×Nat}(b:ρ d=some p):d<a:=by
 by_cases c:d<a
 ·exact c
 ·rw[e.top d (by omega)]at b;cases b
def HR.lth{ρ:Nm}{h:KH}(e:HR P w0 ρ h a j){x:cO}(b:h d=some x):d<a:=by
 by_cases c:d<a
 ·exact c
 ·rw[e.Cy d (by omega)]at b;cases b
def ad3(ρ:Nm)(h:KH)(b:Nat):Prop:=∀k x m,h k=some x->x.wr=true->ρ k≠some (b,m)
structure KP(P:Program)(w0:World)(ρ:Nm)(h:KH)(n:Nat)(w:World)(ρ':Nm)(h':KH)(n':Nat)(w':World):Prop where
 hr:HR P w0 ρ' h' n' w'
 nn:n<=n'
 ro:∀k,k<n->ρ' k=ρ k
 sz:w.heap.size<=w'.heap.size
 fr:∀b,b<w.heap.size->ad3 ρ h b->w'.heap[b]? =w.heap[b]? /\∀k x m,n<=k->h' k=some x->ρ' k≠some (b,m)
 ol:∀k x',k<n->h' k=some x'->∃x,h k=some x/\x.wr=x'.wr
 fz:∀k x,k<n->h k=some x->x.wr=false->h' k=some x
def KP.le{ρ c:Nm}{h e:KH}(f:KP P w0 ρ h a j c e d F)(g:HR P w0 ρ h a j):zY ρ c:=λk p b=>by rw[f.ro k (g.lt b)];exact b
def KP.refl{ρ:Nm}{h:KH}(d:HR P w0 ρ h a j):KP P w0 ρ h a j ρ h a j:=
 ⟨d,aqf _,λ_ _=>rfl,aqf _,λb g i=>⟨rfl,λk x m e c=>by rw[d.Cy k e]at c;cases c⟩,λk f _ c=>⟨f,c,rfl⟩,λk x _ c _=>c⟩
def KP.trans{ρ p z:Nm}{h i q:KH}{n o u:Nat}{w v y:World}(a:KP P w0 ρ h n w p i o v)(b:KP P w0 p i o v z q u y):KP P w0 ρ h n w z q u y:=by
 have J:=a.nn;refine⟨b.hr,aq9 a.nn b.nn,λk d=>(b.ro k (by omega)).trans (a.ro k d),aq9 a.sz b.sz,λc E s=>?_,λk H d e=>?_,λk x d e g=>?_⟩
 ·obtain⟨j,r⟩:=a.fr c E s
  have F:ad3 p i c:=λk x m e g=>by
   by_cases d:k<n
   ·obtain⟨f,l,G⟩:=a.ol k x d e
    rw[a.ro k d];exact s k f m l (G.trans g)
   ·exact r k x m (by omega) e
  obtain⟨C,D⟩:=b.fr c (by have:=a.sz;omega) F;refine⟨C.trans j,λk x m d e=>?_⟩;by_cases t:k<o
  ·obtain⟨f,l,_⟩:=b.ol k x t e
   rw[b.ro k t];exact r k f m d l
  ·exact D k x m (by omega) e
 ·obtain⟨I,j,A⟩:=b.ol k H (by omega) e
  obtain⟨f,B,e0⟩:=a.ol k I d j;exact⟨f,B,e0.trans A⟩
 ·exact b.fz k x (by omega) (a.fz k x d e g) g
def HR.new{ρ:Nm}{h u:KH}(g:HR P w0 ρ h a j)(x:cO)(m:Nat)(i:∀k,u k=if k=a then some x else h k)(t:Ext j F)(E:j.heap.size<F.heap.size)
 (s:BR P (λk=>if k=a then some (j.heap.size,m)else ρ k) F j.heap.size m x):
 KP P w0 ρ h a j (λk=>if k=a then some (j.heap.size,m)else ρ k) u (a+1) F:=by
 have B:zY ρ (λk=>if k=a then some (j.heap.size,m)else ρ k):=λk p c=>by
  have:=g.lt c;simp only;rw[aqc (by omega)];exact c
 have bJ:∀b,b<j.heap.size->F.heap[b]? =j.heap[b]? :=λb s=>t.bJ b s;refine⟨⟨g.ext.trans t,λk y b r d c=>?_,λk y b r d c=>?_,λk q y z b v w d o c l C=>?_,λk c=>?_,λk c=>?_⟩,Nat.le_succ _,λk c=>?_,t.size,λb A D=>⟨bJ b A,λk y r c d=>?_⟩,λk y c d=>?_,λk y c d _=>?_⟩
 ·skip
  rw[i]at d;by_cases f:k=a
  ·rw[aqd f]at d c;cases d;cases c;exact s
  ·rw[aqc f]at d c
   have:=g.ob k y b r d c;exact this.mono B (bJ b this.lt)
 ·skip
  rw[i]at d;by_cases f:k=a
  ·rw[aqd f]at d c;cases c;exact g.ext.size
  ·rw[aqc f]at d c
   exact g.lo k y b r d c
 ·skip
  rw[i]at d o;by_cases f:k=a
  ·by_cases n:q=a
   ·rw[f,n]
   ·rw[aqd f]at c;rw[aqc n]at l o
    cases c;have:=(g.ob q z _ w o l).lt;omega
  ·rw[aqc f]at c d
   by_cases n:q=a
   ·rw[aqd n]at l
    cases l;have:=(g.ob k y _ v d c).lt;omega
   ·rw[aqc n]at l o
    exact g.inj k q y z b v w d o c l C
 ·rw[aqc (by omega)];exact g.top k (by omega)
 ·rw[i,aqc (by omega)];exact g.Cy k (by omega)
 ·rw[aqc (by omega)]
 ·rw[i]at d
  by_cases f:k=a
  ·rw[aqd f];intro e;cases e;omega
  ·rw[aqc f]at d;rw[g.Cy k c]at d;cases d
 ·rw[i,aqc (by omega)]at d;exact⟨y,d,rfl⟩
 ·rw[i,aqc (by omega)];exact d
def HR.set{ρ:Nm}{h s:KH}{w p:World}(g:HR P w0 ρ h a w){i b0 r:Nat}{m:cO}(x:cO)(l:h i=some m)(t:ρ i=some (b0,r))(o:m.wr=true)(v:x.wr=true)
 (j:∀k,s k=if k=i then some x else h k) (I:Ext w0 p) (H:p.heap.size=w.heap.size) (u:∀b,b≠b0->p.heap[b]? =w.heap[b]?) (E:BR P ρ p b0 r x):
 KP P w0 ρ h a w ρ s a p:=by
 have U:=g.lth l;refine⟨⟨I,λk y b n c d=>?_,λk y b n c d=>?_,λk A y O b M N c J d G q=>?_,g.top,λk d=>?_⟩,aqf _,λk d=>rfl,Nat.le_of_eq H.symm,λb S F=>⟨u b ?_,λk y n d c=>?_⟩,λk y d c=>?_,λk y d c q=>?_⟩
 ·rw[j]at c
  by_cases f:k=i
  ·subst f
   rw[aqd rfl]at c;rw[t]at d;cases c;cases d;exact E
  ·rw[aqc f]at c
   exact(g.ob k y b n c d).mono (zY.refl ρ) (u b λe=>f (by subst e;exact(g.inj i k m y b r n l c t d o).symm))
 ·rw[j]at c
  by_cases f:k=i
  ·subst f;exact g.lo k m b n l d
  ·rw[aqc f]at c;exact g.lo k y b n c d
 ·have B:∀k y,s k=some y->∃C,h k=some C/\C.wr=y.wr:=λk y c=>by
   rw[j]at c;by_cases f:k=i
   ·subst f;rw[aqd rfl]at c;cases c;exact⟨m,l,o.trans v.symm⟩
   ·rw[aqc f]at c;exact⟨y,c,rfl⟩
  obtain⟨z,K,D⟩:=B k y c;obtain⟨Q,L,R⟩:=B A O J;exact g.inj k A z Q b M N K L d G (D.trans q)
 ·rw[j,aqc (by omega)];exact g.Cy k d
 ·intro e;subst e;exact F i m r l o t
 ·rw[j,aqc (by omega)]at c;rw[g.Cy k d]at c;cases c
 ·rw[j]at c
  by_cases f:k=i
  ·subst f;rw[aqd rfl]at c;cases c;exact⟨m,l,o.trans v.symm⟩
  ·rw[aqc f]at c;exact⟨y,c,rfl⟩
 ·rw[j,aqc]
  ·exact c
  ·intro e;subst e;rw[l]at c;cases c;rw[o]at q;cases q
def HR.kill{ρ:Nm}{h h':KH}(f:HR P w0 ρ h a j){p:cO}(r:h d=some p)(s:p.wr=true)(l:∀k,h' k=if k=d then none else h k):KP P w0 ρ h a j ρ h' a j:=by
 have g:∀k y,h' k=some y->h k=some y:=λk y c=>by
  rw[l]at c;split at c
  ·cases c
  ·exact c
 refine⟨⟨f.ext,λk y b m c=>f.ob k y b m (g k y c),λk y b m c=>f.lo k y b m (g k y c),λk o y q b u v c t=>f.inj k o y q b u v (g k y c) (g o q t),f.top,λk i=>?_⟩,aqf _,λ_ _=>rfl,aqf _,
  λb w x=>⟨rfl,λk y m i c=>?_⟩,λk y i c=>⟨y,g k y c,rfl⟩,λk y i c n=>?_⟩
 ·rw[l];split
  ·rfl
  ·exact f.Cy k i
 ·have:=g k y c;rw[f.Cy k i]at this;cases this
 ·rw[l,aqc]
  ·exact c
  ·intro e;subst e;rw[r]at c;cases c;rw[s]at n;cases n
def HR.move{ρ:Nm}{h D:KH}(g:HR P w0 ρ h a j){l b0 i:Nat}{n:cO}(x:cO)(m:h l=some n)(t:ρ l=some (b0,i))(w:n.wr=true)(Q:x.wr=true)
 (A:∀k,D k=if k=a then some x else if k=l then none else h k) (M:Ext w0 F) (L:F.heap.size=j.heap.size) (G:∀b,b≠b0->F.heap[b]? =j.heap[b]?)
 (J:BR P (λk=>if k=a then some (b0,i)else ρ k) F b0 i x):
 KP P w0 ρ h a j (λk=>if k=a then some (b0,i)else ρ k) D (a+1) F:=by
 have O:=g.lth m;have K:zY ρ (λk=>if k=a then some (b0,i)else ρ k):=λk p c=>by
  have:=g.lt c;simp only;rw[aqc (by omega)];exact c
 have r:∀k y,¬k=a->D k=some y->h k=some y/\¬k=l:=λk y f d=>by
  rw[A,aqc f]at d;split at d
  ·cases d
  ·rename_i o;exact⟨d,o⟩
 refine⟨⟨M,λk y b z d c=>?_,λk y b z d c=>?_,λk u y C b H I d B c s v=>?_,λk c=>?_,λk c=>?_⟩,Nat.le_succ _,λk c=>?_,Nat.le_of_eq L.symm,λb N E=>⟨G b ?_,λk y z c d=>?_⟩,λk y c d=>?_,λk y c d v=>?_⟩
 ·skip
  by_cases f:k=a
  ·rw[aqd f]at c;rw[A,aqd f]at d;cases d;cases c;exact J
  ·rw[aqc f]at c
   obtain⟨d,o⟩:=r k y f d;exact(g.ob k y b z d c).mono K (G b λe=>o (by subst e;exact(g.inj l k n y b i z m d t c w).symm))
 ·skip
  by_cases f:k=a
  ·rw[aqd f]at c;cases c;exact g.lo l n b0 i m t
  ·rw[aqc f]at c
   exact g.lo k y b z (r k y f d).1 c
 ·skip
  by_cases f:k=a
  ·by_cases q:u=a
   ·rw[f,q]
   ·rw[aqd f]at c;rw[aqc q]at s
    cases c;obtain⟨B,o⟩:=r u C q B;exact absurd (g.inj l u n C b0 i I m B t s w).symm o
  ·rw[aqc f]at c
   obtain⟨d,o⟩:=r k y f d;by_cases q:u=a
   ·rw[aqd q]at s
    cases s;exact absurd (g.inj k l y n b0 H i d m c t v) o
   ·rw[aqc q]at s
    exact g.inj k u y C b H I d (r u C q B).1 c s v
 ·rw[aqc (by omega)];exact g.top k (by omega)
 ·rw[A,aqc (by omega),aqc (by omega)];exact g.Cy k (by omega)
 ·rw[aqc (by omega)]
 ·intro e;subst e;exact E l n i m w t
 ·by_cases f:k=a
  ·rw[aqd f];intro e;cases e;exact E l n i m w t
  ·have:=(r k y f d).1;rw[g.Cy k c]at this;cases this
 ·have:=r k y (by omega) d;exact⟨y,this.1,rfl⟩
 ·rw[A,aqc (by omega),aqc]
  ·exact d
  ·intro e;subst e;rw[m]at d;cases d;rw[w]at v;cases v
end
variable{A:List CV}{v:Tr CV}
section
section
variable{P:Program}{Dk:Deferred->Prop}{w0:World}{T:TypeId->bj}
def mD(ρ:Nm)(t:Tr CV)(a:Act):Prop:=∀i c,t.get i=some c->∃u,a.tmps[i]? =some u/\KR ρ c u
def mD.mono{ρ b:Nm}{t:Tr CV}{a:Act}(h:mD ρ t a)(g:zY ρ b):mD b t a:=λi c j=>let⟨u,e,f⟩:=h i c j;⟨u,e,f.mono g⟩
def YL:Value->CV
 |.agg cs=>.ag (cs.toList.map .v)
 |x=>.v x
def LR.vs{ρ:Nm}(b:List Value):LR (KR ρ) (b.map .v) b:=⟨by simp,λj c u a e=>by
 rw[aqA,e]at a;cases a;exact .v⟩
def Fa{ρ:Nm}(x:Value):KR ρ (YL x) x:=by
 unfold YL;split
 ·rename_i a
  have h:=LR.vs (ρ:=ρ) a.toList;have:=KR.ag (ρ:=ρ) a.toList h.1 h.2;simpa using this
 ·exact .v
def dM(t:Tr CV){R:Type}(x:Operand)(k:CV->Option R):Option R:=
 Operand.rec (motive:=λ_=>(CV->Option R)->Option R) (λi k=>oB (t.get i) k) (λv k=>k (YL v)) (λg k=>k (.gl g 0)) (λf k=>k (.v (.func (.func f) #[] #[]))) x k
def jL(t:Tr CV)(x:Operand)(c:CV):Prop:=∀ρ a,mD ρ t a->KR ρ c (a.eval x)
def bV{t:Tr CV}{R:Type}{x:Operand}{k:CV->Option R}{r:R}(h:dM t x k=some r):∃c,jL t x c/\k c=some r:=by
 cases x with
 |tmp i=>
  obtain⟨c,l,h⟩:=bu h;refine⟨c,λρ a b=>?_,h⟩;obtain⟨u,e,j⟩:=b i c l;have:a.eval (.tmp i)=u:=by simp[Act.eval,ary,e]
  rw[this];exact j
 |const v=>exact⟨_,λρ a b=>Fa v,h⟩
 |global g=>exact⟨_,λρ a b=>.gl,h⟩
 |func f=>exact⟨_,λρ a b=>.v,h⟩
def pU(t:Tr CV){R:Type}(xs:List Operand):(List CV->Option R)->Option R:=
 List.rec (motive:=λ_=>(List CV->Option R)->Option R) (λk=>k []) (λx _ ih k=>dM t x λc=>ih λcs=>k (c::cs)) xs
def Cz{t:Tr CV}{R:Type}{r:R}:∀{xs:List Operand} {k:List CV->Option R},pU t xs k=some r->∃b,(∀ρ a,mD ρ t a->LR (KR ρ) b (xs.map a.eval))/\k b=some r
 |[],k,h=>⟨[],λ_ _ _=>LR.nil,h⟩
 |x::xs,k,h=>by
  obtain⟨c,f,h⟩:=bV h;obtain⟨b,g,h⟩:=Cz (xs:=xs) h;exact⟨c::b,λρ a e=>LR.cons (f ρ a e) (g ρ a e),h⟩
def Fb(P:Program)(w0:World)(d:Deferred):Prop:=∃fv cap f args,d.target=.fn fv cap/\∀w,Ext w0 w->(invoke d.target d.args).run P w=.ok (.enter f args) w/\CallsD P f args .returning w λe u w'=>(∃v,e=.returned v)/\u=.returning/\Ext w w'
def Yld(P:Program)(Dk:Deferred->Prop)(o:Oper)(a:Act)(w:World)(R:Value->World->Prop):Prop:=
 ∀next Q,(∀v w' D,R v w'->(∀d∈D,Dk d)->next (({a with defers:=D++a.defers}:Act).put o.dst v) w')->o.wp P a w next Q
def Yld.value{o:Oper}{a:Act}{w w':World}{v:Value}{R:Value->World->Prop}(c:(execOp a.eval o).run P w=.ok (.value v) w')(h:R v w'):Yld P Dk o a w R:=λnext Q b=>dY c (b _ _ [] h (by simp))
def Yld.skip{o:Oper}{a:Act}{w w':World}{R:Value->World->Prop}(c:(execOp a.eval o).run P w=.ok .skip w')(h:R undef w'):Yld P Dk o a w R:=λnext Q b=>sL c (b _ _ [] h (by simp))
def FK(P:Program)(Dk:Deferred->Prop)(w0:World)(o:Oper)(t:Tr CV)(h:Tr cO)(n:Nat)(c:CV)(h':Tr cO)(n':Nat):Prop:=
 ∀ρ a w,mD ρ t a->HR P w0 ρ h.get n w->Yld P Dk o a w λv w'=>∃ρ',KP P w0 ρ h.get n w ρ' h'.get n' w'/\KR ρ' c v
def QK(P:Program)(o:Oper)(t:Tr CV)(c:CV):Prop:=∀ρ a w,mD ρ t a->∃v,(execOp a.eval o).run P w=.ok (.value v) w/\KR ρ c v
def PK(P:Program)(w0:World)(o:Oper)(t:Tr CV)(h:Tr cO)(c:CV):Prop:=∀ρ a w N,mD ρ t a->HR P w0 ρ h.get N w->∃v,(execOp a.eval o).run P w=.ok (.value v) w/\KR ρ c v
def tR(H:KH)(N:Nat):Option cO->KH
 |none=>H
 |some b=>λk=>if k=N then some b else H k
def yM(N:Nat):Option cO->Nat
 |none=>N
 |some _=>N+1
def ZK(P:Program)(Dk:Deferred->Prop)(w0:World)(o:Oper)(t:Tr CV)(cf:Nat->CV)(nb:Option cO):Prop:=∀ρ a w (H:KH) N,mD ρ t a->HR P w0 ρ H N w->Yld P Dk o a w λv w'=>∃ρ',KP P w0 ρ H N w ρ' (tR H N nb) (yM N nb) w'/\KR ρ' (cf N) v
def QK.z{o:Oper}{t:Tr CV}{c:CV}(f:QK P o t c):ZK P Dk w0 o t (λ_=>c) none:=λρ a w H N i g=>by
 obtain⟨v,b,e⟩:=f ρ a w i;exact .value b ⟨ρ,.refl g,e⟩
def PK.fk{o:Oper}{t:Tr CV}{h:Tr cO}{n:Nat}{c:CV}(g:PK P w0 o t h c):FK P Dk w0 o t h n c h n:=λρ a w i b=>by
 obtain⟨v,e,f⟩:=g ρ a w n i b;exact .value e ⟨ρ,.refl b,f⟩
def FK.pure{o:Oper}{t:Tr CV}{h:Tr cO}{n:Nat}{c:CV}(g:∀ρ a w,mD ρ t a->HR P w0 ρ h.get n w->∃v,(execOp a.eval o).run P w=.ok (.value v) w/\KR ρ c v):FK P Dk w0 o t h n c h n:=λρ a w i b=>by
 obtain⟨v,e,f⟩:=g ρ a w i b;exact .value e ⟨ρ,.refl b,f⟩
section
variable{t:Tr CV}{h:Tr cO}{n:Nat}{d:Option Tmp}{ty t1 t2:TypeId}{pos:String}{af:Array Edge}{gd:Option (Nat×Bool)}{x y z:Operand}{R:Type}{r:R}
def asI(c:CV){R:Type}(k:IntKind->Int->Option R):Option R:=match c with
 |.v (.int kd m)=>k kd m
 |_=>none
def JN{c:CV}{k:IntKind->Int->Option R}(h:asI c k=some r):∃a m,c=.v (.int a m)/\k a m=some r:=by
 unfold asI at h;split at h
 ·exact⟨_,_,rfl,h⟩
 ·cases h
def asB(c:CV){R:Type}(k:Bool->Option R):Option R:=match c with
 |.v (.bool b)=>k b
 |_=>none
def Q4{c:CV}{k:Bool->Option R}(h:asB c k=some r):∃b,c=.v (.bool b)/\k b=some r:=by
 unfold asB at h;split at h
 ·exact⟨_,rfl,h⟩
 ·cases h
def blC(h:Tr cO)(k:Nat){R:Type}(f:Tr CV->Nat->Option Nat->Bool->Option R):Option R:=oB (h.get k) λx=>match x with
 |.ce cs n e wr=>f cs n e wr
 |_=>none
def zZ{f:Tr CV->Nat->Option Nat->Bool->Option R}(b:blC h a f=some r):∃c m e wr,h.get a=some (.ce c m e wr)/\f c m e wr=some r:=by
 obtain⟨x,g,b⟩:=bu b;split at b
 ·exact⟨_,_,_,_,g,b⟩
 ·cases b
def rdC(cs:Tr CV){R:Type}:Nat->Nat->(List CV->Option R)->Option R:=Nat.rec (motive:=λ_=>Nat->(List CV->Option R)->Option R) (λ_ k=>k [])
 (λ_ ih o k=>oB (cs.get o) λc=>ih (Nat.succ o) λl=>k (c::l))
def Fc{b:Tr CV}:∀{m o:Nat} {k:List CV->Option R},rdC b m o k=some r->∃l,l.length=m/\(∀(j:Nat) c,l[j]? =some c->b.get (o+j)=some c)/\k l=some r
 |0,o,k,h=>⟨[],rfl,by simp,h⟩
 |m+1,o,k,h=>by
  obtain⟨c,i,h⟩:=bu h;obtain⟨l,e,f,g⟩:=Fc (m:=m) h;refine⟨c::l,by simp[e],λj x a=>?_,g⟩;cases j with
  |zero=>simp at a;subst a;exact i
  |succ j=>rw[show o+(j+1)=o+1+j by omega];exact f j x (by simpa using a)
def BR.cells{ρ:Nm}{b m N:Nat}{e:Option Nat}{wr:Bool}(D:BR P ρ F b m (.ce v N e wr)):∀(l:List CV),(∀(j:Nat) c,l[j]? =some c->v.get (a+j)=some c)->
 ∃w,LR (KR ρ) l w/\(∀(j:Nat) u,w[j]? =some u->F.cell? ⟨b,a+j,none⟩=some u)/\∀u∈w,u.oneCell'=true:=λl H=>by
 obtain⟨ty,g,B,J,C,K⟩:=D;have s:∀(j:Nat) c,l[j]? =some c->KR ρ c (g.getD (a+j) undef)/\F.cell? ⟨b,a+j,none⟩=some (g.getD (a+j) undef)/\(g.getD (a+j) undef).oneCell'=true:=λj c k=>by
  obtain⟨_,u,f,A,I⟩:=C _ _ (H j c k);have:g.getD (a+j) undef=u:=by simp[ary,f]
  rw[this];exact⟨A,by rw[arj F b (a+j) g ty (0,0) B,f],A.jk I⟩
 have k:∀(j:Nat) u,((List.range l.length).map λj=>g.getD (a+j) undef)[j]? =some u->∃c,l[j]? =some c/\u=g.getD (a+j) undef:=λj u f=>by
  rw[aqA]at f;obtain⟨i,G,rfl⟩:=aqL.1 f;have:=(aqh.1 G);obtain⟨q,rfl⟩:=this;simp at q;exact⟨l[j],aqm q,by simp⟩
 refine⟨(List.range l.length).map λj=>g.getD (a+j) undef,⟨by simp,λj c u E f=>?_⟩,λj u f=>?_,λu f=>?_⟩
 ·obtain⟨o,p,rfl⟩:=k j u f
  exact(s j c E).1
 ·obtain⟨o,p,rfl⟩:=k j u f
  exact(s j o p).2.1
 ·obtain⟨j,q,rfl⟩:=aqY f
  obtain⟨o,p,e⟩:=k j _ (aqm q);rw[e];exact(s j o p).2.2
def FK.ev{b:Op}{c:CV}(e:b=.move x\/b=.assign x)(g:jL t x c):QK P ⟨d,b,ty,pos,af,gd⟩ t c:=λρ a w f=>by
 refine⟨a.eval x,?_,g ρ a f⟩;rcases e with rfl|rfl<;>simp[execOp]
def V1(ag:Bool)(l:List CV){R:Type}(k:CV->Option R):Option R:=bB ag (k (.ag l)) (match l with
 |[c]=>k c
 |_=>none)
def HO{ρ:Nm}{w:World}{m b o:Nat}{e:List Value}{k:CV->Option R}(q:O_ P t1=some (u,m))(p:A.length=m)(s:V1 u A k=some r)(f:LR (KR ρ) A e)(l:∀(j:Nat) a,e[j]? =some a->w.cell? ⟨b,o+j,none⟩=some a):
 ∃a,(loadVar t1 ⟨b,o,none⟩).run P w=.ok a w/\∀c,(u=true/\c=.ag A\/u=false/\A=[c])->KR ρ c a:=by
 have i:=oL (P:=P) q (b:=b) (o:=o) (us:=e) (w:=w) (by rw[f.1,p]) l;cases u with
 |true=>
  refine⟨.agg e.toArray,i.1 rfl,λc g=>?_⟩;rcases g with⟨_,rfl⟩|⟨h,_⟩
  ·exact .ag e f.1 f.2
  ·cases h
 |false=>
  have:∃c,A=[c]:=by
   rcases dt s with⟨h,_⟩|⟨_,h⟩
   ·cases h
   ·split at h
    ·exact⟨_,rfl⟩
    ·cases h
  obtain⟨c,rfl⟩:=this;obtain⟨a,rfl⟩:∃a,e=[a]:=by
   match e,f.1 with
   |[a],_=>exact⟨a,rfl⟩
  refine⟨a,i.2 rfl a rfl,λv g=>?_⟩;rcases g with⟨h,_⟩|⟨_,h⟩
  ·cases h
  ·cases h;exact f.2 0 c a rfl rfl
def OG{k:CV->Option R}(a:V1 u A k=some r):∃c,(u=true/\c=.ag A\/u=false/\A=[c])/\k c=some r:=by
 rcases dt a with⟨rfl,h⟩|⟨rfl,h⟩
 ·exact⟨_,.inl ⟨rfl,rfl⟩,h⟩
 ·split at h
  ·exact⟨_,.inr ⟨rfl,rfl⟩,h⟩
  ·cases h
def atK(h:Tr cO)(c:CV)(ag:Bool)(m:Nat){R:Type}(k:CV->Option R):Option R:=match c with
 |.pt j o=>blC h j λcs _ _ _=>rdC cs m o λl=>V1 ag l k
 |.gl g o=>oB (Ws Y2 g) λp=>bB (Nat.beq m 1) (oB (p.2[o]?) λx=>V1 ag [.v (.int p.1 x)] k) none
 |_=>none
def ad5(J:∀b o f,GT b o f->w0.cell? ⟨b,o,none⟩=some f){p:CV}{k:CV->Option R}(F:O_ P t1=some (u,a))(i:atK h p u a k=some r):
 ∃c,(∀ρ w v N,HR P w0 ρ h.get N w->KR ρ p v->∃b o f,v=.pointer (some ⟨b,o,none⟩)/\(loadVar t1 ⟨b,o,none⟩).run P w=.ok f w/\KR ρ c f)/\k c=some r:=by
 unfold atK at i;split at i
 ·rename_i j o
  obtain⟨X,N,e,wr,K,i⟩:=zZ i;obtain⟨l,O,Q,i⟩:=Fc i;obtain⟨c,m,A⟩:=OG i;refine⟨c,λρ w v _ C E=>?_,A⟩;obtain⟨b,q,U,rfl⟩:=E.vF;obtain⟨Z,H,I,Y⟩:=(C.ob _ _ _ _ K U).cells l Q;obtain⟨f,D,B⟩:=HO F O i H I;exact⟨b,o,f,rfl,D,B c m⟩
 ·rename_i g o
  obtain⟨⟨G,W⟩,M,i⟩:=bu i;obtain⟨S,i⟩:=bd i;obtain rfl:=dW S;obtain⟨x,V,i⟩:=bu i;obtain⟨c,m,A⟩:=OG i;refine⟨c,λρ w v _ C E=>?_,A⟩;cases E with
  |gl=>
   have L:w.cell? ⟨g,o,none⟩=some (.int G x):=C.ext.cell (J g o _ ⟨G,W,x,M,V,rfl⟩);obtain⟨f,D,B⟩:=HO (ρ:=ρ) (w:=w) (b:=g) (o:=o) F rfl i (LR.cons .v LR.nil) (λj f s=>by
    cases j with
    |zero=>simp at s;subst s;exact L
    |succ j=>simp at s)
   exact⟨g,o,f,rfl,D,B c m⟩
 ·cases i
def ad6(T:TypeId->bj)(h:Tr cO)(t1:TypeId)(c:CV){R:Type}(k:CV->Option R):Option R:=oB (T t1).ty λp=>atK h c p.1 p.2 k
def FK.load(l:f_ P T)(j:∀b o u,GT b o u->w0.cell? ⟨b,o,none⟩=some u){p:CV}{k:CV->Option R}(B:jL t x p)(e:ad6 T h t1 p k=some r):∃c,PK P w0 ⟨d,.load t1 x,ty,pos,af,gd⟩ t h c/\k c=some r:=by
 obtain⟨⟨C,m⟩,A,e⟩:=bu e;obtain⟨c,q,e⟩:=ad5 (h:=h) j (l.ty _ _ A) e;refine⟨c,λρ a w N v s=>?_,e⟩;obtain⟨b,o,u,f,g,i⟩:=q ρ w _ N s (B ρ a v);exact⟨u,by simp[execOp,Instr.loadAt,Instr.sureAddr,f,g],i⟩
def ptK(c:CV)(f:Nat){R:Type}(k:CV->Option R):Option R:=match c with
 |.pt j o=>kN (Nat.add o f) λo=>k (.pt j o)
 |.gl g o=>kN (Nat.add o f) λo=>k (.gl g o)
 |_=>none
def ad7{p:CV}{f:Nat}{k:CV->Option R}(a:ptK p f k=some r):∃c,(∀ρ v,KR ρ p v->∃b o,v=.pointer (some ⟨b,o,none⟩)/\KR ρ c (.pointer (some ⟨b,o+f,none⟩)))/\k c=some r:=by
 unfold ptK at a;split at a
 ·rw[fm]at a
  refine⟨_,λρ v e=>?_,a⟩;obtain⟨b,m,g,rfl⟩:=e.vF;exact⟨b,_,rfl,.pt g⟩
 ·rw[fm]at a
  refine⟨_,λρ v e=>?_,a⟩;cases e with
  |gl=>exact⟨_,_,rfl,.gl⟩
 ·cases a
def FK.fieldAddr(A:f_ P T){p:CV}{k:CV->Option R}(H:jL t x p)(g:(oB (T t1).fd[a]? λq=>bB (Nat.beq q.2.2 0) none (ptK p q.1 k))=some r):∃c,QK P ⟨d,.fieldAddr t1 x a,ty,pos,af,gd⟩ t c/\k c=some r:=by
 obtain⟨⟨N,I,m⟩,D,g⟩:=bu g;rcases dt g with⟨_,j⟩|⟨j,g⟩
 ·cases j
 obtain⟨c,C,g⟩:=ad7 g;refine⟨c,λρ e w f=>?_,g⟩;obtain⟨b,o,F,G⟩:=C ρ _ (H ρ e f);refine⟨_,?_,G⟩;have f:=A.fd _ _ _ D;have E:m≠0:=iO j;unfold YV at f;split at f
 ·rename_i K l
  split at f
  ·rename_i fl s
   split at f
   ·rename_i J M u
    simp only[aqg,aqx]at f;obtain⟨rfl,rfl,rfl⟩:=f;obtain⟨O,i,L,v,_,rfl⟩:=hU u;have B:(⟨b,o,none⟩:Addr).add fl.offset=⟨b,o+fl.offset,none⟩:=aqW ..;simp[execOp,Instr.fieldAt,aqF l,s,F,Instr.sureAddr,fieldPlace,cq w v,E,B]
   ·cases f
  ·cases f
 ·cases f
def Q5(T:TypeId->bj)(t1:TypeId)(c:CV)(i:Nat){R:Type}(k:CV->Option R):Option R:=match c with
 |.sl j o m _=>bB (Nat.blt i m) (oB (T t1).el λe=>kN (Nat.add o (Nat.mul i e.2.1)) λo=>k (.pt j o)) none
 |c=>oB (T t1).ar λq=>bB (Nat.blt i q.1) (ptK c (Nat.mul i q.2.2) k) none
def tT(c:CV){R:Type}(k:Nat->Option R):Option R:=match c with
 |.v (.int _ (.ofNat m))=>k m
 |_=>none
def lJ{c:CV}{k:Nat->Option R}(a:tT c k=some r):∃b m,c=.v (.int b (Int.ofNat m))/\k m=some r:=by
 unfold tT at a;split at a
 ·exact⟨_,_,rfl,a⟩
 ·cases a
def FK.indexAddr(F:f_ P T){p q:CV}{k:CV->Option R}(H:jL t x p)(I:jL t y q)(e:(tT q λi=>Q5 T t1 p i k)=some r):∃c,QK P ⟨d,.indexAddr t1 x y,ty,pos,af,gd⟩ t c/\k c=some r:=by
 obtain⟨kd,i,rfl,e⟩:=lJ e;unfold Q5 at e;split at e
 ·rename_i j o m _ _
  obtain⟨g,e⟩:=bd e;have g:i<m:=aqk g;obtain⟨⟨E,W,X,z⟩,C,e⟩:=bu e;rw[fm]at e;refine⟨_,λρ a w s=>?_,e⟩;obtain⟨l,zv,K,A,Z,h4,rfl,_,_⟩:=cK (F.el _ _ C);have v:=H ρ a s;have D:=(I ρ a s).bE;generalize M:a.eval x=u at v;cases v with
  | @sl _ _ _ _ b _ Y f U S a2 a0 a1=>
   have O:f=o:=S (.inl (by omega));subst O;refine⟨.pointer (some ⟨b,f+i*l.size,none⟩),?_,.pt U⟩;have B:(⟨b,f,none⟩:Addr).add (i*l.size)=⟨b,f+i*l.size,none⟩:=aqW ..;have G:Int.ofNat i<(m:Int):=by simp;exact g
   simp[execOp,Instr.indexAt,D,asIntOf,aqF K,M,g,cq w A,B]
 ·obtain⟨⟨m,E,W⟩,C,e⟩:=bu e
  obtain⟨g,e⟩:=bd e;have Q:i<m:=aqk g;obtain⟨c,N,e⟩:=ad7 e;refine⟨c,λρ a w s=>?_,e⟩;obtain⟨l,L,A,rfl⟩:=sK (F.ar _ _ C);obtain⟨b,o,v,V⟩:=N ρ _ (H ρ a s);have D:=(I ρ a s).bE;refine⟨_,?_,V⟩;have B:(⟨b,o,none⟩:Addr).add (i*l.size)=⟨b,o+i*l.size,none⟩:=aqW ..;have G:(Int.ofNat i)<(m:Int):=Int.ofNat_lt.2 Q;have J:0<=Int.ofNat i:=Int.natCast_nonneg i;simp only[execOp,Instr.indexAt,D,asIntOf,aqF L,v,Instr.sureAddr,J,G,cq w A,aqs,aqu,aqt,and_self,aqP];exact aqr (λp=>Result.ok (Next.value (.pointer (some p))) w) B
def agH(c:CV){R:Type}(k:ByteArray->Option R):Option R:=match c with
 |.v (.string s)=>k s
 |_=>none
def agI{c:CV}{k:ByteArray->Option R}(a:agH c k=some r):∃s,c=.v (.string s)/\k s=some r:=by
 unfold agH at a;split at a
 ·exact⟨_,rfl,a⟩
 ·cases a
def FK.C4(l:f_ P T){p q:CV}{k:CV->Option R}(E:jL t x p)(F:jL t y q)(e:(bB (T t1).sg (tT q λi=>agH p λs=>oB (s.data.toList[i]?) λb=>kN b.toNat λm=>k (.v (.int .u8 (Int.ofNat m)))) none)=some r):
 ∃c,QK P ⟨d,.index t1 x y,ty,pos,af,gd⟩ t c/\k c=some r:=by
 obtain⟨v,e⟩:=bd e;have D:=l.sg _ v;obtain⟨G,i,rfl,e⟩:=lJ e;obtain⟨s,rfl,e⟩:=agI e;obtain⟨b,o,e⟩:=bu e;rw[fm]at e;refine⟨_,λρ a w f=>⟨_,?_,.v⟩,e⟩;have g:=(E ρ a f).bE;have j:=(F ρ a f).bE;have B:s[i]? =some b:=by
  obtain⟨A,u⟩:=aqh.1 o;have C:i<s.size:=by simpa using A
  rw[getElem?_pos s i C];exact aqr some u
 simp[execOp,Instr.index,g,j,asIntOf,aqF D,B]
def tuK(c:CV){R:Type}(k:List CV->Option R):Option R:=match c with
 |.tu s=>k s
 |_=>none
def aj1{c:CV}{k:List CV->Option R}(a:tuK c k=some r):∃s,c=.tu s/\k s=some r:=by
 unfold tuK at a;split at a
 ·exact⟨_,rfl,a⟩
 ·cases a
def agK(c:CV){R:Type}(k:List CV->Option R):Option R:=match c with
 |.ag s=>k s
 |_=>none
def ad8{c:CV}{k:List CV->Option R}(a:agK c k=some r):∃s,c=.ag s/\k s=some r:=by
 unfold agK at a;split at a
 ·exact⟨_,rfl,a⟩
 ·cases a
def FK.extract{i:Nat}{p:CV}{k:CV->Option R}(q:jL t x p)(b:(tuK p λe=>oB (e[i]?) k)=some r):∃c,QK P ⟨d,.extract x i,ty,pos,af,gd⟩ t c/\k c=some r:=by
 obtain⟨e,rfl,b⟩:=aj1 b;obtain⟨c,g,b⟩:=bu b;refine⟨c,λρ a w m=>?_,b⟩;obtain⟨s,f,j⟩:=(q ρ a m).CB;obtain⟨u,o,l⟩:=j.get g;exact⟨u,by simp[execOp,Instr.extract,f,o],l⟩
def LR.aoV{ρ:Nm}{a:List Value}(h:LR (KR ρ) A a)(o n:Nat)(b:o+n<=A.length):LR (KR ρ) ((A.drop o).take n) ((a.drop o).take n)/\((a.drop o).take n).length=n:=by
 refine⟨(h.drop o).take n,?_⟩;rw[aq0,ar4,h.1];omega
def FK.field(K:f_ P T){f:Nat}{p:CV}{k:CV->Option R}(G:jL t x p)(b:(agK p λg=>oB (T t1).fd[f]? λq=>bB (Nat.ble (Nat.add q.1 q.2.2) g.length) (bB q.2.1 (k (.ag ((g.drop q.1).take q.2.2))) (oB (g[q.1]?) k)) none)=some r):
 ∃c,QK P ⟨d,.field t1 x f,ty,pos,af,gd⟩ t c/\k c=some r:=by
 obtain⟨g,rfl,b⟩:=ad8 b;obtain⟨⟨S,U,m⟩,M,b⟩:=bu b;obtain⟨E,b⟩:=bd b;have N:S+m<=g.length:=aqk E;clear E;have e:=K.fd _ _ _ M;unfold YV at e;split at e
 ·rename_i W B
  split at e
  ·rename_i j C
   split at e
   ·rename_i V X I
    simp only[aqg,aqx]at e;obtain⟨rfl,rfl,rfl⟩:=e;obtain⟨Y,i,D,J,o,rfl⟩:=hU I;rcases dt b with⟨l,b⟩|⟨l,b⟩
    ·refine⟨_,λρ a w e=>?_,b⟩
     obtain⟨s,v,A⟩:=(G ρ a e).eS;have F:=A.aoV j.offset i.size N;refine⟨.agg ((s.drop j.offset).take i.size).toArray,?_,.ag _ F.1.1 F.1.2⟩;simp only at l;rw[l]at o;have H:s.toArray.extract j.offset (j.offset+i.size)=((s.drop j.offset).take i.size).toArray:=by
      simp[au2]
     simp[execOp,Instr.field,aqF B,C,v,asAgg,part,lK w D,<-o,cq w J,H]
    ·obtain⟨c,L,b⟩:=bu b
     refine⟨c,λρ a w e=>?_,b⟩;obtain⟨s,v,A⟩:=(G ρ a e).eS;obtain⟨u,Q,O⟩:=A.get L;refine⟨u,?_,O⟩;simp only at l;rw[l]at o;simp[execOp,Instr.field,aqF B,C,v,asAgg,part,lK w D,<-o,Q]
   ·cases e
  ·cases e
 ·cases e
def FK.pick{g i j:CV}{k:CV->Option R}(l:jL t z g)(m:jL t x i)(o:jL t y j)(e:(asB g λb=>bB b (k i) (k j))=some r):∃c,QK P ⟨d,.pick z x y,ty,pos,af,gd⟩ t c/\k c=some r:=by
 obtain⟨b,rfl,e⟩:=Q4 e;rcases dt e with⟨rfl,e⟩|⟨rfl,e⟩
 ·exact⟨_,λρ a w f=>⟨_,by simp[execOp,(l ρ a f).bE,asBool],m ρ a f⟩,e⟩
 ·exact⟨_,λρ a w f=>⟨_,by simp[execOp,(l ρ a f).bE,asBool],o ρ a f⟩,e⟩
def nnK:CV->Bool
 |.pt .. =>true
 |.gl .. =>true
 |.cl (.func _) _ _=>true
 |.v (.func (.func _) _ _)=>true
 |_=>false
def FK.nilCheck{c:CV}(l:jL t x c)(b:nnK c=true):QK P ⟨d,.nilCheck x,ty,pos,af,gd⟩ t c:=λρ a w k=>by
 have i:=l ρ a k;refine⟨a.eval x,?_,i⟩;generalize g:a.eval x=u at i;cases i with
 |pt=>simp[execOp,g]
 |gl=>simp[execOp,g]
 | @cl j q p s A=>
  cases j with
  |func f=>simp[execOp,g]
  |_=>simp[nnK]at b
 | @v u=>
  unfold nnK at b;split at b
  ·rename_i e;cases e
  ·rename_i e;cases e
  ·rename_i e;cases e
  ·rename_i f m o e;cases e;simp[execOp,g]
  ·cases b
 |_=>simp[nnK]at b
