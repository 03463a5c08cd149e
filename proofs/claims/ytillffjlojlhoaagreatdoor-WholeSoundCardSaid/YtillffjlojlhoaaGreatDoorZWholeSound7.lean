/- part 7 -/
import Derived.Test.YtillffjlojlhoaaGreatDoorZWholeSound6
set_option linter.all false
noncomputable section
open Go Go.RowKit
open IntKind (wrap)
set_option maxRecDepth 100000
open List (replicate)
namespace Go.Proofs.YtillffjlojlhoaaGreatDoor.Sp
abbrev Tk:=Int×Int×Int×Int
def jm(a:Do Tk)(L:aX)(i:Nat):In:= !(decide ((i:Int)∈L)) && (match a[i]? with
 |some t=>decide (t.2.2.2=0)
 |none=>false)
def Aj(a:Do Tk)(L:aX)(j:Int)(i:Nat):In:=(match a[i]? with
 |some t=>decide (t.2.2.1=j)
 |none=>false) && !(jm a L i)
def lD(a:Do Tk)(L:aX)(j:Int):Nat:=(List.range a.length).countP (Aj a L j)
structure Tree(n:Nat)(ts:List Tk)(L:aX)(p:Int):Prop where
 ne:0<ts.length
 sh:∀(i:Nat) t,ts[i]? =some t->0<=t.1/\t.1<t.2.1/\t.2.1<=(n:Int)/\-1<=t.2.2.1/\t.2.2.1<(i:Int)/\(0<i->0<=t.2.2.1)/\0<=t.2.2.2/\t.2.2.2<=2
 nd:L.Nodup
 lv:∀x∈L,∃(i:Nat) (t:Tk),x=(i:Int)/\ts[i]? =some t/\t.2.2.2=0
 ct:∀(j:Nat) t,ts[j]? =some t->t.2.2.2=(lD ts L (j:Int):Int)+(if(j:Int)=p then 1 else 0)
def xa{p q:Nat->In}{i:Nat}(a:p i=true)(b:q i=false)(h:∀k,k≠i->p k=q k):∀n,i<n->(List.range n).countP p=(List.range n).countP q+1
 |0,d=>by omega
 |n+1,d=>by
  rw[azc,ayP,ayP];by_cases c:i=n
  .subst c
   have e:(List.range i).countP p=(List.range i).countP q:=List.countP_congr λk f=>by
    rw[h k (by have:=awE.1 f;omega)]
   simp[e,a,b]
  .have:=xa a b h n bv
   rw[this];simp only[aAy,h n (λe=>c e.symm)];omega
def mI{p q:Nat->In}{n:Nat}(h:∀k,k<n->p k=q k):(List.range n).countP p=(List.range n).countP q:=List.countP_congr λk a=>by rw[h k (awE.1 a)]
def l6{a:Do Tk}{L:aX}{i:Nat}{t:Tk}(h:a[i]? =some t):jm a L i=(!(decide ((i:Int)∈L)) && decide (t.2.2.2=0)):=by unfold jm;rw[h]
def gz{a:Do Tk}{L:aX}{j:Int}{i:Nat}{t:Tk}(h:a[i]? =some t):Aj a L j i=(decide (t.2.2.1=j) && !(jm a L i)):=by unfold Aj;rw[h]
def cS{α:Type}{l:Do α}{i:Nat}{x:α}(h:l[i]? =some x):i<l.length:=(av7.1 h).1
def Tree.aiC{n:Nat}{a:Do Tk}{L:aX}{p:Int}(h:Tree n a L p):∀(k i:Nat),i<=k->i<a.length->jm a L i=false->jm a L 0=false
 |0,i,o,c,b=>by
  obtain rfl:i=0:=bv
  exact b
 |k+1,i,o,c,b=>by
  by_cases g:i=0
  .subst g;exact b
  obtain⟨t,e⟩:=get_at c;obtain⟨_,_,_,q,r,d,_,_⟩:=h.sh i t e;have d:=d bv;obtain⟨j,m⟩:∃j:Nat,t.2.2.1=(j:Int):=⟨t.2.2.1.toNat,bv⟩;have v:j<i:=bv
  obtain⟨u,f⟩:=get_at (xs:=a) (i:=j) bv;have l:=h.ct j u f;have w:0<lD a L (j:Int):=by
   unfold lD;rw[aAz];exact⟨i,awE.2 c,by rw[gz e,m,b];simp⟩
  refine Tree.aiC h k j bv bv ?_;rw[l6 f];have:¬u.2.2.2=0:=by split at l<;>omega
  simp[this]
def Tree.below{n:Nat}{a:Do Tk}{L:aX}(h:Tree n a L (-1)):∀(k i:Nat),a.length<=i+k->i<a.length->jm a L i=false->L≠[]
 |0,i,q,j,c=>by omega
 |k+1,i,q,j,c=>by
  obtain⟨t,l⟩:=get_at j;rw[l6 l]at c;by_cases f:(i:Int)∈L
  .intro e;rw[e]at f;cases f
  .have v:¬t.2.2.2=0:=by simpa[f]using c
   have p:=h.ct i t l;rw[av2 bv]at p;have g:0<lD a L (i:Int):=bv
   unfold lD at g;rw[aAz]at g;obtain⟨o,b,d⟩:=g;have b:=awE.1 b;obtain⟨u,m⟩:=get_at b;rw[gz m]at d;simp only[av4,awJ,axi]at d;obtain⟨_,_,_,_,r,_⟩:=h.sh o u m;exact Tree.below h k o bv b d.2
def Tree.over{n:Nat}{a:Do Tk}{L:aX}(h:Tree n a L (-1)):jm a L 0=true↔L=[]:=by
 constructor
 .intro b
  cases c:L with
  |nil=>rfl
  |cons x l=>
   obtain⟨i,t,rfl,d,g⟩:=h.lv x (by rw[c];simp);have f:jm a L i=false:=by rw[l6 d];simp[c]
   have:=h.aiC i i (av5 _) (cS d) f;rw[this]at b;cases b
 .intro e
  cases b:jm a L 0 with
  |true=>rfl
  |false=>exact absurd e (h.below a.length 0 bv h.ne b)
def Wr{L M:aX}(a:L.Perm M)(h:L.Nodup):M.Nodup:=a.nodup_iff.1 h
def adB{a:Do Tk}{L M:aX}(b:L.Perm M)(i:Nat):jm a L i=jm a M i:=by
 unfold jm;rw[axL.2 b.mem_iff]
def Tree.perm{n:Nat}{a:Do Tk}{L M:aX}{p:Int}(h:Tree n a L p)(b:L.Perm M):Tree n a M p:=
 ⟨h.ne,h.sh,Wr b h.nd,λx d=>h.lv x (b.mem_iff.2 d),λj t c=>by
  rw[h.ct j t c];have:lD a L (j:Int)=lD a M (j:Int):=mI λk e=>by
   unfold Aj;rw[adB b]
  rw[this]⟩
def Tree.take{n:Nat}{a:Do Tk}{i:Nat}{L:aX}{t:Tk}(h:Tree n a ((i:Int)::L) (-1))(b:a[i]? =some t):Tree n a L t.2.2.1/\(t.2.2.1= -1->jm a L 0=true):=by
 have o:=axc.1 h.nd;have g:t.2.2.2=0:=by
  obtain⟨k,u,e,d,g⟩:=h.lv (i:Int) d5;obtain rfl:i=k:=bv
  rw[b]at d;cases d;exact g
 have l:jm a L i=true:=by rw[l6 b];simp[o.1,g]
 have v:jm a ((i:Int)::L) i=false:=by rw[l6 b];simp
 have p:∀k,k≠i->jm a ((i:Int)::L) k=jm a L k:=λk f=>by
  unfold jm;have:¬(k:Int)=(i:Int):=bv
  simp[this]
 have w:=cS b;refine⟨⟨h.ne,h.sh,o.2,λx y=>h.lv x (by simp[y]),λj u d=>?_⟩,λe=>?_⟩
 .rw[h.ct j u d,av2 bv]
  by_cases c:(j:Int)=t.2.2.1
  .rw[av3 c]
   have:lD a ((i:Int)::L) (j:Int)=lD a L (j:Int)+1:=xa (i:=i) (by rw[gz b,v];simp[c]) (by rw[gz b,l];simp) (λk f=>by unfold Aj;rw[p k f]) _ w;omega
  .rw[av2 c]
   have:lD a ((i:Int)::L) (j:Int)=lD a L (j:Int):=mI λk f=>by
    by_cases m:k=i
    .subst m
     rw[gz b,gz b];have:¬t.2.2.1=(j:Int):=λe=>c e.symm;simp[this]
    .unfold Aj;rw[p k m]
   rw[this]
 .obtain⟨_,_,_,_,_,r,_⟩:=h.sh i t b
  have:i=0:=by
   by_cases q:i=0
   .exact q
   .have:=r bv;omega
  subst this;exact l
def less(a:Do Tk)(j:Nat)(t:Tk):Do Tk:=a.set j (t.1,t.2.1,t.2.2.1,t.2.2.2 - 1)
def lh{a:Do Tk}{j:Nat}{t:Tk}(b:a[j]? =some t)(k:Nat):(less a j t)[k]? =if k=j then some (t.1,t.2.1,t.2.2.1,t.2.2.2 - 1)else a[k]? :=by
 unfold less;rw[aw0];by_cases h:k=j
 .subst h;simp[cS b]
 .rw[av2 (λe=>h e.symm),av2 h]
def lj(a:Do Tk)(j:Nat)(t:Tk):(less a j t).length=a.length:=by simp[less]
def Tree.less{n:Nat}{a:Do Tk}{L:aX}{j:Nat}{t:Tk}(h:Tree n a L (j:Int))(c:a[j]? =some t):1<=t.2.2.2/\¬(j:Int)∈L/\
 (t.2.2.2 - 1≠0->Tree n (less a j t) L (-1)/\jm (less a j t) L 0=false)/\(t.2.2.2 - 1=0->Tree n (less a j t) L t.2.2.1/\(t.2.2.1= -1->jm (less a j t) L 0=true)):=by
 have P:=h.ct j t c;rw[av3 rfl]at P;have O:1<=t.2.2.2:=bv
 have v:¬(j:Int)∈L:=λR=>by
  obtain⟨k,u,e,b,H⟩:=h.lv _ R;obtain rfl:j=k:=bv
  rw[c]at b;cases b;omega
 have E:=cS c;have F:=h.sh j t c;have D:jm a L j=false:=by
  have U:¬t.2.2.2=0:=bv
  rw[l6 c];simp[U]
 have o:(Go.Proofs.YtillffjlojlhoaaGreatDoor.Sp.less a j t)[j]? =some (t.1,t.2.1,t.2.2.1,t.2.2.2 - 1):=by rw[lh c,av3 rfl]
 have S:∀k,k≠j->jm (Go.Proofs.YtillffjlojlhoaaGreatDoor.Sp.less a j t) L k=jm a L k:=λk f=>by
  unfold jm;rw[lh c,av2 f]
 have w:∀k,k≠j->∀m:Int,Aj (Go.Proofs.YtillffjlojlhoaaGreatDoor.Sp.less a j t) L m k=Aj a L m k:=λk f m=>by
  unfold Aj;rw[lh c,av2 f,S k f]
 have K:∀(i:Nat) u,(Go.Proofs.YtillffjlojlhoaaGreatDoor.Sp.less a j t)[i]? =some u->0<=u.1/\u.1<u.2.1/\u.2.1<=(n:Int)/\-1<=u.2.2.1/\u.2.2.1<(i:Int)/\(0<i->0<=u.2.2.1)/\0<=u.2.2.2/\u.2.2.2<=2:=λi u b=>by
  rw[lh c]at b;by_cases d:i=j
  .subst d
   rw[av3 rfl]at b;cases b;obtain⟨y,z,A,B,C,q,M,N⟩:=F;exact⟨y,z,A,B,C,q,by show 0<=t.2.2.2 - 1;omega,by show t.2.2.2 - 1<=2;omega⟩
  .rw[av2 d]at b
   exact h.sh i u b
 have J:∀x∈L,∃(i:Nat) (u:Tk),x=(i:Int)/\(Go.Proofs.YtillffjlojlhoaaGreatDoor.Sp.less a j t)[i]? =some u/\u.2.2.2=0:=λx I=>by
  obtain⟨i,u,rfl,b,H⟩:=h.lv x I;have Q:¬i=j:=λe=>v (e▸I);exact⟨i,u,rfl,by rw[lh c,av2 Q];exact b,H⟩
 refine⟨O,v,λg=>?_,λg=>?_⟩
 .have l:jm (Go.Proofs.YtillffjlojlhoaaGreatDoor.Sp.less a j t) L j=false:=by rw[l6 o];simp[g]
  have r:∀m:Int,lD (Go.Proofs.YtillffjlojlhoaaGreatDoor.Sp.less a j t) L m=lD a L m:=λm=>by
   unfold lD;rw[lj];refine mI λk f=>?_;by_cases p:k=j
   .subst p
    rw[gz o,gz c,D,l]
   .exact w k p m
  have G:Tree n (Go.Proofs.YtillffjlojlhoaaGreatDoor.Sp.less a j t) L (-1):=⟨by rw[lj];exact h.ne,K,h.nd,J,λi u b=>by
   rw[r,av2 bv];rw[lh c]at b;by_cases d:i=j
   .subst d
    rw[av3 rfl]at b;cases b;show t.2.2.2 - 1=_;omega
   .rw[av2 d]at b
    have:=h.ct i u b;rw[av2 bv]at this;exact this⟩
  exact⟨G,G.aiC j j (av5 _) (by rw[lj];exact E) l⟩
 .have l:jm (Go.Proofs.YtillffjlojlhoaaGreatDoor.Sp.less a j t) L j=true:=by rw[l6 o];simp[g,v]
  obtain⟨y,z,A,B,C,q,M,N⟩:=F;refine⟨⟨by rw[lj];exact h.ne,K,h.nd,J,λi u b=>?_⟩,λe=>?_⟩
  .have r:(lD a L (i:Int):Int)=(lD (Go.Proofs.YtillffjlojlhoaaGreatDoor.Sp.less a j t) L (i:Int):Int)+(if(i:Int)=t.2.2.1 then 1 else 0):=by
    by_cases d:(i:Int)=t.2.2.1
    .rw[av3 d]
     have:lD a L (i:Int)=lD (Go.Proofs.YtillffjlojlhoaaGreatDoor.Sp.less a j t) L (i:Int)+1:=by
      unfold lD;rw[lj];exact xa (i:=j) (by rw[gz c,D];simp[d]) (by rw[gz o,l];simp) (λk f=>(w k f _).symm) _ E
     omega
    .rw[av2 d]
     have:lD a L (i:Int)=lD (Go.Proofs.YtillffjlojlhoaaGreatDoor.Sp.less a j t) L (i:Int):=by
      unfold lD;rw[lj];refine mI λk f=>?_;by_cases p:k=j
      .subst p
       rw[gz o,gz c];have:¬t.2.2.1=(i:Int):=λe=>d e.symm;simp[this]
      .exact(w k p _).symm
     omega
   rw[lh c]at b;by_cases d:i=j
   .subst d
    rw[av3 rfl]at b;cases b;rw[av2 bv]at r⊢;show t.2.2.2 - 1=_;omega
   .rw[av2 d]at b
    have:=h.ct i u b;rw[av2 bv]at this;omega
  .have:j=0:=by
    by_cases g:j=0
    .exact g
    .have:=q bv;omega
   subst this;exact l
def part(a:Do Tk)(i:Nat)(t:Tk)(mid:Int):Do Tk:=(a++[(t.1,mid,(i:Int),0),(mid,t.2.1,(i:Int),0)]).set i (t.1,t.2.1,t.2.2.1,2)
def Dj(a:Do Tk)(i:Nat)(t:Tk)(b:Int):(part a i t b).length=a.length+2:=by simp[part]
def Dl{a:Do Tk}{i:Nat}{t:Tk}{mid:Int}(j:a[i]? =some t)(k:Nat):(part a i t mid)[k]? =if k=i then some (t.1,t.2.1,t.2.2.1,2)else if k<a.length then a[k]? else if k=a.length then some (t.1,mid,(i:Int),0)else if k=a.length+1 then some (mid,t.2.1,(i:Int),0)else none:=by
 have l:=cS j;unfold part;rw[aw0];by_cases h:k=i
 .subst h;simp;omega
 .rw[av2 (λe=>h e.symm),av2 h]
  by_cases b:k<a.length
  .rw[av3 b,awY b]
  .rw[av2 b,axl bv]
   by_cases c:k=a.length
   .subst c;simp
   .rw[av2 c]
    by_cases f:k=a.length+1
    .subst f;simp
    .rw[av2 f]
     obtain⟨d,g⟩:∃d,k - a.length=d+2:=⟨k - a.length - 2,bv⟩;rw[g];rfl
def Tree.part{n:Nat}{c:Do Tk}{i:Nat}{L:aX}{t:Tk}{mid:Int}(h:Tree n c ((i:Int)::L) (-1))(j:c[i]? =some t)(U:t.1<mid)(V:mid<t.2.1):Tree n (part c i t mid) ((c.length:Int)::((c.length+1:Nat):Int)::L) (-1):=by
 have z:=axc.1 h.nd;have X:=cS j;have q:t.2.2.2=0:=by
  obtain⟨k,u,e,b,q⟩:=h.lv (i:Int) d5;obtain rfl:i=k:=bv
  rw[j]at b;cases b;exact q
 obtain⟨E,F,G,H,I,J,R,S⟩:=h.sh i t j;have w:∀x∈L,x<(c.length:Int):=λx f=>by
  obtain⟨k,u,rfl,b,_⟩:=h.lv x (by simp[f]);have:=cS b;omega
 have bc:=Dl (mid:=mid) j;obtain⟨M,l⟩:∃M:aX,M=(c.length:Int)::((c.length+1:Nat):Int)::L:=⟨_,rfl⟩;rw[<-l];have y:∀k,k<c.length->jm (Go.Proofs.YtillffjlojlhoaaGreatDoor.Sp.part c i t mid) M k=jm c ((i:Int)::L) k:=λk d=>by
  by_cases g:k=i
  .subst g
   rw[l6 (by rw[bc,av3 rfl]),l6 j];simp
  .unfold jm
   rw[bc,av2 g,av3 d,l];have B:¬(k:Int)=(i:Int):=bv
   have C:¬(k:Int)=(c.length:Int):=bv
   have D:¬(k:Int)=(c.length:Int)+1:=bv
   simp[B,C,D]
 have A:∀k,k=c.length\/k=c.length+1->jm (Go.Proofs.YtillffjlojlhoaaGreatDoor.Sp.part c i t mid) M k=false:=λk d=>by
  unfold jm;have:(k:Int)∈M:=by rw[l];rcases d with rfl|rfl<;>simp
  simp[this]
 have N:∀k,k<c.length->∀m:Int,Aj (Go.Proofs.YtillffjlojlhoaaGreatDoor.Sp.part c i t mid) M m k=Aj c ((i:Int)::L) m k:=λk d m=>by
  by_cases g:k=i
  .subst g
   rw[gz (by rw[bc,av3 rfl]),gz j,y k d]
  .unfold Aj
   rw[bc,av2 g,av3 d,y k d]
 have K:∀m:Int,lD (Go.Proofs.YtillffjlojlhoaaGreatDoor.Sp.part c i t mid) M m=lD c ((i:Int)::L) m+(if m=(i:Int)then 2 else 0):=λm=>by
  unfold lD;rw[Dj,azc,azc,ayP,ayP,mI (n:=c.length) (λk d=>N k d m)];have P:Aj (Go.Proofs.YtillffjlojlhoaaGreatDoor.Sp.part c i t mid) M m c.length=decide ((i:Int)=m):=by
   rw[gz (t:=(t.1,mid,(i:Int),0)) (by rw[bc,av2 bv,av2 bv,av3 rfl]),A _ (.inl rfl)];simp
  have Q:Aj (Go.Proofs.YtillffjlojlhoaaGreatDoor.Sp.part c i t mid) M m (c.length+1)=decide ((i:Int)=m):=by
   rw[gz (t:=(mid,t.2.1,(i:Int),0)) (by rw[bc,av2 bv,av2 bv,av2 bv,av3 rfl]),A _ (.inr rfl)];simp
  simp only[aAy,P,Q];by_cases r:m=(i:Int)
  .subst r;simp
  .have:¬(i:Int)=m:=λe=>r e.symm
   simp[r,this]
 refine⟨by rw[Dj];omega,λk u b=>?_,?_,λx f=>?_,λk u b=>?_⟩
 .rw[bc]at b
  by_cases g:k=i
  .subst g
   rw[av3 rfl]at b;cases b;exact⟨E,F,G,H,I,J,by show(0:Int)<=2;omega,by show(2:Int)<=2;omega⟩
  .rw[av2 g]at b
   by_cases d:k<c.length
   .rw[av3 d]at b
    exact h.sh k u b
   .rw[av2 d]at b
    by_cases o:k=c.length
    .rw[av3 o]at b
     cases b;simp only;omega
    .rw[av2 o]at b
     by_cases p:k=c.length+1
     .rw[av3 p]at b
      cases b;simp only;omega
     .rw[av2 p]at b;cases b
 .rw[l]
  refine axc.2 ⟨λf=>?_,axc.2 ⟨λf=>?_,z.2⟩⟩
  .rcases awr.1 f with e|f
   .omega
   .have:=w _ f;omega
  .have:=w _ f;omega
 .rw[l]at f
  rcases awr.1 f with rfl|f
  .exact⟨c.length,_,rfl,by rw[bc,av2 bv,av2 bv,av3 rfl],rfl⟩
  .rcases awr.1 f with rfl|f
   .exact⟨c.length+1,_,rfl,by rw[bc,av2 bv,av2 bv,av2 bv,av3 rfl],rfl⟩
   .obtain⟨k,u,rfl,b,q⟩:=h.lv x (by simp[f])
    have g:¬k=i:=λe=>z.1 (e▸f);exact⟨k,u,rfl,by rw[bc,av2 g,av3 (cS b)];exact b,q⟩
 .rw[K,av2 (show¬(k:Int)= -1 by omega)]
  rw[bc]at b;have O:∀m:Nat,c.length<=m->lD c ((i:Int)::L) (m:Int)=0:=λm r=>by
   unfold lD;rw[List.countP_eq_zero];intro a v;have v:=awE.1 v;obtain⟨u,b⟩:=get_at v;obtain⟨_,_,_,_,W,_⟩:=h.sh a u b;rw[gz b];have:¬u.2.2.1=(m:Int):=bv
   simp[this]
  by_cases g:k=i
  .subst g
   rw[av3 rfl]at b;cases b;have:=h.ct k t j;rw[av2 bv,q]at this;rw[av3 rfl];show(2:Int)=_;omega
  .rw[av2 g]at b
   rw[av2 (show¬(k:Int)=(i:Int) by omega)];by_cases d:k<c.length
   .rw[av3 d]at b
    have:=h.ct k u b;rw[av2 bv]at this;rw[this];omega
   .rw[O k bv]
    rw[av2 d]at b;by_cases o:k=c.length
    .rw[av3 o]at b
     cases b;rfl
    .rw[av2 o]at b
     by_cases p:k=c.length+1
     .rw[av3 p]at b
      cases b;rfl
     .rw[av2 p]at b;cases b
def tn(g u:Nat):Nat:=if h:u<=g\/u<=1 then 1 else 1+tn g (u/2)+tn g (u - u/2)
 termination_by u
 decreasing_by all_goals omega
def T6{g u:Nat}(h:u<=g):tn g u=1:=by rw[tn,dif_pos (.inl h)]
def T7{g u:Nat}(a:1<=g)(h:g<u):tn g u=1+tn g (u/2)+tn g (u - u/2):=by rw[tn,dif_neg bv]
def api(g u:Nat):1<=tn g u:=by
 rw[tn];split<;>omega
def T8{g:Nat}(a:1<=g):∀(k u:Nat),u<=k->1<=u->tn g u<=2*u - 1
 |0,u,c,h=>by omega
 |k+1,u,c,h=>by
  by_cases b:u<=g
  .rw[T6 b];omega
  .rw[T7 a bv]
   have d:=T8 a k (u/2) bv bv;have e:=T8 a k (u - u/2) bv bv;omega
def DO(a b:Int):aX:=(List.range (b - a).toNat).map λ(k:Nat)=>a+(k:Int)
def O0{a b x:Int}:x∈DO a b↔a<=x/\x<b:=by
 unfold DO;rw[awe];constructor
 .rintro⟨k,c,rfl⟩
  have:=awE.1 c;omega
 .rintro⟨d,e⟩
  exact⟨(x - a).toNat,awE.2 bv,bv⟩
def aa5{a m b:Int}(c:a<=m)(d:m<=b):DO a m++DO m b=DO a b:=by
 unfold DO;obtain⟨p,rfl⟩:∃p:Nat,m=a+(p:Int):=⟨(m - a).toNat,bv⟩;obtain⟨q,rfl⟩:∃q:Nat,b=a+(p:Int)+(q:Int):=⟨(b - (a+p)).toNat,bv⟩;rw[show(a+(p:Int) - a).toNat=p by omega,show(a+(p:Int)+(q:Int) - (a+(p:Int))).toNat=q by omega,show(a+(p:Int)+(q:Int) - a).toNat=p+q by omega,List.range_add,awQ,axe];refine awh _ (aw3 λk _=>?_);simp only[Function.comp];omega
def MO(a:Do Tk)(x:Int):aX:=match a[x.toNat]? with
 |some t=>DO t.1 t.2.1
 |none=>[]
def szT(g:Nat)(a:Do Tk)(x:Int):Nat:=match a[x.toNat]? with
 |some t=>tn g (t.2.1 - t.1).toNat
 |none=>0
def left(g:Nat)(a:Do Tk)(L:aX):Nat:=(L.map (szT g a)).sum
def oL{ts:Do Tk}{i:Nat}{t:Tk}(h:ts[i]? =some t):MO ts (i:Int)=DO t.1 t.2.1:=by
 unfold MO;rw[av9,h]
def xb{g:Nat}{ts:Do Tk}{i:Nat}{t:Tk}(h:ts[i]? =some t):szT g ts (i:Int)=tn g (t.2.1 - t.1).toNat:=by
 unfold szT;rw[av9,h]
def lk(b c:Do Tk):Prop:=c.length=b.length/\∀(k:Nat) (t:Tk),b[k]? =some t->∃a,c[k]? =some a/\a.1=t.1/\a.2.1=t.2.1
def lk.refl(a:Do Tk):lk a a:=⟨rfl,λk t h=>⟨t,h,rfl,rfl⟩⟩
def lk.trans{a b c:Do Tk}(h:lk a b)(k:lk b c):lk a c:=⟨k.1.trans h.1,λi t j=>by
 obtain⟨u,l,d,e⟩:=h.2 i t j;obtain⟨v,m,f,g⟩:=k.2 i u l;exact⟨v,m,f.trans d,g.trans e⟩⟩
def lk.less{a:Do Tk}{j:Nat}{t:Tk}(c:a[j]? =some t):lk a (less a j t):=⟨lj a j t,λk u b=>by
 rw[lh c];by_cases h:k=j
 .subst h
  rw[c]at b;cases b;exact⟨_,av3 rfl,rfl,rfl⟩
 .exact⟨u,by rw[av2 h];exact b,rfl,rfl⟩⟩
def lk.un{a b:Do Tk}(h:lk a b)(x:Int):MO b x=MO a x:=by
 unfold MO;cases c:a[x.toNat]? with
 |some t=>obtain⟨g,d,e,f⟩:=h.2 _ t c;rw[d];simp only[e,f]
 |none=>
  have:b[x.toNat]? =none:=awO (by rw[h.1];exact aA7.1 c);rw[this]
def lk.sz{g:Nat}{a b:Do Tk}(h:lk a b)(x:Int):szT g b x=szT g a x:=by
 unfold szT;cases c:a[x.toNat]? with
 |some t=>obtain⟨i,d,e,f⟩:=h.2 _ t c;rw[d];simp only[e,f]
 |none=>
  have:b[x.toNat]? =none:=awO (by rw[h.1];exact aA7.1 c);rw[this]
def nu(b c:Do Tk):Prop:=∀(k:Nat) (t:Tk),b[k]? =some t->∃a,c[k]? =some a/\a.1=t.1/\a.2.1=t.2.1
def nu.refl(a:Do Tk):nu a a:=λk t h=>⟨t,h,rfl,rfl⟩
def nu.part{b:Do Tk}{i:Nat}{t:Tk}{mid:Int}(c:b[i]? =some t):nu b (part b i t mid):=λk u a=>by
 rw[Dl c];by_cases h:k=i
 .subst h
  rw[c]at a;cases a;exact⟨_,av3 rfl,rfl,rfl⟩
 .exact⟨u,by rw[av2 h,av3 (cS a)];exact a,rfl,rfl⟩
def nu.un{a c:Do Tk}(h:nu a c){i:Nat}(g:i<a.length):MO c (i:Int)=MO a (i:Int):=by
 obtain⟨t,b⟩:=get_at g;obtain⟨j,d,e,f⟩:=h i t b;rw[oL b,oL d,e,f]
def nu.sz{g:Nat}{a c:Do Tk}(h:nu a c){i:Nat}(j:i<a.length):szT g c (i:Int)=szT g a (i:Int):=by
 obtain⟨t,b⟩:=get_at j;obtain⟨k,d,e,f⟩:=h i t b;rw[xb b,xb d,e,f]
def xc(n:Nat):aX:=(List.range n).map λ(k:Nat)=>(k:Int)
structure DP(n g:Nat)(ts:List Tk)(dn:bw)(L us:aX):Prop where
 tr:Tree n ts L (-1)
 n1:1<=n
 n2:n<=60
 g1:1<=g
 g2:g<=100
 dl:dn.length=n
 pu:(us++L.flatMap (MO ts)).Perm (xc n)
 dd:∀k:Nat,k<n->(dn[k]? =some true↔(k:Int)∈us)
 nb:ts.length+left g ts L=tn g n+L.length
def EL{g:Nat}{a:Do Tk}{L M:aX}(b:L.Perm M):left g a L=left g a M:=(b.map _).sum_nat
def DP.perm{n g:Nat}{d:Do Tk}{c:bw}{L M b:aX}(h:DP n g d c L b)(a:L.Perm M):DP n g d c M b:=
 ⟨h.tr.perm a,h.n1,h.n2,h.g1,h.g2,h.dl,((a.flatMap_right _).append_left b).symm.trans h.pu,h.dd,by rw[<-EL a,<-a.length_eq];exact h.nb⟩
def alC{n g:Nat}{ts:Do Tk}{L:aX}(h:∀x∈L,∃(i:Nat) (t:Tk),x=(i:Int)/\ts[i]? =some t):L.length<=left g ts L:=by
 induction L with
 |nil=>simp[left]
 |cons x L c=>
  obtain⟨i,t,rfl,a⟩:=h x d5;have:=c λy b=>h y (by simp[b]);have d:=api g (t.2.1 - t.1).toNat;unfold left at this⊢;rw[awo,ayg,xb a,aws];omega
def DP.len{n g:Nat}{a:Do Tk}{b:bw}{L j:aX}(h:DP n g a b L j):a.length<=tn g n/\L.length<=left g a L/\a.length<=119:=by
 have c:=alC (n:=n) (g:=g) (ts:=a) (L:=L) λx f=>by
  obtain⟨i,t,e,d,_⟩:=h.tr.lv x f;exact⟨i,t,e,d⟩
 have k:=h.nb;have l:=T8 h.g1 n n (av5 _) h.n1;have:=h.n2;refine⟨bv,c,bv⟩
def DP.first{n g:Nat}(c:1<=n)(d:n<=60)(e:1<=g)(f:g<=100):DP n g [((0:Int),(n:Int),(-1:Int),(0:Int))] (replicate n false) [0] []:=by
 have bc:∀(i:Nat) t,[((0:Int),(n:Int),(-1:Int),(0:Int))][i]? =some t->i=0/\t=((0:Int),(n:Int),(-1:Int),(0:Int)):=λi t h=>by
  cases i with
  |zero=>simp at h;exact⟨rfl,h.symm⟩
  |succ i=>simp at h
 refine⟨⟨d5,λi t a=>?_,d5,λx b=>?_,λj t a=>?_⟩,c,d,e,f,d5,?_,λk l=>?_,?_⟩
 .obtain⟨rfl,rfl⟩:=bc i t a
  simp only;omega
 .simp at b
  subst b;exact⟨0,_,rfl,rfl,rfl⟩
 .obtain⟨rfl,rfl⟩:=bc j t a
  simp[lD,Aj]
 .simp only[awL,awF,azJ,awN]
  have:MO [((0:Int),(n:Int),(-1:Int),(0:Int))] 0=xc n:=by
   have:=oL (ts:=[((0:Int),(n:Int),(-1:Int),(0:Int))]) (i:=0) rfl;rw[show((0:Nat):Int)=0 from rfl]at this;rw[this];simp only[DO,xc];rw[show((n:Int) - 0).toNat=n by omega];exact aw3 λk _=>by omega
  rw[this]
 .simp[ayB,l]
 .have:=xb (g:=g) (ts:=[((0:Int),(n:Int),(-1:Int),(0:Int))]) (i:=0) rfl
  rw[show((0:Nat):Int)=0 from rfl]at this;simp only[left,awo,axd,ayg,List.sum_nil,this,aws,aw4];rw[show((n:Int) - 0).toNat=n by omega];omega
def DP.did{n g:Nat}{a b:Do Tk}{e c:bw}{L o:aX}{i:Nat}{t:Tk}(h:DP n g a e ((i:Int)::L) o)(m:a[i]? =some t)(v:(t.2.1 - t.1).toNat<=g)(d:lk a b)(u:Tree n b L (-1))
 (q:c.length=n) (p:∀k:Nat,k<n->(c[k]? =some true↔e[k]? =some true\/(t.1<=(k:Int)/\(k:Int)<t.2.1))):DP n g b c L (o++DO t.1 t.2.1)/\left g a ((i:Int)::L)=left g b L+1:=by
 have r:left g b L=left g a L:=by
  unfold left;rw[aw3 λx _=>d.sz x]
 have l:left g a ((i:Int)::L)=left g b L+1:=by
  rw[r];unfold left;rw[awo,ayg,xb m,T6 v];omega
 refine⟨⟨u,h.n1,h.n2,h.g1,h.g2,q,?_,λk j=>?_,?_⟩,l⟩
 .have f:=h.pu
  rw[awF,oL m,<-awx]at f;have:L.flatMap (MO b)=L.flatMap (MO a):=by rw[show MO b=MO a from funext λx=>d.un x]
  rw[this];exact f
 .rw[p k j,h.dd k j,awc,O0]
 .have:=h.nb
  rw[l,aws]at this;rw[d.1];omega
def DP.apj{n g:Nat}{a:Do Tk}{l:bw}{L z:aX}{i:Nat}{t:Tk}{b:Int}(h:DP n g a l ((i:Int)::L) z)(c:a[i]? =some t)(j:g<(t.2.1 - t.1).toNat)(C:b=t.1+(((t.2.1 - t.1).toNat/2:Nat):Int)):
 DP n g (part a i t b) l ((a.length:Int)::((a.length+1:Nat):Int)::L) z/\left g a ((i:Int)::L)=left g (part a i t b) ((a.length:Int)::((a.length+1:Nat):Int)::L)+1:=by
 have v:=h.g1;have p:t.1<b:=bv
 have q:b<t.2.1:=bv
 have B:=cS c;have y:=nu.part (mid:=b) c;have r:∀x∈L,∃k:Nat,x=(k:Int)/\k<a.length:=λx d=>by
  obtain⟨k,u,rfl,j,_⟩:=h.tr.lv x (by simp[d]);exact⟨k,rfl,cS j⟩
 have m:(part a i t b)[a.length]? =some (t.1,b,(i:Int),0):=by rw[Dl c,av2 bv,av2 bv,av3 rfl]
 have o:(part a i t b)[a.length+1]? =some (b,t.2.1,(i:Int),0):=by rw[Dl c,av2 bv,av2 bv,av2 bv,av3 rfl]
 have A:L.map (szT g (part a i t b))=L.map (szT g a):=aw3 λx d=>by
  obtain⟨k,rfl,f⟩:=r x d;exact y.sz f
 have w:left g a ((i:Int)::L)=left g (part a i t b) ((a.length:Int)::((a.length+1:Nat):Int)::L)+1:=by
  unfold left;rw[awo,awo,awo,ayg,ayg,ayg,A,xb c,xb m,xb o,T7 v j];simp only;rw[show(b - t.1).toNat=(t.2.1 - t.1).toNat/2 by omega,show(t.2.1 - b).toNat=(t.2.1 - t.1).toNat - (t.2.1 - t.1).toNat/2 by omega];omega
 refine⟨⟨h.tr.part c p q,h.n1,h.n2,v,h.g2,h.dl,?_,h.dd,?_⟩,w⟩
 .have e:=h.pu
  rw[awF,oL c]at e;rw[awF,awF,oL m,oL o,<-awx (DO _ _),aa5 (Int.le_of_lt p) (Int.le_of_lt q)];have:L.flatMap (MO (part a i t b))=L.flatMap (MO a):=by
   rw[azM,azM,aw3 λx d=>?_];obtain⟨k,rfl,f⟩:=r x d;exact y.un f
  rw[this];exact e
 .have e:=h.nb
  rw[w,aws]at e;rw[Dj,aws,aws];omega
structure adC(n g:Nat)(ts:List Tk)(dn:bw):Prop where
 n1:1<=n
 n2:n<=60
 g1:1<=g
 g2:g<=100
 dl:dn.length=n
 t1:0<ts.length
 t2:ts.length<=200
 sh:∀(i:Nat) t,ts[i]? =some t->0<=t.1/\t.1<t.2.1/\t.2.1<=(n:Int)/\-1<=t.2.2.1/\t.2.2.1<(i:Int)/\(0<i->0<=t.2.2.1)/\0<=t.2.2.2/\t.2.2.2<=2
def DP.ok{n g:Nat}{b:Do Tk}{a:bw}{L c:aX}(h:DP n g b a L c):adC n g b a:=
 ⟨h.n1,h.n2,h.g1,h.g2,h.dl,h.tr.ne,by have:=h.len;omega,h.tr.sh⟩
def J2{N:Nat}(e:1<=N){n g:Nat}(a:1<=n)(b:n<=60)(c:1<=g)(d:g<=100):RM N ((n:Int),(g:Int))=some true:=by
 obtain⟨N,rfl⟩:=sC N 1;rw[agF,eK bv,eK bv,eK bv];simp only[av6,awJ];omega
def F8(N:Nat){n g:Nat}{a:Do Tk}{b:bw}(h:adC n g a b):∀(k i m:Nat),i+k=a.length->k<m->
 BU N m (a,((a.length:Nat):Int),(i:Int),a,(g:Int),b)=some (.inl ())
 |k,i,0,c,d=>by omega
 |0,i,m+1,c,d=>by rw[I0,dF bv]
 |k+1,i,m+1,c,d=>by
  obtain⟨t,e⟩:=get_at (xs:=a) (i:=i) bv;obtain⟨f,j,l,o,p,q,r,u⟩:=h.sh i t e;have:=h.t2;have:=h.dl;rw[I0,eK bv,ba e,ob,dF bv,dF bv,dF bv,dF bv,dF bv,dF bv,dF bv,bW bv];exact F8 N h k (i+1) m bv bv
def x9{N:Nat}(d:Fu+2<=N){n g:Nat}{a:Do Tk}{b:bw}(h:adC n g a b):IZ N (a,(g:Int),b)=some true:=by
 obtain⟨N,rfl⟩:=sC N 1;have:=h.t1;have:=h.t2;have c:=bJ;rw[acM,h.dl,J2 bv h.n1 h.n2 h.g1 h.g2,ob];simp only[awj,av8];rw[dF bv,dF bv];have:=F8 N h a.length 0 N bv bv;rw[show((0:Nat):Int)=0 from rfl]at this;rw[this];rfl
def J3{N:Nat}(c:Fu+3<=N){n g:Nat}{a:Do Tk}{b:bw}(h:adC n g a b){i:Nat}(d:i<a.length):Es N (a,(g:Int),b,(i:Int))=some 0:=by
 obtain⟨N,rfl⟩:=sC N 1;rw[acN,x9 bv h,ob];simp only[awj,av8];rw[dF bv,dF bv]
def J4{N:Nat}(h:1<=N){a b c d:Int}(e:0<=a)(f:a<=b)(g:b<=60):z_ N (a,b,c,d)=some (b - a):=by
 obtain⟨N,rfl⟩:=sC N 1;rw[acO,gw bv bv]
def J5{N:Nat}(j:Fu+4<=N){n g:Nat}{b:Do Tk}{c:bw}(h:adC n g b c){i:Nat}{t:Tk}(a:b[i]? =some t):I1 N (b,(g:Int),c,(i:Int))=some (decide ((g:Int)<t.2.1 - t.1)):=by
 obtain⟨N,rfl⟩:=sC N 1;obtain⟨d,e,f,_⟩:=h.sh i t a;have:=h.n2;rw[acP,J3 bv h (cS a),ob,eK rfl,ba a,ob,J4 bv d bv bv,ob]
def yd{N:Nat}(c:1<=N)(a:Do Tk)(b:a.length<=100000000000):R0 N a=some a:=by
 obtain⟨N,rfl⟩:=sC N 1;rw[agM,cj bv (by simpa using b),awL];cases a with
 |nil=>exact xM.2 ⟨rfl,rfl⟩
 |cons x d=>rfl
def adD{N:Nat}(c:1<=N)(a:bw)(b:a.length<=100000000000):Y7 N a=some a:=by
 obtain⟨N,rfl⟩:=sC N 1;rw[agO,cj bv (by simpa using b),awL];cases a with
 |nil=>exact xM.2 ⟨rfl,rfl⟩
 |cons x d=>rfl
def adE{N:Nat}(c:1<=N)(a:bP)(b:a.length<=100000000000):Y5 N a=some a:=by
 obtain⟨N,rfl⟩:=sC N 1;rw[agJ,cj bv (by simpa using b),awL];cases a with
 |nil=>exact xM.2 ⟨rfl,rfl⟩
 |cons x d=>rfl
def alD{N:Nat}(b:1<=N)(a:aX):Y6 N a=some a:=by
 obtain⟨N,rfl⟩:=sC N 1;rw[agN,ah8,ob,eK rfl]
def Ws(t:Tk):Int:=t.1+(((t.2.1 - t.1).toNat/2:Nat):Int)
def HF{N:Nat}(o:Fu+4<=N){n g:Nat}{a:Do Tk}{c:bw}(h:adC n g a c){i:Nat}{t:Tk}(b:a[i]? =some t)(q:t.2.2.2=0)(p:(g:Int)<t.2.1 - t.1):
 Og N (a,(g:Int),c,(i:Int))=some (((a.length:Nat):Int),((a.length+1:Nat):Int),0,part a i t (Ws t),(g:Int),c):=by
 obtain⟨N,rfl⟩:=sC N 1;obtain⟨e,l,m,_⟩:=h.sh i t b;have:=h.n2;have:=h.t2;obtain⟨u,d⟩:∃u:Nat,t.2.1 - t.1=(u:Int):=⟨(t.2.1 - t.1).toNat,bv⟩;have j:Int.tdiv (t.2.1 - t.1) 2=((u/2:Nat):Int):=by rw[d];exact wP u 2
 have f:t.1+((u/2:Nat):Int)=Ws t:=by unfold Ws;rw[d,av9]
 rw[acS,J3 bv h (cS b),ob,DR rfl,ba b,ob,J4 bv e bv bv,ob,dF bv,dF bv,gw bv bv,dF bv,ob,yd bv a bv,ob,
  j,gw (x:=((u/2:Nat):Int)) bv bv,gw (x:=t.1+((u/2:Nat):Int)) bv bv,f,cj bv d7,ob]
 have k:(a++[(t.1,Ws t,(i:Int),0),(Ws t,t.2.1,(i:Int),0)])[i]? =some t:=by
  rw[awY (cS b)];exact b
 rw[ba k,ob,ob,bW bv,av9];rfl
def aa6{n g:Nat}{ts ts0:Do Tk}{t:Tk}(u:t.2.1<=(n:Int))(B:n<=60)(w p f:Int)(l o:Int):∀(k:Nat) (x:Int) (a:bw),a.length=n->0<=x->x+(k:Int)=t.2.1->
 ∃c:bw,c.length=n/\(∀j:Nat,j<n->(c[j]? =some true↔a[j]? =some true\/(x<=(j:Int)/\(j:Int)<t.2.1)))/\∀N m,k<m->B8 N m (x,w,p,f,t.2.1,l,o,ts,a)=some (w,p,f,t.2.1,l,o,ts,c)
 |0,x,a,d,C,z=>⟨a,d,λj q=>⟨λh=>.inl h,λh=>h.elim id λh=>by omega⟩,λN m A=>by
  obtain⟨m,rfl⟩:∃e,m=e+1:=⟨m - 1,bv⟩;rw[I5,dF bv]⟩
 |k+1,x,a,d,C,z=>by
  obtain⟨y,rfl⟩:=nN x;obtain⟨b,v⟩:=get_at (xs:=a) (i:=y) bv;obtain⟨c,D,E,F⟩:=aa6 (ts:=ts) (ts0:=ts0) (g:=g) u B w p f l o k ((y:Int)+1) (a.set y true) (by simpa using d) bv bv;refine⟨c,D,λj q=>?_,λN m A=>?_⟩
  .rw[E j q,aw0]
   by_cases r:y=j
   .subst r
    rw[av3 rfl,av3 bv];constructor
    .intro _;exact .inr ⟨bv,bv⟩
    .intro _;exact .inl rfl
   .rw[av2 r]
    constructor
    .rintro(h|h)
     .exact .inl h
     .exact .inr ⟨bv,h.2⟩
    .rintro(h|h)
     .exact .inl h
     .exact .inr ⟨bv,h.2⟩
  .obtain⟨m,rfl⟩:∃e,m=e+1:=⟨m - 1,bv⟩
   rw[I5,eK bv,ba v,ob,ob,gw bv bv,av9];exact F N m bv
def F9{n:Nat}{L:aX}:∀(k:Nat) (p:Int) (a:Do Tk),p<(k:Int)->Tree n a L p->-1<=p->p<(a.length:Int)->a.length<=200->(p= -1->jm a L 0=true)->
 ∃(res:In) (d:Do Tk),lk a d/\Tree n d L (-1)/\(res=true↔jm d L 0=true)/\∀N m,k+1<m->Hd N m (p,a)=some (if res=true then .inl d else .inr (false,d))
 |0,p,a,A,h,w,x,r,f=>by
  obtain rfl:p= -1:=bv
  refine⟨true,a,lk.refl a,h,⟨λ_=>f rfl,λ_=>rfl⟩,λN m o=>?_⟩;obtain⟨m,rfl⟩:∃c,m=c+1:=⟨m - 1,bv⟩;rw[xZ,DR rfl,av3 rfl]
 |k+1,p,a,A,h,w,x,r,f=>by
  by_cases B:p= -1
  .subst B
   refine⟨true,a,lk.refl a,h,⟨λ_=>f rfl,λ_=>rfl⟩,λN m o=>?_⟩;obtain⟨m,rfl⟩:∃c,m=c+1:=⟨m - 1,bv⟩;rw[xZ,DR rfl,av3 rfl]
  .obtain⟨j,rfl⟩:=nN p
   obtain⟨t,b⟩:=get_at (xs:=a) (i:=j) bv;obtain⟨H,G,y,z⟩:=h.less b;obtain⟨_,_,_,_,s5,_,_,s8⟩:=h.sh j t b;have u:a.set j (t.1,t.2.1,t.2.2.1,t.2.2.2 - 1)=less a j t:=rfl;have q:(less a j t)[j]? =some (t.1,t.2.1,t.2.2.1,t.2.2.2 - 1):=by rw[lh b,av3 rfl]
   by_cases v:t.2.2.2 - 1=0
   .obtain⟨l,g⟩:=z v
    obtain⟨res,d,C,D,E,F⟩:=F9 k t.2.2.1 (less a j t) bv l (h.sh j t b).2.2.2.1 (by rw[lj];omega) (by rw[lj];exact r) g;refine⟨res,d,(lk.less b).trans C,D,E,λN m o=>?_⟩;obtain⟨m,rfl⟩:∃c,m=c+1:=⟨m - 1,bv⟩;rw[xZ,cnF bv,ba b,ob,ob,dF bv,ob,ob,av9,gw bv bv,u,ba q,ob];rw[dF (by show¬(0:Int)<t.2.2.2 - 1;omega),ob];exact F N m bv
   .obtain⟨l,g⟩:=y v
    refine⟨false,less a j t,lk.less b,l,⟨λe=>(by cases e),λe=>(by rw[g]at e;cases e)⟩,λN m o=>?_⟩;obtain⟨m,rfl⟩:∃c,m=c+1:=⟨m - 1,bv⟩;rw[xZ,cnF bv,ba b,ob,ob,dF bv,ob,ob,av9,gw bv bv,u,ba q,ob];rw[eK (by show(0:Int)<t.2.2.2 - 1;omega)];simp
def asj{n g:Nat}{a:Do Tk}{f:bw}{L z:aX}{i:Nat}{t:Tk}(h:DP n g a f ((i:Int)::L) z)(c:a[i]? =some t)(W:t.2.1 - t.1<=(g:Int)):
 ∃(j:In) (d:Do Tk) (l:bw),DP n g d l L (z++DO t.1 t.2.1)/\left g a ((i:Int)::L)=left g d L+1/\lk a d/\(j=true↔L=[])/\
  ∀N,Fu+4<=N->Oh N (a,(g:Int),f,(i:Int))=some (j,0,d,(g:Int),l):=by
 obtain⟨H,v⟩:=h.tr.take c;obtain⟨p,P,A,B,Q,R,S,U⟩:=h.tr.sh i t c;have X:=h.len;have K:=h.n2;have J:=cS c;have y:t.2.2.2=0:=by
  obtain⟨k,u,e,m,y⟩:=h.tr.lv (i:Int) d5;obtain rfl:i=k:=bv
  rw[c]at m;cases m;exact y
 obtain⟨j,d,q,r,F,G⟩:=F9 (i+1) t.2.2.1 a bv H B bv bv v;obtain⟨l,C,D,E⟩:=aa6 (g:=g) (ts:=a) (ts0:=a) (t:=t) A K (g:Int) 0 t.1 t.2.2.1 t.2.2.2 (t.2.1 - t.1).toNat t.1 f h.dl p bv;obtain⟨j1,j2⟩:=h.did c bv q r C D;refine⟨j,d,l,j1,j2,q,F.trans r.over,λN V=>?_⟩;obtain⟨N,rfl⟩:=sC N 1;have v:=bJ;obtain⟨o,x⟩:∃o:Nat,t.1=(o:Int):=⟨t.1.toNat,bv⟩;obtain⟨b,w⟩:=get_at (xs:=f) (i:=o) (by rw[h.dl];omega);have I:b=false:=by
  cases b with
  |false=>rfl
  |true=>
   have m:=(h.dd o bv).1 w;have O:=h.pu;have M:(xc n).Nodup:=by
    unfold xc;rw[aA8,ayL];exact azH.imp λh e=>h bv
   have:=O.nodup_iff.2 M;rw[awR]at this;exact absurd rfl (this.2.2 _ m _ (by rw[awF,oL c,awc,O0];exact .inl ⟨bv,bv⟩))
 subst I;rw[acT,J3 bv h.ok J,ob,DR rfl,ba c,ob,J4 bv p bv bv,ob,dF bv,dF bv,x,ba w,ob];simp only[av8];rw[yd bv a bv,ob,adD bv f (by rw[h.dl];omega),ob,<-x,E N N bv,ob];obtain⟨N,rfl⟩:=sC N 1;simp only;rw[agQ,G N N bv,ob];cases j with
 |_=>rfl
def Wt:∀(g:bh) (c d v:Int),bN (.i .i64) (d_ (.i .i64) g c v) d=if c=d then some v else bN (.i .i64) g d
 |[],c,d,v=>by
  by_cases h:c=d
  .subst h;simp[d_,bN,jE]
  .have b:jE (.i .i64) c d=false:=by simp[jE,h]
   simp[d_,bN,b,h]
 |(x,y)::g,c,d,v=>by
  rw[d_];by_cases h:x=c
  .subst h
   by_cases a:x=d
   .subst a;simp[jE,bN]
   .have b:jE (.i .i64) x d=false:=by simp[jE,a]
    have f:jE (.i .i64) x x=true:=by simp[jE]
    simp[bN,b,f,a]
  .have b:jE (.i .i64) x c=false:=by simp[jE,h]
   simp only[b,av8,bN];by_cases a:x=d
   .subst a
    have f:jE (.i .i64) x x=true:=by simp[jE]
    rw[f,av2 (λe=>h e.symm)];rfl
   .have f:jE (.i .i64) x d=false:=by simp[jE,a]
    rw[f];exact Wt g c d v
def Wu(n:Nat):(xc n).Nodup:=by
 unfold xc;rw[aA8,ayL];exact azH.imp λh e=>h bv
def DP.fresh{n g:Nat}{j:Do Tk}{c:bw}{L o:aX}(h:DP n g j c L o){x:Int}(f:x∈L):∃(i:Nat) (t:Tk) (a:Nat),x=(i:Int)/\j[i]? =some t/\t.2.2.2=0/\t.1=(a:Int)/\c[a]? =some false:=by
 obtain⟨i,t,rfl,d,m⟩:=h.tr.lv x f;obtain⟨p,q,r,_⟩:=h.tr.sh i t d;obtain⟨a,k⟩:∃a:Nat,t.1=(a:Int):=⟨t.1.toNat,bv⟩;obtain⟨b,e⟩:=get_at (xs:=c) (i:=a) (by rw[h.dl];omega);refine⟨i,t,a,rfl,d,m,k,?_⟩;cases b with
 |false=>exact e
 |true=>
  have l:=(h.dd a bv).1 e;have:=h.pu.nodup_iff.2 (Wu n);rw[awR]at this;exact absurd rfl (this.2.2 _ l _ (axo.2 ⟨_,f,by rw[oL d,O0];exact⟨bv,bv⟩⟩))
def aiD{N:Nat}(l:Fu+5<=N){n g:Nat}{c:Do Tk}{b:bw}{L k:aX}(h:DP n g c b L k){x:Int}(j:x∈L):Oe N (c,(g:Int),b,x)=some true:=by
 obtain⟨N,rfl⟩:=sC N 1;obtain⟨i,t,o,rfl,a,f,e,d⟩:=h.fresh j;have m:=cS a;rw[acQ,eK bv,eK bv,ba a,ob,eK f,J5 bv h.ok a,ob,cd];split
 .rfl
 .rw[ob,e,ba d];rfl
def T9{n g:Nat}{B:Do Tk}{r:bw}{L Q:aX}(h:DP n g B r L Q)(d:bP)(a b:Int)(z:In)(A v:Int)(l:aX)(H:l.length<=200):∀(k j:Nat) (c:bh) (seen:aX),j+k=l.length->
 (∀y∈l.drop j,y∈L)->(seen++l.drop j).Nodup->(∀y,bN (.i .i64) c y=if y∈seen then some 1 else none)->
 ∃q,(∀y,bN (.i .i64) q y=if y∈seen++l.drop j then some 1 else none)/\∀N m,Fu+5<=N->k<m->B5 N m (d,a,b,l,((l.length:Nat):Int),(j:Int),B,(g:Int),r,d,z,A,v,c)=some (.inl (d,a,b,B,(g:Int),r,d,z,A,v,q))
 |0,j,c,seen,G,p,o,f=>⟨c,by rw[awZ bv,awN];exact f,λN m t f=>by
  obtain⟨m,rfl⟩:∃w,m=w+1:=⟨m - 1,bv⟩;rw[I2,dF bv]⟩
 |k+1,j,c,seen,G,p,o,f=>by
  obtain⟨x,D⟩:=get_at (xs:=l) (i:=j) bv;have C:=cN D;rw[C]at p o;have K:¬x∈seen:=λF=>by
   rw[awR]at o;exact o.2.2 _ F _ d5 rfl
  have J:bN (.i .i64) c x=none:=by rw[f,av2 K]
  have I:((seen++[x])++l.drop (j+1)).Nodup:=by rw[awx];exact o
  obtain⟨q,O,P⟩:=T9 h d a b z A v l H k (j+1) (d_ (.i .i64) c x 1) (seen++[x]) bv (λy M=>p y (by simp[M])) I (λy=>by
   rw[Wt,f];by_cases u:x=y
   .subst u;simp
   .have:¬y=x:=λe=>u e.symm
    simp[u,this])
  refine⟨q,λy=>by rw[O,C];simp,λN m t R=>?_⟩;obtain⟨m,rfl⟩:∃w,m=w+1:=⟨m - 1,bv⟩;have E:wZ ((Option.getD (bN (.i .i64) c x) (0:Int))+(1:Int))=1:=by rw[J];rfl
  rw[I2,eK bv,ba D,ob,E,Wt,av3 rfl,dF d5,aiD t h (p x d5),ob,bW bv];exact P N m t bv
def T_{n g:Nat}{z:Do Tk}{v:bw}{L H:aX}(h:DP n g z v L H)(a:bP)(E:a.length<=8)(t:In)(u q:Int):∀(k j:Nat) (d:bh) (seen:aX),j+k=a.length->
 (∀y∈(a.drop j).flatten,y∈L)->(∀l∈a,l.length<=200)->(seen++(a.drop j).flatten).Nodup->(∀y,bN (.i .i64) d y=if y∈seen then some 1 else none)->
 ∀N m,Fu+5<=N->k<m->B6 N m (a,((a.length:Nat):Int),(j:Int),z,(g:Int),v,a,t,u,q,d)=some (.inl ())
 |0,j,d,seen,B,e,o,b,w,N,m,f,D=>by
  obtain⟨m,rfl⟩:∃r,m=r+1:=⟨m - 1,bv⟩;rw[I3,dF bv]
 |k+1,j,d,seen,B,e,o,b,w,N,m,f,D=>by
  obtain⟨m,rfl⟩:∃r,m=r+1:=⟨m - 1,bv⟩;obtain⟨l,p⟩:=get_at (xs:=a) (i:=j) bv;have A:=cN p;rw[A,awI]at e b;have C:=o l (awg p);rw[<-awx]at b;obtain⟨F,x,G⟩:=T9 h a ((a.length:Nat):Int) (j:Int) t u q l C l.length 0 d seen bv (λy c=>e y (by simp at c⊢;exact .inl c)) (by rw[awW];exact(awR.1 b).1) w;have I:=bJ;rw[I3,eK bv,ba p,ob];have:=G N N f bv;rw[show((0:Nat):Int)=0 from rfl]at this;rw[this,ob];simp only;rw[bW bv];exact T_ h a E t u q k (j+1) F (seen++l) bv (λy c=>e y (by simp at c⊢;exact .inr c)) o b (by rw[awW]at x;exact x) N m f bv
structure Ua(n g P:Nat)(ts:List Tk)(dn:bw)(dq:bP)(ov:Bool)(us:aX):Prop where
 job:DP n g ts dn dq.flatten us
 pl:dq.length=P
 p1:1<=P
 p2:P<=8
 ovr:ov=true↔dq.flatten=[]
def ye:∀(b:bP) (p:Nat) (l:aX),b[p]? =some l->∃R:aX,b.flatten.Perm (l++R)/\∀c,(b.set p c).flatten.Perm (c++R)
 |[],p,l,h=>by simp at h
 |a::b,0,l,h=>by
  simp at h;subst h;exact⟨b.flatten,by rw[awI],λc=>by rw[ay9,awI]⟩
 |a::b,p+1,l,h=>by
  obtain⟨R,d,e⟩:=ye b p l (by simpa using h);refine⟨a++R,?_,λc=>?_⟩
  .rw[awI]
   exact(d.append_left a).trans (aAA a l R)
  .rw[azs,awI]
   exact((e c).append_left a).trans (aAA a c R)
def DP.held{n g:Nat}{a:Do Tk}{e:bw}{L o:aX}(h:DP n g a e L o):L.length<=60:=by
 have m:∀M:aX,(∀x∈M,x∈L)->M.length<=(M.flatMap (MO a)).length:=by
  intro M
  induction M with
  |nil=>intro _;simp
  |cons x M l=>
   intro c;have f:=l λy k=>c y (by simp[k]);obtain⟨i,t,rfl,d,_⟩:=h.tr.lv x (c x d5);obtain⟨p,q,_⟩:=h.tr.sh i t d;have b:1<=(MO a (i:Int)).length:=by
    rw[oL d];unfold DO;rw[awa,azC];omega
   rw[awF,awl,aws];omega
 have f:=m L λx j=>j;have b:=h.pu.length_eq;have r:=h.n2;rw[awl]at b;have:(xc n).length=n:=by simp[xc]
 omega
def Ua.short{n g P:Nat}{j:Do Tk}{b:bw}{a:bP}{i:In}{k:aX}(h:Ua n g P j b a i k):∀l∈a,l.length<=200:=λl e=>by
 obtain⟨p,f⟩:=ayM e;obtain⟨R,c,_⟩:=ye a p l f;have m:=h.job.held;have d:=c.length_eq;rw[awl]at d;omega
def adF{n g P:Nat}{k:Do Tk}{i:bw}{e:bP}{f:In}{q:aX}(h:Ua n g P k i e f q){d c:Int}(l:0<=d)(m:d<=100000)(o:0<=c)(p:c<=100000){N:Nat}(t:Fu+6<=N):
 Of N (k,(g:Int),i,e,f,d,c)=some true:=by
 obtain⟨N,rfl⟩:=sC N 1;have u:=h.pl;have v:=h.p1;have w:=h.p2;have r:=bJ;have JF:∀x:Int,0<=x->x<=100000->RQ N x=some true:=λx a b=>by
  obtain⟨N,rfl⟩:=sC N 1;rw[agH,eK a];simp[b]
 rw[acR,x9 bv h.job.ok,ob];simp only[awj,av8];rw[dF bv,dF bv,JF d l m,ob];simp only[awj,av8];rw[JF c o p,ob];simp only[awj,av8];have:=T_ h.job e bv f d c e.length 0 [] [] bv (λy j=>by rw[awW]at j;exact j) h.short (by rw[awW,awL];exact h.job.tr.nd) (λy=>by simp[bN]) N N bv bv;rw[show((0:Nat):Int)=0 from rfl]at this;rw[this];rfl
def AF(P:Nat)(x:Int):Nat:=((x.tmod (P:Int)+(P:Int)).tmod (P:Int)).toNat
def Wv{P:Nat}(f:1<=P)(x:Int):0<=x.tmod (P:Int)+(P:Int)/\x.tmod (P:Int)+(P:Int)<2*P/\AF P x<P/\(x.tmod (P:Int)+(P:Int)).tmod (P:Int)=((AF P x:Nat):Int):=by
 have b:=Int.tmod_lt_of_pos x (show(0:Int)<(P:Int) by omega);have c: -(P:Int)<x.tmod (P:Int):=by
  have:=Int.lt_tmod_of_pos x (show(0:Int)<(P:Int) by omega);omega
 have a:0<=x.tmod (P:Int)+(P:Int):=bv
 have d:=Int.tmod_lt_of_pos (x.tmod (P:Int)+(P:Int)) (show(0:Int)<(P:Int) by omega);have e:=Int.tmod_nonneg (P:Int) a;unfold AF;omega
def aiF{P k:Nat}(a:k<P):AF P (k:Int)=k:=by
 unfold AF;rw[JC,ayq a,show((k:Nat):Int)+(P:Int)=((k+P:Nat):Int) by omega,JC,av9,Nat.add_mod_right,ayq a]
def MP{N:Nat}(g:1<=N){P:Nat}(b:1<=P)(i:P<=8)(x:Int)(s:Do Tk)(s2:Int)(s3:bw)(s4:In)(s5 s6 s7 s8 s9:Int)(s10:In)(h:bP)(c:h.length=P):
 RZ N (x,s,s2,s3,s4,s5,s6,s7,s8,s9,s10,h)=some (((AF P x:Nat):Int),h,s,s2,s3,s4,s5,s6,s7,s8,s9,s10):=by
 obtain⟨N,rfl⟩:=sC N 1;obtain⟨d,e,f,a⟩:=Wv b x;rw[agL,c,Wb bv,ob,gw bv bv,Wb bv,ob,a]
def adG{α:Type}{a:Do α}{k:Nat}(b:k<=a.length):Qm a 0 (k:Int) (k:Int)=some (a.take k):=by
 simp[Qm,b]
section
variable(s:Do Tk)(s2:Int)(s3:bw)(s4:In)(s5 s6 s7 s8 s9:Int)(s10:In)
def adH{N:Nat}(g:1<=N){a:bP}{p v:Nat}{A B:aX}{x:Int}(c:a[p]? =some (A++[x]))(d:a[v]? =some B)(f:A.length<=200):
 FO N ((p:Int),(v:Int),s,s2,s3,s4,s5,s6,s7,s8,s9,s10,a)=some (true,a.set p A,s,s2,s3,s4,s5,s6,s7,(p:Int),x,s10):=by
 obtain⟨N,rfl⟩:=sC N 1;have b:((A++[x]).length:Int) - 1=((A.length:Nat):Int):=by rw[awl,aye];omega
 have e:(A++[x])[A.length]? =some x:=d5
 rw[I4,ba c,ob,ob,ba d,ob,ob,b,gw bv bv,eK bv,ba e,ob,adG d5,ob,eK rfl,ob,ob,av9];simp
def Ub{N:Nat}(f:1<=N){a:bP}{p v:Nat}{B:aX}{x:Int}(c:a[p]? =some [])(d:a[v]? =some (x::B))(e:B.length<=200):
 FO N ((p:Int),(v:Int),s,s2,s3,s4,s5,s6,s7,s8,s9,s10,a)=some (true,a.set v B,s,s2,s3,s4,s5,s6,s7,(v:Int),x,s10):=by
 obtain⟨N,rfl⟩:=sC N 1;have b:aZ (x::B) 0=some x:=rfl;rw[I4,ba c,ob,ob,ba d,ob,ob];rw[show((([]:aX).length:Nat):Int) - 1= -1 from rfl,gw bv bv,dF bv,eK (by rw[aws];omega),b,ob,wO bv (by rw[aws];omega),ob,ob,ob,av9];rfl
def Ww{N:Nat}(d:1<=N){a:bP}{p v:Nat}(b:a[p]? =some [])(c:a[v]? =some []):
 FO N ((p:Int),(v:Int),s,s2,s3,s4,s5,s6,s7,s8,s9,s10,a)=some (false,a,s,s2,s3,s4,s5,s6,s7,s8,s9,s10):=by
 obtain⟨N,rfl⟩:=sC N 1;rw[I4,ba b,ob,ob,ba c,ob,ob];rw[show((([]:aX).length:Nat):Int) - 1= -1 from rfl,gw bv bv,dF bv,dF d5]
end
abbrev Ev:=Int×Int×Int×In
def Wx(b:Do Tk)(a:Ev):aX:=if a.2.2.2=true\/a.2.2.1<0 then []else MO b a.2.2.1
def apk{n g P:Nat}{a:Do Tk}{o:bw}{b:bP}{m:aX}{x:Int}(h:DP n g a o (x::b.flatten) m)(z:b.length=P)(v:1<=P)(y:P<=8){p:Nat}{Q:aX}(B:b[p]? =some Q)(V:Q.length<=200):
 ∃(d:Do Tk) (f:bw) (q:bP) (D:In) (E:aX) (par:In),Ua n g P d f q D E/\nu a d/\left g a (x::b.flatten)=left g d q.flatten+1/\0<=x/\x<(d.length:Int)/\E=m++(if par=true then []else MO d x)/\
  ∀(N:Nat) (l k w j:Int),Fu+6<=N->R6 N ((p:Int),a,(g:Int),o,false,l,k,w,j,x,false,b)=some (0,q,d,(g:Int),f,D,l,k,w,j,x,par):=by
 obtain⟨i,t,rfl,c,J⟩:=h.tr.lv x d5;obtain⟨O,S,U,_⟩:=h.tr.sh i t c;have G:=cS c;have W:=h.len;by_cases r:(g:Int)<t.2.1 - t.1
 .obtain⟨j1,j2⟩:=h.apj c bv (show Ws t=_ from rfl)
  obtain⟨R,L,M⟩:=ye b p Q B;have u:((a.length:Int)::((a.length+1:Nat):Int)::b.flatten).Perm (b.set p (Q++[((a.length+1:Nat):Int),(a.length:Int)])).flatten:=by
   refine List.Perm.trans ?_ (M _).symm;rw[awx];refine List.Perm.trans ?_ (aAA Q _ R).symm;refine(List.Perm.swap _ _ _).trans ?_;exact(L.cons _).cons _
  have j3:=j1.perm u;refine⟨part a i t (Ws t),o,b.set p (Q++[((a.length+1:Nat):Int),(a.length:Int)]),false,m,true,⟨j3,by rw[axf];exact z,v,y,⟨λe=>(by cases e),λe=>?_⟩⟩,nu.part c,?_,bv,by rw[Dj];omega,d5,λN l k w j F=>?_⟩
  .have:=u.length_eq
   rw[e]at this;simp at this
  .rw[j2,EL u]
  .obtain⟨N,rfl⟩:=sC N 1
   rw[R7,J5 bv h.ok c,ob,eK r,HF bv h.ok c J r,ob,eK rfl,ba B,ob,ob,alD bv,ob,cj bv d7,ob,ob,ob,av9]
 .obtain⟨K,d,f,j1,j2,C,H,I⟩:=asj h c bv
  have A:nu a d:=C.2;refine⟨d,f,b,K,m++DO t.1 t.2.1,false,⟨j1,z,v,y,H⟩,A,j2,bv,by rw[C.1];omega,?_,λN l k w j F=>?_⟩
  .rw[av2 d5,A.un G,oL c]
  .obtain⟨N,rfl⟩:=sC N 1
   rw[R7,J5 bv h.ok c,ob,dF r,I N bv,ob];rfl
def step_eq{n g P:Nat}{d:Do Tk}{l:bw}{b:bP}{G:aX}(h:Ua n g P d l b false G){st idl:Int}(h1:0<=st)(h2:st<100000)(h3:0<=idl)(h4:idl<100000)(p v:Int):
 ∃(e:Do Tk) (o:bw) (k:bP) (m:In) (t:aX) (r:Int) (f:Ev),Ua n g P e o k m t/\nu d e/\t=G++Wx e f/\f.2.2.1<(e.length:Int)/\
  ((0<=f.2.2.1/\r=idl/\left g d b.flatten=left g e k.flatten+1)\/(f.2.2.1= -1/\r=idl+1/\e=d/\k=b/\m=false))/\
  (b[AF P p]? ≠some []->0<=f.2.2.1)/\
  ∀N,Fu+8<=N->Eu N (d,(g:Int),l,b,false,st,idl,p,v)=some (0,e,(g:Int),o,k,m,st+1,r,f):=by
 have F:=h.pl;have w:=h.p1;have H:=h.p2;obtain⟨_,_,np,_⟩:=Wv w p;obtain⟨_,_,nv,_⟩:=Wv w v;obtain⟨own,q⟩:=get_at (xs:=b) (i:=AF P p) bv;obtain⟨S,z⟩:=get_at (xs:=b) (i:=AF P v) bv;have U:=h.short own (awg q);have a3:=h.short S (awg z);have O:∀N,Fu+7<=N->Eu (N+1) (d,(g:Int),l,b,false,st,idl,p,v)=aW (FO N (((AF P p:Nat):Int),((AF P v:Nat):Int),d,(g:Int),l,false,st+1,idl,((AF P p:Nat):Int),-1,-1,false,b)) λc=>
  cond c.1
   (aW (R6 N (((AF P p:Nat):Int),(c.2.2.1,(c.2.2.2.1,(c.2.2.2.2.1,(c.2.2.2.2.2.1,(c.2.2.2.2.2.2.1,(c.2.2.2.2.2.2.2.1,(c.2.2.2.2.2.2.2.2.1,(c.2.2.2.2.2.2.2.2.2.1,(c.2.2.2.2.2.2.2.2.2.2.1,(c.2.2.2.2.2.2.2.2.2.2.2,c.2.1)))))))))))) λj=>
    cond (!(decide (j.1=(0:Int))))
     (some (j.1,(d,((g:Int),(l,(b,(false,(st,(idl,((0:Int),((0:Int),((0:Int),false))))))))))))
     (some ((0:Int),(j.2.2.1,(j.2.2.2.1,(j.2.2.2.2.1,(j.2.1,(j.2.2.2.2.2.1,(j.2.2.2.2.2.2.1,(j.2.2.2.2.2.2.2.1,(j.2.2.2.2.2.2.2.2.1,(j.2.2.2.2.2.2.2.2.2.1,(j.2.2.2.2.2.2.2.2.2.2.1,j.2.2.2.2.2.2.2.2.2.2.2)))))))))))))
   (cond (decide (c.2.2.2.2.2.2.2.1=(100000:Int)))
    (some ((2:Int),(d,((g:Int),(l,(b,(false,(st,(idl,((0:Int),((0:Int),((0:Int),false))))))))))))
    (some ((0:Int),(c.2.2.1,(c.2.2.2.1,(c.2.2.2.2.1,(c.2.1,(c.2.2.2.2.2.1,(c.2.2.2.2.2.2.1,((wZ (c.2.2.2.2.2.2.2.1+(1:Int))),(c.2.2.2.2.2.2.2.2.1,(c.2.2.2.2.2.2.2.2.2.1,(c.2.2.2.2.2.2.2.2.2.2.1,c.2.2.2.2.2.2.2.2.2.2.2))))))))))))):=λN E=>by
  rw[acU,adF h h1 bv h3 bv bv,ob];simp only[awj,av8];rw[dF bv,adE bv b bv,ob,MP bv w H p _ _ _ _ _ _ _ _ _ _ b F,ob,MP bv w H v _ _ _ _ _ _ _ _ _ _ b F,ob];dsimp only;rw[gw (x:=st+1) bv bv]
 have K:∀(u:bP) (x D:Int),(x::u.flatten).Perm b.flatten->u.length=P->(∀N,Fu+7<=N->FO N (((AF P p:Nat):Int),((AF P v:Nat):Int),d,(g:Int),l,false,st+1,idl,((AF P p:Nat):Int),-1,-1,false,b)=some (true,u,d,(g:Int),l,false,st+1,idl,((AF P p:Nat):Int),D,x,false))->
  ∃(e:Do Tk) (o:bw) (k:bP) (m:In) (t:aX) (r:Int) (f:Ev),Ua n g P e o k m t/\nu d e/\t=G++Wx e f/\f.2.2.1<(e.length:Int)/\
  ((0<=f.2.2.1/\r=idl/\left g d b.flatten=left g e k.flatten+1)\/(f.2.2.1= -1/\r=idl+1/\e=d/\k=b/\m=false))/\
  (b[AF P p]? ≠some []->0<=f.2.2.1)/\
  ∀N,Fu+8<=N->Eu N (d,(g:Int),l,b,false,st,idl,p,v)=some (0,e,(g:Int),o,k,m,st+1,r,f):=by
  intro u x D I a1 hf;obtain⟨Q,M⟩:=get_at (xs:=u) (i:=AF P p) bv;have a0:Q.length<=200:=by
   obtain⟨R,C,_⟩:=ye u (AF P p) Q M;have e1:=C.length_eq;have e2:=I.length_eq;have e3:=h.job.held;rw[awl]at e1;rw[aws]at e2;omega
  obtain⟨e,o,k,m,t,par,V,W,X,L,Y,Z,c7⟩:=apk (h.job.perm I.symm) a1 w H M a0;refine⟨e,o,k,m,t,idl,(((AF P p:Nat):Int),D,x,par),V,W,?_,Y,.inl ⟨L,rfl,by rw[<-X];exact EL I.symm⟩,λ_=>L,λN E=>?_⟩
  .rw[Z]
   unfold Wx;have:¬x<0:=bv
   cases par<;>simp[this]
  .obtain⟨N,rfl⟩:=sC N 1
   rw[O N bv,hf N bv,ob];simp only[awv];rw[c7 N (st+1) idl _ D bv,ob,DR rfl]
 rcases aA4 own with rfl|⟨A,x,rfl⟩
 .cases S with
  |nil=>
   refine⟨d,l,b,false,G,idl+1,(((AF P p:Nat):Int),-1,-1,false),h,nu.refl d,by simp[Wx],by show(-1:Int)<_;omega,.inr ⟨rfl,rfl,rfl,rfl,rfl⟩,λa2=>absurd q a2,λN E=>?_⟩;obtain⟨N,rfl⟩:=sC N 1;rw[O N bv,Ww _ _ _ _ _ _ _ _ _ _ bv q z,ob];simp only[av8];rw[dF bv,gw bv bv]
  |cons y B=>
   obtain⟨R,C,J⟩:=ye b (AF P v) (y::B) z;refine K (b.set (AF P v) B) y ((AF P v:Nat):Int) (((J B).cons y).trans C.symm) (by rw[axf];exact F) λN E=>?_;exact Ub _ _ _ _ _ _ _ _ _ _ bv q z (by rw[aws]at a3;omega)
 .rw[aA5]at q U
  obtain⟨R,C,J⟩:=ye b (AF P p) (A++[x]) q;refine K (b.set (AF P p) A) x ((AF P p:Nat):Int) ?_ (by rw[axf];exact F) λN E=>?_
  .refine((J A).cons x).trans (List.Perm.trans ?_ C.symm)
   rw[awx];exact(aAB (a:=x) (l₁:=A) (l₂:=R)).symm
  .exact adH _ _ _ _ _ _ _ _ _ _ bv q z (by rw[awl]at U;omega)
structure Dm where
 ts:List Tk
 dn:bw
 dq:bP
 ov:Bool
 idl:Int
 uv:List Ev
abbrev DT:=Do Tk×Int×bw×bP×In×Int×Int×Do Ev
def Dm.arg(s:Dm)(g:Nat):DT:=(s.ts,(g:Int),s.dn,s.dq,s.ov,((s.uv.length:Nat):Int),s.idl,s.uv)
def Uc(b:Do Ev):Nat:=b.countP λa=>decide (0<=a.2.2.1)
structure uw(n g P:Nat)(s:Dm):Prop where
 cr:Ua n g P s.ts s.dn s.dq s.ov (s.uv.flatMap (Wx s.ts))
 ev:∀ev∈s.uv,ev.2.2.1<(s.ts.length:Int)
 did:Uc s.uv+left g s.ts s.dq.flatten=tn g n
 idl:s.idl=((s.uv.length:Nat):Int) - ((Uc s.uv:Nat):Int)
def alG(a:Do Ev):Uc a<=a.length:=ayQ
def aiG{b c:Do Tk}(h:nu b c){a:Ev}(e:a.2.2.1<(b.length:Int)):Wx c a=Wx b a:=by
 unfold Wx;split
 .rfl
 next f=>obtain⟨k,d⟩:∃k:Nat,a.2.2.1=(k:Int):=⟨a.2.2.1.toNat,bv⟩;rw[d];exact h.un bv
def am_{n g P:Nat}{s:Dm}(h:uw n g P s)(E:s.ov=false)(Q:s.uv.length<100000)(p v:Int):
 ∃b:Dm,uw n g P b/\b.uv.length=s.uv.length+1/\(left g b.ts b.dq.flatten<left g s.ts s.dq.flatten\/(b.dq=s.dq/\b.ts=s.ts/\b.ov=false/\s.dq[AF P p]? =some []))/\
  ∀N,Fu+9<=N->R8 N (p,v,s.arg g)=some ((0:Int),b.arg g):=by
 obtain⟨o,Z,K,ov,V,f⟩:=s;obtain⟨C,u,M,O⟩:=h;simp only at E Q C u M O;subst E;have a0:=alG f;obtain⟨w,J,L,X,Y,W,k,F,x,G,H,q,z,I⟩:=step_eq C (st:=((f.length:Nat):Int)) (idl:=V) bv bv bv bv p v;have U:Y=(f++[k]).flatMap (Wx w):=by
  rw[G,azN,List.flatMap_singleton];refine awh (·++_) ?_;rw[azM,azM,aw3 λe a=>aiG x (u e a)]
 have a1:o.length<=w.length:=by
  by_cases A:o.length=0
  .omega
  .obtain⟨t,R⟩:=get_at (xs:=o) (i:=o.length - 1) bv
   obtain⟨t',S,_⟩:=x _ t R;have:=cS S;omega
 have B:Uc (f++[k])=Uc f+(if 0<=k.2.2.1 then 1 else 0):=by
  unfold Uc;rw[ayP,aAy];by_cases A:0<=k.2.2.1<;>simp[A]
 refine⟨⟨w,J,L,X,W,f++[k]⟩,⟨by simp only;rw[<-U];exact F,λe a=>?_,?_,?_⟩,d5,?_,λN hN=>?_⟩
 .simp only at a⊢
  rcases awc.1 a with a|a
  .have:=u e a;omega
  .rw[awq.1 a];exact H
 .simp only
  rw[B];rcases q with⟨c,j,d⟩|⟨c,j,d,m,r⟩
  .rw[av3 c];omega
  .rw[av2 bv,d,m];omega
 .simp only
  rw[B,awl,aye];rcases q with⟨c,j,d⟩|⟨c,j,d,m,r⟩
  .rw[av3 c];omega
  .rw[av2 bv];omega
 .simp only
  rcases q with⟨c,j,d⟩|⟨c,j,d,m,r⟩
  .left;omega
  .right
   refine⟨m,d,r,?_⟩;cases D:K[AF P p]? with
   |none=>
    have:=z (by rw[D];simp);omega
   |some l=>
    cases l with
    |nil=>rfl
    |cons y l=>
     have:=z (by rw[D];simp);omega
 .obtain⟨N,rfl⟩:=sC N 1
  simp only[Dm.arg];rw[agS,I N bv,ob,eK rfl,cj bv d7,ob,awl,aye];rfl
def J6{n g P:Nat}(f:bh)(w:f.length<=200)(a:Int)(b:In)(c d:Int):∀(k i:Nat) (s:Dm),i+k=f.length->uw n g P s->s.uv.length+k<100000->
 ∃p:Dm,uw n g P p/\p.uv.length<=s.uv.length+k/\∀N m,Fu+9<=N->k<m->B_ N m (f,((f.length:Nat):Int),(i:Int),a,b,c,d,s.arg g)=some (.inl (a,b,c,d,p.arg g))
 |0,i,s,v,o,u=>⟨s,o,bv,λN m j r=>by
  obtain⟨m,rfl⟩:∃h,m=h+1:=⟨m - 1,bv⟩;simp only[Dm.arg];rw[Ew,dF bv]⟩
 |k+1,i,s,v,o,u=>by
  obtain⟨x,t⟩:=get_at (xs:=f) (i:=i) bv;cases l:s.ov with
  |true=>
   refine⟨s,o,bv,λN m j r=>?_⟩;obtain⟨m,rfl⟩:∃h,m=h+1:=⟨m - 1,bv⟩;simp only[Dm.arg];rw[Ew,eK bv,ba t,ob,l];rfl
  |false=>
   obtain⟨C,y,D,_,z⟩:=am_ o l bv x.1 x.2;obtain⟨s2,A,E,B⟩:=J6 f w a b c d k (i+1) C bv y bv;refine⟨s2,A,bv,λN m j r=>?_⟩;obtain⟨m,rfl⟩:∃h,m=h+1:=⟨m - 1,bv⟩;have e:=z N j;have q:=B N m j bv;simp only[Dm.arg]at e q⊢;rw[Ew,eK bv,ba t,ob,l];simp only[av8];rw[l]at e;rw[e,ob,DR rfl,bW bv];exact q
def MQ(a:bP)(e:a.length<=8)(d:∀l∈a,l.length<=200):∀(k i:Nat) (x:Nat),i+k=a.length->x<=200*i->∀N m,k<m->
 B9 N m ((x:Int),a,((a.length:Nat):Int),(i:Int))=some (((x+(a.drop i).flatten.length:Nat)):Int)
 |0,i,x,f,h,N,m,g=>by
  obtain⟨m,rfl⟩:∃c,m=c+1:=⟨m - 1,bv⟩;rw[I6,dF bv,awZ bv];rfl
 |k+1,i,x,f,h,N,m,g=>by
  obtain⟨m,rfl⟩:∃c,m=c+1:=⟨m - 1,bv⟩;obtain⟨l,b⟩:=get_at (xs:=a) (i:=i) bv;have j:=d l (awg b);rw[I6,eK bv,ba b,ob,gw bv bv,bW bv,show(x:Int)+((l.length:Nat):Int)=((x+l.length:Nat):Int) by omega,MQ a e d k (i+1) (x+l.length) bv bv N m bv,cN b,awI,awl];simp only[av6];omega
def alH{n g P:Nat}{s:Dm}(h:uw n g P s){N:Nat}(e:Fu+1<=N)(c a:Int)(b:In):Oi N (s.ts,(g:Int),s.dn,s.dq,b,c,a)=some ((s.dq.flatten.length:Nat):Int):=by
 obtain⟨N,rfl⟩:=sC N 1;have d:=bJ;have f:=h.cr.pl;have i:=h.cr.p2;have:=MQ s.dq bv h.cr.short s.dq.length 0 0 bv bv N N bv;rw[acV];rw[show((0:Nat):Int)=0 from rfl]at this;rw[this,ob,awW,awB]
def J7{n g P:Nat}(r:Int)(l:Nat):∀(j k:Nat) (s:Dm),k+j=P->uw n g P s->s.uv.length+j<100000->((∃q,k<=q/\q<P/\s.dq[q]? ≠some [])\/left g s.ts s.dq.flatten<l)->left g s.ts s.dq.flatten<=l->
 ∃b:Dm,uw n g P b/\b.uv.length<=s.uv.length+j/\
  ((b.ov=true/\(s.ov=true->b=s)/\∀N m,Fu+10<=N->j<m->sW N m (r,(P:Int),(k:Int),s.arg g)=some (.inr ((0:Int),b.arg g)))\/
   (left g b.ts b.dq.flatten<l/\(0<j->s.ov=false)/\∀N m,Fu+10<=N->j<m->sW N m (r,(P:Int),(k:Int),s.arg g)=some (.inl (r,b.arg g))))
 |0,k,s,H,d,G,c,A=>⟨s,d,bv,.inr ⟨by
  rcases c with⟨q,B,J,_⟩|c
  .omega
  .exact c,λh=>by omega,λN m a w=>by
  obtain⟨m,rfl⟩:∃f,m=f+1:=⟨m - 1,bv⟩;simp only[Dm.arg];rw[rD,dF bv]⟩⟩
 |j+1,k,s,H,d,G,c,A=>by
  have R:=d.cr.p2;cases o:s.ov with
  |true=>
   refine⟨s,d,bv,.inl ⟨o,λ_=>rfl,λN m a w=>?_⟩⟩;obtain⟨m,rfl⟩:∃f,m=f+1:=⟨m - 1,bv⟩;simp only[Dm.arg];rw[rD,eK bv,o];rfl
  |false=>
   have I:s.dq.flatten≠[]:=λe=>by
    have:=d.cr.ovr.2 e;rw[o]at this;cases this
   have Q:0<s.dq.flatten.length:=axV.2 I;obtain⟨i,B,J,t,K⟩:=am_ d o bv (k:Int) (wZ ((wZ ((k:Int)+(1:Int)))+r));have E:(∃q,k+1<=q/\q<P/\i.dq[q]? ≠some [])\/left g i.ts i.dq.flatten<l:=by
    rcases t with t|⟨p,u,D,v⟩
    .right;omega
    .rw[aiF bv]at v
     rcases c with⟨q,O,C,z⟩|c
     .have:q≠k:=λe=>z (e▸v)
      exact .inl ⟨q,bv,C,by rw[p];exact z⟩
     .right;rw[p,u];exact c
   have F:left g i.ts i.dq.flatten<=l:=by
    rcases t with t|⟨p,u,D,v⟩
    .omega
    .rw[p,u];exact A
   have step:∀N m,Fu+10<=N->sW N (m+1) (r,(P:Int),(k:Int),s.arg g)=sW N m (r,(P:Int),((k+1:Nat):Int),i.arg g):=λN m a=>by
    have e:=K N bv;have e0:=alH d (N:=N) bv ((s.uv.length:Nat):Int) s.idl false;simp only[Dm.arg]at e⊢;rw[o]at e;rw[rD,eK bv,o];simp only[av8];rw[e0,ob,dF bv,e,ob,DR rfl,bW bv]
   obtain⟨s2,L,S,M⟩:=J7 r l j (k+1) i bv B bv E F;refine⟨s2,L,bv,?_⟩;rcases M with⟨x,_,y⟩|⟨x,_,y⟩
   .refine .inl ⟨x,λe=>(by cases e),λN m a w=>?_⟩
    obtain⟨m,rfl⟩:∃f,m=f+1:=⟨m - 1,bv⟩;rw[step N m a];exact y N m a bv
   .refine .inr ⟨x,λ_=>rfl,λN m a w=>?_⟩
    obtain⟨m,rfl⟩:∃f,m=f+1:=⟨m - 1,bv⟩;rw[step N m a];exact y N m a bv
def Ud{n g P:Nat}:∀(R:Nat) (r:Int) (s:Dm),uw n g P s->left g s.ts s.dq.flatten<=R->s.uv.length+P*R+P<100000->
 ∃i:Dm,uw n g P i/\i.ov=true/\i.uv.length<=s.uv.length+P*left g s.ts s.dq.flatten/\∀N m,Fu+10<=N->R<m->He N m (r,s.arg g)=some ((0:Int),i.arg g):=by
 intro R
 induction R with
 |zero=>
  intro r s a z A;have y:s.dq.flatten=[]:=by
   have:=a.cr.job.len.2.1;exact aAZ.1 bv
  have f:=a.cr.ovr.2 y;have D:=a.cr.p1;have E:=a.cr.p2;refine⟨s,a,f,bv,λN m d k=>?_⟩;obtain⟨m,rfl⟩:∃b,m=b+1:=⟨m - 1,bv⟩;obtain⟨w,rfl⟩:∃b,N=b+1:=⟨N - 1,bv⟩;simp only[Dm.arg];rw[x3,a.cr.pl,rD,eK bv,f];rfl
 |succ R H=>
  intro r s a z A;have D:=a.cr.p1;have E:=a.cr.p2;have U:P*(R+1)=P*R+P:=aAC P R;have M:=bJ;cases f:s.ov with
  |true=>
   refine⟨s,a,f,bv,λN m d k=>?_⟩;obtain⟨m,rfl⟩:∃b,m=b+1:=⟨m - 1,bv⟩;obtain⟨w,rfl⟩:∃b,N=b+1:=⟨N - 1,bv⟩;simp only[Dm.arg];rw[x3,a.cr.pl,rD,eK bv,f];rfl
  |false=>
   have t:s.dq.flatten≠[]:=λe=>by
    have:=a.cr.ovr.2 e;rw[f]at this;cases this
   have h:∃q,0<=q/\q<P/\s.dq[q]? ≠some []:=by
    obtain⟨x,F⟩:=ay4 _ t;obtain⟨l,C,G⟩:=ax5.1 F;obtain⟨q,h⟩:=ayM C;refine⟨q,awy _,by rw[<-a.cr.pl];exact cS h,λe=>?_⟩;rw[h]at e;cases e;cases G
   have Q:1<=left g s.ts s.dq.flatten:=by
    have:=a.cr.job.len.2.1;have:=axV.2 t;omega
   obtain⟨j,u,V,I⟩:=J7 r (left g s.ts s.dq.flatten) P 0 s bv a bv (.inl h) (av5 _);obtain⟨c,B⟩:∃c,left g s.ts s.dq.flatten=c+1:=⟨left g s.ts s.dq.flatten - 1,bv⟩;have S:P*left g s.ts s.dq.flatten=P*c+P:=by rw[B];exact aAC P c
   rcases I with⟨v,_,o⟩|⟨v,_,o⟩
   .refine⟨j,u,v,bv,λN m d k=>?_⟩
    obtain⟨m,rfl⟩:∃b,m=b+1:=⟨m - 1,bv⟩;have e:=o N N d bv;simp only[Dm.arg]at e⊢;rw[show((0:Nat):Int)=0 from rfl]at e;rw[x3,a.cr.pl,e,ob]
   .obtain⟨s2,J,K,W,L⟩:=H (wZ (r+(1:Int))) j u bv bv
    have O:P*left g j.ts j.dq.flatten<=P*c:=axZ P bv;refine⟨s2,J,K,bv,λN m d k=>?_⟩;obtain⟨m,rfl⟩:∃b,m=b+1:=⟨m - 1,bv⟩;have e:=o N N d bv;have p:=L N m d bv;simp only[Dm.arg]at e p⊢;rw[show((0:Nat):Int)=0 from rfl]at e;rw[x3,a.cr.pl,e,ob];exact p
def jK(n P:Nat):Dm:=⟨[((0:Int),(n:Int),(-1:Int),(0:Int))],replicate n false,(replicate P ([]:aX)).set 0 [0],false,0,[]⟩
def Wy{P:Nat}(a:1<=P):((replicate P ([]:aX)).set 0 [0]).flatten=[0]:=by
 obtain⟨P,rfl⟩:=sC P 1;rw[axG,ay9,awI,List.flatten_replicate_nil];rfl
def Wz{n g P:Nat}(b:1<=n)(c:n<=60)(d:1<=g)(e:g<=100)(f:1<=P)(h:P<=8):uw n g P (jK n P):=by
 have a:=Wy f;refine⟨⟨?_,by simp[jK],f,h,?_⟩,λj i=>(by simp[jK]at i),?_,by simp[jK,Uc]⟩
 .simp only[jK,a,azJ]
  exact DP.first b c d e
 .simp only[jK,a];simp
 .have:=(DP.first (g:=g) b c d e).nb
  simp only[jK,a,Uc,List.countP_nil];simp only[aws,aw4]at this;omega
def aiH{n g P:Nat}(b:1<=n)(c:n<=60)(d:1<=g)(e:g<=100)(h:1<=P)(i:P<=8){N:Nat}(j:3<=N):
 Od N ((n:Int),(g:Int),(P:Int))=some ((0:Int),(jK n P).ts,(g:Int),(jK n P).dn,(jK n P).dq,false,0,0):=by
 obtain⟨N,rfl⟩:=sC N 1;have f:Oc N ((n:Int),(g:Int))=some ((0:Int),[((0:Int),(n:Int),(-1:Int),(0:Int))],(g:Int),replicate n false):=by
  obtain⟨N,rfl⟩:=sC N 1;rw[acK,J2 bv b c d e,ob];simp only[awj,av8];rw[oH bv bv bv,ob,av9]
 have a:aZ (replicate P ([]:aX)) 0=some []:=by
  obtain⟨P,rfl⟩:=sC P 1;rfl
 rw[acL,dF bv,dF bv,f,ob,DR rfl,oH bv bv bv,ob,av9,a,ob,ob];rfl
def aiI{n g P:Nat}(c:1<=n)(j:n<=60)(d:1<=g)(k:g<=100)(l:1<=P)(e:P<=8)(a:bh)(v:a.length<=200):
 ∃s:Dm,uw n g P s/\s.ov=true/\s.uv.length<=a.length+P*tn g n/\∀N,Fu+12<=N->Sb N ((n:Int),(g:Int),(P:Int),a)=some ((0:Int),s.arg g):=by
 have y:=bJ;have u:=Wz c j d k l e;obtain⟨b,f,w,o⟩:=J6 (g:=g) a v 0 false 0 0 a.length 0 (jK n P) bv u (by simp[jK];omega);have D:=T8 d n n (av5 _) c;have m:left g b.ts b.dq.flatten<=tn g n:=by have:=f.did;omega
 have B:P*left g b.ts b.dq.flatten<=P*tn g n:=axZ P m;have C:P*tn g n<=8*119:=axC e bv;have A:(jK n P).uv.length=0:=rfl;obtain⟨s2,p,q,x,r⟩:=Ud (tn g n) 0 b f m bv;refine⟨s2,p,q,bv,λN z=>?_⟩;obtain⟨N,rfl⟩:=sC N 1;have h:=o N N bv bv;rw[agV,aiH c j d k l e bv,ob,DR rfl];rw[show((0:Nat):Int)=0 from rfl]at h;have t:B_ N N (a,((a.length:Nat):Int),0,0,false,0,0,(jK n P).ts,(g:Int),(jK n P).dn,(jK n P).dq,false,0,0,[])=some (.inl (0,false,0,0,b.arg g)):=h;simp only;rw[t,ob];obtain⟨N,rfl⟩:=sC N 1;have i:=r N N bv bv;simp only[Dm.arg]at i⊢;rw[agU,i,ob,ob]
def aiJ{a b:Int}(h:a<b):DO a b=a::DO (a+1) b:=by
 rw[<-aa5 (a:=a) (m:=a+1) (b:=b) bv bv];have:DO a (a+1)=[a]:=by
  unfold DO;rw[show(a+1 - a).toNat=1 by omega];simp
 rw[this];rfl
def alI{a b:Int}(h:b<=a):DO a b=[]:=by
 unfold DO;rw[show(b - a).toNat=0 by omega];rfl
def aa7(a b:Int):(DO a b).length=(b - a).toNat:=by simp[DO]
def MS(b:Do Tk)(a:Ev):bh:=if a.2.2.2=true\/a.2.2.1<0 then []else match b[a.2.2.1.toNat]? with
 |some t=>[(t.1,t.2.1)]
 |none=>[]
def adI(b:Do Tk)(a:Ev):(MS b a).flatMap (λs=>DO s.1 s.2)=Wx b a:=by
 unfold MS Wx;split
 .rfl
 .unfold MO
  cases c:b[a.2.2.1.toNat]? with
  |some t=>simp
  |none=>rfl
def F_(c:Do Tk)(g:Int)(n:bw)(o:bP)(v:In)(w u:Int)(b:Do Ev)(z:b.length<=100000)(p:∀a∈b,a.2.2.1<(c.length:Int)):∀(k i:Nat) (d:bh),i+k=b.length->d.length<=i->∀N m,k<m->
 sX N m (b,((b.length:Nat):Int),(i:Int),c,g,n,o,v,w,u,d)=some (d++(b.drop i).flatMap (MS c))
 |0,i,d,y,B,N,m,A=>by
  obtain⟨m,rfl⟩:∃l,m=l+1:=⟨m - 1,bv⟩;rw[L3,dF bv,awZ bv];simp
 |k+1,i,d,y,B,N,m,A=>by
  obtain⟨m,rfl⟩:∃l,m=l+1:=⟨m - 1,bv⟩;obtain⟨a,h⟩:=get_at (xs:=b) (i:=i) bv;have E:=p a (awg h);have j:=λD C=>F_ c g n o v w u b z p k (i+1) D bv C N m bv;rw[L3,eK bv,ba h,ob,cb,bW bv,cN h,awF];by_cases f:a.2.2.2=true
  .rw[av3 f,j d bv]
   have:MS c a=[]:=by unfold MS;rw[av3 (.inl f)]
   rw[this];rfl
  .rw[av2 f,cd]
   by_cases e:a.2.2.1<0
   .rw[av3 e,j d bv]
    have:MS c a=[]:=by unfold MS;rw[av3 (.inr e)]
    rw[this];rfl
   .rw[av2 e,dF bv]
    obtain⟨x,r⟩:∃x:Nat,a.2.2.1=(x:Int):=⟨a.2.2.1.toNat,bv⟩;obtain⟨t,q⟩:=get_at (xs:=c) (i:=x) bv;rw[r,ba q,ob,cj bv d7,ob,j _ (by rw[awl,aye];omega)];have:MS c a=[(t.1,t.2.1)]:=by
     unfold MS;rw[av2 (by simp[f,e]),r,av9,q]
    rw[this,awx]
def Gb(a b:Int)(l:Do Ev)(s s2:Int)(v:bh)(f:0<=s)(g:s2<=60)(c:Nat)(h:s+(c:Int)=s2):∀(k j:Nat) (d:aX),j+k=c->d.length+k<=1000->∀N m,k<m->
 Ca N m (a,b,(c:Int),(j:Int),l,d,s,s2,v)=some (a,b,l,d++DO (s+(j:Int)) s2,v)
 |0,j,d,i,o,N,m,n=>by
  obtain⟨m,rfl⟩:∃e,m=e+1:=⟨m - 1,bv⟩;rw[I7,dF bv,alI bv,awN]
 |k+1,j,d,i,o,N,m,n=>by
  obtain⟨m,rfl⟩:∃e,m=e+1:=⟨m - 1,bv⟩;rw[I7,eK bv,gw (x:=s+(j:Int)) bv bv,cj bv d7,ob,bW bv,
   Gb a b l s s2 v f g c h k (j+1) _ bv (by rw[awl,aye];omega) N m bv,aiJ (a:=s+(j:Int)) bv,awx]
  rw[show s+((j+1:Nat):Int)=s+(j:Int)+1 by omega];rfl
def Gc(l:Do Ev)(v:bh)(r:v.length<=100000)(g:∀s∈v,0<=s.1/\s.1<=s.2/\s.2<=60):∀(k i:Nat) (a:aX),i+k=v.length->a.length+((v.drop i).flatMap λs=>DO s.1 s.2).length<=1000->∀N m,Fu<=N->k<m->
 Cb N m (((v.length:Nat):Int),(i:Int),l,a,v)=some (l,a++(v.drop i).flatMap λs=>DO s.1 s.2)
 |0,i,a,p,h,N,m,f,q=>by
  obtain⟨m,rfl⟩:∃d,m=d+1:=⟨m - 1,bv⟩;rw[I8,dF bv,awZ bv];simp
 |k+1,i,a,p,h,N,m,f,q=>by
  obtain⟨m,rfl⟩:∃d,m=d+1:=⟨m - 1,bv⟩;obtain⟨s,b⟩:=get_at (xs:=v) (i:=i) bv;obtain⟨j,t,n⟩:=g s (awg b);rw[cN b,awF,awl,aa7]at h;obtain⟨c,o⟩:∃c:Nat,s.2 - s.1=(c:Int):=⟨(s.2 - s.1).toNat,bv⟩;have u:=bJ;have e:=Gb ((v.length:Nat):Int) (i:Int) l s.1 s.2 v j n c bv c 0 a bv bv N N bv;rw[show((0:Nat):Int)=0 from rfl,Int.add_zero]at e;rw[I8,eK bv,ba b,ob,ob,gw bv bv,o,e,ob];dsimp only;rw[bW bv,Gc l v r g k (i+1) _ bv (by rw[awl,aa7];omega) N m f bv,cN b,awF,awx]
def aiK{n g P:Nat}(x:1<=n)(y:n<=60)(z:1<=g)(A:g<=100)(B:1<=P)(C:P<=8){d:bh}(F:d.length<=200){s:Dm}(f:uw n g P s)(m:s.uv.length<=100000)(u:∀N,Fu+12<=N->Sb N ((n:Int),(g:Int),(P:Int),d)=some ((0:Int),s.arg g)){N:Nat}(E:Fu+13<=N):
 k9 N ((n:Int),(g:Int),(P:Int),d)=some (((s.uv.length:Nat):Int),0,s.uv.flatMap (Wx s.ts)):=by
 obtain⟨N,rfl⟩:=sC N 1;have D:=bJ;have l:IY N ((g:Int),(P:Int),d)=some true:=by
  obtain⟨N,rfl⟩:=sC N 1;rw[Er,eK bv,eK bv,eK bv,eK bv];simp only[av6,awJ];omega
 have h:Zm N (s.arg g)=some (s.uv.flatMap (MS s.ts)):=by
  obtain⟨N,rfl⟩:=sC N 1;have:=F_ s.ts (g:Int) s.dn s.dq s.ov ((s.uv.length:Nat):Int) s.idl s.uv m f.ev s.uv.length 0 [] bv d5 N N bv;rw[show((0:Nat):Int)=0 from rfl,awW,awL]at this;simp only[Dm.arg];rw[agW,this,ob]
 have j:(s.uv.flatMap (MS s.ts)).flatMap (λq=>DO q.1 q.2)=s.uv.flatMap (Wx s.ts):=by
  rw[List.flatMap_assoc];rw[show(λb=>(MS s.ts b).flatMap λq=>DO q.1 q.2)=Wx s.ts from funext λb=>adI s.ts b]
 have G:(s.uv.flatMap (Wx s.ts)).length<=60:=by
  have:=f.cr.job.pu.length_eq;rw[awl]at this;have e:(xc n).length=n:=by simp[xc]
  omega
 have p:(s.uv.flatMap (MS s.ts)).length<=100000:=by
  have:∀c:Do Ev,(c.flatMap (MS s.ts)).length<=c.length:=λc=>by
   induction c with
   |nil=>simp
   |cons b c H=>
    have:(MS s.ts b).length<=1:=by
     unfold MS;split
     .simp
     .split<;>simp
    rw[awF,awl,aws];omega
  have:=this s.uv;omega
 have o:∀q∈s.uv.flatMap (MS s.ts),0<=q.1/\q.1<=q.2/\q.2<=60:=λq a=>by
  obtain⟨b,_,a⟩:=axo.1 a;unfold MS at a;split at a
  .cases a
  .split at a
   next t r=>rw[awq.1 a];obtain⟨k,v,w,_⟩:=f.cr.job.tr.sh _ t r;exact⟨k,bv,by show t.2.1<=60;omega⟩
   .cases a
 have i:=Gc s.uv (s.uv.flatMap (MS s.ts)) p o (s.uv.flatMap (MS s.ts)).length 0 [] bv (by rw[awW,j,aw4,awB];omega) N N bv bv;rw[show((0:Nat):Int)=0 from rfl,awW,awL,j]at i;have e:=u N bv;simp only[Dm.arg]at e h;rw[Ex,dF bv,dF bv,l,ob];simp only[awj,av8];rw[dF bv,e,ob,DR rfl,h,ob,i,ob]
end Go.Proofs.YtillffjlojlhoaaGreatDoor.Sp
namespace Go.Proofs.YtillffjlojlhoaaGreatDoor
variable{a:Do bm}{b e:Nat}{g:Type}
section
open Go Go.RowKit Go.Sort
def aiL{s:Do g}{x:g}(h:b<s.length):(s.set b x).take (b+1)=s.take b++[x]:=by
 rw[azh,aA9];simp[h,axj (Nat.le_of_lt h),ayo,awM];omega
def set_drop{s:Do g}{x:g}(h:b<e):(s.set b x).drop e=s.drop e:=by
 rw[List.drop_set,av3 h]
def Dn{α β:Type}{F:Nat->Int->Int->Do α->At β}{keep:α->In}{fin:Int->Do α->β}(p:∀m i j s,F (m+1) i j s=if j<((s.length:Nat):Int)then(aW (aZ s j) λx=>if keep x=true then(aW (aZ s i) λ_=>F m (wZ (i+1)) (wZ (j+1)) (s.set i.toNat x))else F m i (wZ (j+1)) s)else some (fin i s)){a:Do α}(r:a.length<=100000):
 ∀(d m i j:Nat) (s:Do α),a.length - j<=d->d<m->j<=a.length->i<=j->s.length=a.length->s.take i=(a.take j).filter keep->s.drop j=a.drop j->∃(k:Nat) (g:Do α),F m (i:Int) (j:Int) s=some (fin (k:Int) g)/\k<=g.length/\g.length=a.length/\g.take k=a.filter keep
 |d,0,_,_,_,_,h,_,_,_,_,_=>absurd h bv
 |d,m+1,i,j,s,u,v,w,z,n,o,b=>by
  rw[p];by_cases c:j<a.length
  .obtain⟨x,e⟩:=get_at (xs:=a) (i:=j) c
   have q:s[j]? =some x:=by
    have:=awh (λl:Do α=>l[0]?) b;simpa[e]using this
   rw[av3 bv,ba q,ob];by_cases f:keep x=true
   .obtain⟨y,t⟩:=get_at (xs:=s) (i:=i) bv
    rw[av3 f,ba t,ob,bW bv,bW bv,av9];refine Dn p r (d - 1) m (i+1) (j+1) _ bv bv bv bv (by rw[axf];exact n) ?_ ?_
    .rw[bZ e,axs,<-o,aiL bv]
     simp[f]
    .rw[set_drop bv]
     rw[cN q,cN e]at b;exact(aAu b).2
   .rw[av2 f,bW bv]
    refine Dn p r (d - 1) m i (j+1) s bv bv bv bv n ?_ ?_
    .rw[bZ e,axs,o,List.filter_cons_of_neg f];simp
    .rw[cN q,cN e]at b
     exact(aAu b).2
  .rw[av2 bv]
   refine⟨i,s,rfl,bv,n,?_⟩;rw[o,awA bv]
def aa8{α β:Type}{s:Do α}(i:b<=s.length)(d:s≠[])(z:α)(g:Do α->At β):cond (((true && true) && true) && (!(oh s))) (aW (kj s (b:Int) ((s.length:Nat):Int)) λ_=>aW (ab0 s (b:Int) (((s.length:Nat):Int) - (b:Int)) z) λe=>aW (kj e (0:Int) (b:Int)) λf=>g f) none=g (s.take b):=by
 have a:oh s=false:=by cases s with
  |nil=>exact absurd rfl d
  |cons x l=>rfl
 have c:(Qt s b (((s.length:Nat):Int) - (b:Int)).toNat z).take b=s.take b:=by
  unfold Qt;rw[aAX (by rw[awM];omega),ayo,Nat.min_self]
 have h:b<=(Qt s b (((s.length:Nat):Int) - (b:Int)).toNat z).length:=by
  unfold Qt;rw[awl,awM];omega
 rw[a];simp only[Bool.and_self,axg,awv];rw[wO bv bv,ob];unfold ab0;rw[av3 ⟨bv,bv,bv⟩,ob,av9,wN bv bv,ob,av9,c]
def Ue{α β:Type}{F:Nat->Nat->At β}{keep:α->In}{s:Do α}{no:β}{yes:Nat->β}(o:∀m i x,i<s.length->s[i]? =some x->F (m+1) i=if keep x=true then F m (i+1)else some (yes i))(j:∀m,F (m+1) s.length=some no){m:Nat}(p:s.length<m):
 (F m 0=some no/\∀x∈s,keep x=true)\/∃(k:Nat) (x:α),F m 0=some (yes k)/\s[k]? =some x/\keep x=false/\∀y∈s.take k,keep y=true:=by
 obtain⟨b,e,l⟩:=lp (F:=λm k (_:Unit)=>F m k) (n:=s.length) (Q:=λb=>(b=no/\∀x∈s,keep x=true)\/∃(k:Nat) (x:α),b=yes k/\s[k]? =some x/\keep x=false/\∀y∈s.take k,keep y=true) (I:=λk _=>∀y∈s.take k,keep y=true) (λm k _ f c=>by
  obtain⟨x,d⟩:=get_at (xs:=s) (i:=k) f;rw[o m k x f d];cases g:keep x with
  |true=>
   refine .inl ⟨(),λy a=>?_,av3 rfl⟩;rw[bZ d]at a;rcases awc.1 a with a|a
   .exact c y a
   .rw[awq.1 a];exact g
  |false=>exact .inr ⟨_,av2 d6,.inr ⟨k,x,rfl,d,g,c⟩⟩) (λm _ c=>⟨_,j m,.inl ⟨rfl,by rw[awA (av5 _)]at c;exact c⟩⟩) (m:=m) (i:=0) (s:=()) bv bv d5
 rcases l with⟨rfl,h⟩|⟨k,x,rfl,h⟩
 .exact .inl ⟨e,h⟩
 .exact .inr ⟨k,x,e,h⟩
def Ge(h:HK)(e:Int×Int):In:= !(decide ((bN AE h e).getD 0=0))
def alJ(w:Fu+4<=b)(s:bh)(h:HK)(t:s.length<=100000):ala b (s,h)=some (s.filter (Ge h),h):=by
 obtain⟨b,rfl⟩:=sC b 3;have v:=bJ;have l:∀(M:Nat) (x:Int×Int),SM (M+1) (x.1,x.2,h)=some (!(Ge h x),h):=λM x=>by
  rw[aha];unfold Ge;rw[Bool.not_not]
 have f:=Ue (F:=λm k=>Ou (b+1) m (s,((s.length:Nat):Int),(k:Int),h)) (keep:=Ge h) (s:=s) (no:=.inl h) (yes:=λk=>.inr ((k:Int),h)) (λm i x f u=>by
  rw[SN,eK bv,ba u,ob,l,ob];simp only;cases Ge h x with
  |true=>rw[awj,av8,bW bv,av3 rfl]
  |false=>rw[axg,awv,av2 d6]) (λm=>by rw[SN,dF bv]) (m:=b+1) bv
 rw[zQ]at f;rw[alb,ak_];rcases f with⟨d,a⟩|⟨k,x,d,a,q,r⟩
 .rw[d,ob]
  simp only[ob];rw[eK trivial,azd.2 a]
 .have z:=Sp.cS a
  obtain⟨A,B,n,o,g,p⟩:=Dn (F:=λm i j s=>Jl (b+2) m (i,j,s,h)) (keep:=Ge h) (fin:=λi s=>(i,s,h)) (λm i j s=>by
   rw[ahh,cd];by_cases c:j<((s.length:Nat):Int)
   .rw[av3 c,av3 c]
    cases aZ s j with
    |none=>rfl
    |some x=>
     rw[ob,ob,ob,l,ob];simp only;cases Ge h x with
     |true=>
      rw[awj,axg,awv,av3 rfl];cases aZ s i with
      |none=>rfl
      |some y=>rw[ob,ob]
     |false=>rw[axg,awj,av8,av2 d6]
   .rw[av2 c,av2 c]) t s.length (b+2) k (k+1) s bv bv bv bv rfl (by rw[bZ a,axs,azd.2 r];simp[q]) rfl
  rw[d,ob];simp only[ob];rw[dF bv,bW bv,n,ob];simp only;rw[aa8 o (λe=>by rw[e]at g;simp at g;omega) ((0:Int),(0:Int)),p]
def aiM{s:Sc}(z v:g)(x:s.dp)(e:s.key=true):∀a:Do (s.dp×g),Vp (d_ s a x z) ((NH s a x:Nat):Int) v=some (d_ s a x v):=by
 have d:∀(l:Do (s.dp×g)) (k:Nat),Vp l (k:Int) v=(l[k]?).map λp=>l.set k (p.1,v):=λl k=>by
  unfold Vp;rw[av3 bv,av9]
 intro a
 induction a with
 |nil=>rw[d];rfl
 |cons p a b=>
  rw[d]at b⊢;simp only[d_,NH];cases jE s p.1 x with
  |true=>rfl
  |false=>
   simp only[av8];rw[axK];cases c:(d_ s a x z)[NH s a x]? with
   |none=>rw[c]at b;cases b
   |some q=>
    rw[c]at b;simp only[aw9,av6]at b⊢;rw[azs,b]
def Cn(m:HK)(k:Nat)(p:Int×Int->Prop):Prop:=∀e,0<=(bN AE m e).getD 0/\(bN AE m e).getD 0<=(k:Int)/\((bN AE m e).getD 0=0↔¬p e)
def Cn.put{m:HK}{p:Int×Int->Prop}(h:Cn m b p)(r:b<=100000)(x:Int×Int):Cn (d_ AE m x (wZ ((bN AE m x).getD 0+1))) (b+1) λe=>p e\/e=x:=λe=>by
 obtain⟨k,l,n⟩:=h x;rw[gw bv bv];have g:=T5 (s:=AE) rfl x e ((bN AE m x).getD 0+1) m;by_cases c:x=e
 .have:=g.1 c
  rw[this];refine⟨by show 0<=_+1;omega,by show _+1<=_;omega,λa=>?_,λa=>absurd (.inr c.symm) a⟩;have q:(bN AE m x).getD 0+1=0:=a;omega
 .have:=g.2 c
  obtain⟨i,o,f⟩:=h e;rw[this];refine⟨i,bv,λa d=>?_,λa=>f.2 λj=>a (.inl j)⟩;rcases d with d|d
  .exact f.1 a d
  .exact c d.symm
def aa9{N:Nat}(O:Fu+18<=N)(h:GR b a)(l:bh)(P:l.length<=10000):
 (Ez N ((b:Int),a,l)=some (10,[])/\¬∀x∈l,l5 (b:Int) x)\/∃q,Ez N ((b:Int),a,l)=some (0,q)/\(∀x∈l,l5 (b:Int) x)/\q.Sublist (bX a)/\∀e,e∈q↔e∈bX a/\e∈l.map dQ:=by
 obtain⟨N,rfl⟩:=sC N 1;have M:=bJ;have R:=h.len;obtain⟨d,u,G⟩:=lp (F:=λm k (s:HK)=>Cz N m (l,((l.length:Nat):Int),(k:Int),(b:Int),a,s)) (n:=l.length) (Q:=λd=>(d=.inr 10/\¬∀x∈l,l5 (b:Int) x)\/∃s,d=.inl ((b:Int),a,s)/\(∀x∈l,l5 (b:Int) x)/\Cn s l.length λe=>e∈l.map dQ)
  (I:=λk s=>Cn s k (λe=>e∈(l.take k).map dQ)/\∀x∈l.take k,l5 (b:Int) x) (λm k s C p=>by
   obtain⟨x,g⟩:=get_at (xs:=l) (i:=k) C;have v:=awg g;obtain⟨H,J⟩:=p;rw[Jm,eK bv,ba g,ob,(JZ x).1,(JZ x).2,cd];have t:l5 (b:Int) x↔¬(dQ x).1<0/\¬(b:Int)<=(dQ x).2:=by unfold l5 dQ;omega
   by_cases n:(dQ x).1<0
   .rw[av3 n];exact .inr ⟨_,rfl,.inl ⟨rfl,λh=>(t.1 (h x v)).1 n⟩⟩
   rw[av2 n,cd];by_cases o:(b:Int)<=(dQ x).2
   .rw[av3 o];exact .inr ⟨_,rfl,.inl ⟨rfl,λh=>(t.1 (h x v)).2 o⟩⟩
   rw[av2 o];refine .inl ⟨d_ AE s (dQ x) (wZ ((bN AE s (dQ x)).getD 0+1)),⟨?_,λy j=>?_⟩,?_⟩
   .have E:=H.put bv (dQ x)
    intro e;have r:(e∈(l.take k).map dQ\/e=dQ x)↔e∈(l.take (k+1)).map dQ:=by rw[bZ g,awQ,awc,List.map_singleton,awq]
    obtain⟨w,z,A⟩:=E e;exact⟨w,z,A.trans (not_congr r)⟩
   .rw[bZ g]at j
    rcases awc.1 j with j|j
    .exact J y j
    .rw[awq.1 j];exact t.2 ⟨n,o⟩
   .have r:=aiM (s:=AE) ((bN AE s (dQ x)).getD 0) (wZ ((bN AE s (dQ x)).getD 0+1)) (dQ x) rfl s
    have B:Vp (d_ AE s ((dQ x).1,(dQ x).2) ((bN AE s ((dQ x).1,(dQ x).2)).getD 0)) ((NH AE s ((dQ x).1,(dQ x).2):Nat):Int) (wZ ((bN AE s ((dQ x).1,(dQ x).2)).getD 0+1))=some (d_ AE s (dQ x) (wZ ((bN AE s (dQ x)).getD 0+1))):=r;rw[B,ob,bW bv]) (λm s p=>⟨_,by rw[Jm,dF bv],.inr ⟨s,rfl,by have f:=p.2;rw[awA (av5 _)]at f;exact f,by have f:=p.1;rw[awA (av5 _)]at f;exact f⟩⟩) (m:=N) (i:=0) (s:=[]) bv bv ⟨λe=>⟨axx _,axx _,λ_ h=>(by simp at h),λ_=>rfl⟩,λx g=>by simp at g⟩
 rw[zQ]at u;rw[ac3,h.right bv,ob];simp only[awj,av8];rw[u,ob];rcases G with⟨rfl,D⟩|⟨s,rfl,K,L⟩
 .exact .inl ⟨rfl,D⟩
 .simp only
  rw[yb bv h,ob,alJ bv _ _ (by simp[bX];omega),ob];refine .inr ⟨_,rfl,K,aA_,λe=>?_⟩;rw[axp];have:=(L e).2.2;unfold Ge;rw[axi,decide_eq_false_iff_not];by_cases c:e∈l.map dQ
  .exact⟨λh=>⟨h.1,c⟩,λh=>⟨h.1,λf=>this.1 f c⟩⟩
  .exact⟨λh=>absurd (this.2 c) h.2,λh=>absurd h.2 c⟩
end
def Jd(l:bu)(x y:Nat):Prop:=∀f:Nat->Nat,(∀e∈l,f e.1=f e.2)->f x=f y
section
variable{l m:bu}{e:Nat×Nat}{x y z n:Nat}
def Jd.refl:Jd l x x:=λf _=>rfl
def Jd.symm(h:Jd l x y):Jd l y x:=λf a=>(h f a).symm
def Jd.trans(h:Jd l x y)(k:Jd l y z):Jd l x z:=λf a=>(h f a).trans (k f a)
def Jd.ed(h:e∈l):Jd l e.1 e.2:=λf a=>a e h
def Jd.mono(h:Jd l x y)(c:∀e∈l,Jd m e.1 e.2):Jd m x y:=λf b=>h f λe a=>c e a f b
def Jd.sub(h:Jd l x y)(b:∀e∈l,e∈m):Jd m x y:=h.mono λe a=>Jd.ed (b e a)
def ll(a:fe n l)(c:x<n)(d:y<n):Jd l x y↔jH l x=jH l y:=
 ⟨λh=>h (jH l) (qP l a).ed,λh f b=>by rw[<-(qP l a).uni f b x c,h,(qP l a).uni f b y d]⟩
def Jd.cons(a:fe n l)(f:x<n)(g:y<n)(i:e.1<n)(j:e.2<n)(h:Jd (e::l) x y):Jd l x y\/(Jd l x e.1/\Jd l e.2 y)\/(Jd l x e.2/\Jd l e.1 y):=by
 have k:=qP l a;have b:=h (jn (jH l) e.1 e.2) λd c=>by
  rcases awr.1 c with rfl|c
  .unfold jn
   split
   .split
    .rfl
    .omega
   .split
    .omega
    .omega
  .unfold jn
   rw[k.ed d c]
 rw[ll a f g,ll a f i,ll a j g,ll a f j,ll a i g];unfold jn at b;split at b
 .split at b
  .omega
  .omega
 .split at b
  .omega
  .omega
def Ac(n:Nat)(l:bu):Prop:=JF n (jH l)+l.length=n
def Ac.perm(b:fe n l)(h:Ac n l)(a:l.Perm m):Ac n m:=by
 unfold Ac at h⊢;rw[<-TG b λe=>a.mem_iff,<-a.length_eq];exact h
def O1(b:fe n (e::l)):Ac n (e::l)↔Ac n l/\¬Jd l e.1 e.2:=by
 have g:fe n (l++[e]):=λd a=>b d (by simp at a⊢;rcases a with h|h<;>simp[h]);have i:fe n l:=λd a=>b d (by simp[a]);have j:=b e d5;have f:=C1 g;have k:=TG g (m:=e::l) λd=>by simp[or_comm]
 have o:=ao_ l i;unfold Ac;rw[ll i j.1 j.2,<-k,aws];by_cases q:jI l e=true
 .have c:¬jH l e.1=jH l e.2:=by simpa[jI]using q
  rw[av3 q]at f;constructor
  .exactλh=>⟨bv,c⟩
  .exactλh=>by have:=h.1;omega
 .have c:jH l e.1=jH l e.2:=by simpa[jI]using q
  rw[av2 q]at f;constructor
  .exactλh=>by omega
  .exactλh=>absurd c h.2
end
variable{c:Int}
abbrev eN(t:bm):Nat×Nat:=(t.1.toNat,t.2.1.toNat)
def TK(ts:Do bm)(k:Int):bu:=(ts.filter λt=>t.2.2.2 && decide (k<=t.2.2.1)).map eN
def jL{ts:Do bm}{e:Nat×Nat}:e∈TK ts c↔∃t∈ts,t.2.2.2=true/\c<=t.2.2.1/\eN t=e:=by
 unfold TK;simp only[awe,axp,av4,awJ];constructor
 .rintro⟨t,⟨b,d,f⟩,g⟩;exact⟨t,b,d,f,g⟩
 .rintro⟨t,b,d,f,g⟩;exact⟨t,⟨b,d,f⟩,g⟩
def Dp{ts:Do bm}{k j:Int}(h:k<=j):∀e∈TK ts j,e∈TK ts k:=λe f=>by
 obtain⟨t,b,c,g,d⟩:=jL.1 f;exact jL.2 ⟨t,b,c,bv,d⟩
def lL{n:Nat}{ts:Do bm}(h:∀t∈ts,dM n t)(k:Int):fe n (TK ts k):=λe d=>by
 obtain⟨t,b,f,g,c⟩:=jL.1 d;have:=h t b;unfold dM at this;subst c;simp only;omega
def upT(n:Nat)(t:bm):bm:=(t.1,t.2.1,min (gT n:Int) (t.2.2.1+1),t.2.2.2)
structure Dq(n:Nat)(A:Nat->Prop)(a:Int)(t t':bm):Prop where
 go:t'=t/\(t.2.2.1=a->t.2.2.2=true->¬(A t.1.toNat/\A t.2.1.toNat))\/t'=upT n t/\t.2.2.1=a/\A t.1.toNat/\A t.2.1.toNat
structure Mid(n:Nat)(ts:List bm)(u v:Nat)(a:Int):Prop where
 ok:∀t∈ts,dM n t
 ac:Ac n (TK ts 0)
 ap:¬Jd (TK ts 0) u v
 hi:∀t∈ts,t.2.2.2=false->a<t.2.2.1->Jd (TK ts t.2.2.1) t.1.toNat t.2.1.toNat
 lo:∀t∈ts,t.2.2.2=false->t.2.2.1<=a->Jd ((u,v)::TK ts t.2.2.1) t.1.toNat t.2.1.toNat
def Ly(ts:Do bm):Prop:=∀t∈ts,t.2.2.2=false->Jd (TK ts t.2.2.1) t.1.toNat t.2.1.toNat
section
variable{n:Nat}{ts jl:Do bm}{A:Nat->Prop}{a:Int}{u v w w':Nat}
def asl{t:bm}(h:dM n t):dM n (upT n t):=by
 unfold dM upT at*;simp only;omega
def Prs(ts jl:Do bm)(R:bm->bm->Prop):Prop:=(∀b∈jl,∃t∈ts,R t b)/\∀t∈ts,∃b∈jl,R t b
def adK(h:Prs ts jl (Dq n A a))(o:a<(gT n:Int)\/a=(gT n:Int)):∀e∈TK ts c,e∈TK jl c:=λe l=>by
 obtain⟨t,j,d,k,f⟩:=jL.1 l;obtain⟨p,b,g⟩:=h.2 t j;rcases g.go with⟨rfl,_⟩|⟨rfl,m,_⟩
 .exact jL.2 ⟨_,b,d,k,f⟩
 .exact jL.2 ⟨_,b,d,by show c<=min _ _;omega,f⟩
def aa_(h:Prs ts jl (Dq n A a))(C:a<(gT n:Int))(d:∀b,A b↔Jd (TK ts a) w b)(p:A b):Jd (TK jl (a+1)) w b:=by
 classical
 intro f o;have:=(d b).1 p (λz=>if A z then f z else f w) λe j=>by
  have g:A e.1↔A e.2:=by
   rw[d,d];exact⟨λh=>h.trans (Jd.ed j),λh=>h.trans (Jd.ed j).symm⟩
  by_cases c:A e.1
  .simp only[av3 c,av3 (g.1 c)]
   obtain⟨t,x,k,D,y⟩:=jL.1 j;obtain⟨B,l,q⟩:=h.2 t x;subst y;rcases q.go with⟨rfl,m⟩|⟨rfl,m,_⟩
   .refine o _ (jL.2 ⟨_,l,k,?_,rfl⟩)
    by_cases s:B.2.2.1=a
    .exact absurd ⟨c,g.1 c⟩ (m s k)
    .omega
   .exact o (eN t) (jL.2 ⟨_,l,k,by show a+1<=min _ _;omega,rfl⟩)
  .simp only[av2 c,av2 (λr=>c (g.2 r))]
 simp only[av3 p,av3 ((d w).2 Jd.refl)]at this;exact this
end
def Pw(R:bm->bm->Prop):Do bm->Do bm->Prop
 |[],[]=>True
 |t::ts,b::jl=>R t b/\Pw R ts jl
 |_,_=>False
def Pw.prs{R:bm->bm->Prop}:∀{ts jl:Do bm},Pw R ts jl->Prs ts jl R
 |[],[],_=>⟨(λt h=>by cases h),(λt h=>by cases h)⟩
 |t::ts,f::jl,h=>by
  have e:=Pw.prs h.2;refine⟨λx b=>?_,λx b=>?_⟩
  .rcases awr.1 b with rfl|b
   .exact⟨t,d5,h.1⟩
   .obtain⟨y,c,d⟩:=e.1 x b;exact⟨y,by simp[c],d⟩
  .rcases awr.1 b with rfl|b
   .exact⟨f,d5,h.1⟩
   .obtain⟨y,c,d⟩:=e.2 x b;exact⟨y,by simp[c],d⟩
 |[],_::_,h=>h.elim
 |_::_,[],h=>h.elim
def Pw.tk{R:bm->bm->Prop}{k:Int}(f:∀t b,R t b->eN b=eN t/\b.2.2.2=t.2.2.2/\(k<=b.2.2.1↔k<=t.2.2.1)):∀{ts jl:Do bm},Pw R ts jl->TK jl k=TK ts k
 |[],[],_=>rfl
 |t::ts,b::jl,h=>by
  have d:=Pw.tk f h.2;obtain⟨g,j,e⟩:=f t b h.1;unfold TK at d⊢;rw[axa,axa,j];by_cases c:k<=t.2.2.1
  .rw[awu c,awu (e.2 c)]
   split
   .rw[awo,awo,d,g]
   .exact d
  .rw[awz c,awz (λh=>c (e.1 h))]
   simp only[Bool.and_false,axE,aw1];exact d
 |[],_::_,h=>h.elim
 |_::_,[],h=>h.elim
def Dq.lv{n:Nat}{A:Nat->Prop}{a k:Int}{t b:bm}(h:Dq n A a t b)(e:a<=(gT n:Int))(d:k<=a):eN b=eN t/\b.2.2.2=t.2.2.2/\(k<=b.2.2.1↔k<=t.2.2.1):=by
 rcases h.go with⟨rfl,_⟩|⟨rfl,c,_⟩
 .exact⟨rfl,rfl,axU⟩
 .refine⟨rfl,rfl,?_⟩
  show k<=min _ _↔_;omega
section
variable{n:Nat}{ts jl:Do bm}{A:Nat->Prop}{a:Int}{u v w w':Nat}
def Ends(u v w w':Nat):Prop:=(w=u/\w'=v)\/(w=v/\w'=u)
def aba(p:Mid n ts u v a)(h:Pw (Dq n A a) ts jl)(z:a<=(gT n:Int))(d:∀x,A x↔Jd (TK ts a) w x):∀b∈jl,b.2.2.2=false->a<b.2.2.1->Jd (TK jl b.2.2.1) b.1.toNat b.2.1.toNat:=λb s q f=>by
 have c:=h.prs;have r:∀{k:Int},∀e∈TK ts k,e∈TK jl k:=adK c bv;obtain⟨t,j,l⟩:=c.1 b s;rcases l.go with⟨rfl,_⟩|⟨rfl,y,m,o⟩
 .exact(p.hi _ j q f).sub r
 .have B:a<min (gT n:Int) (t.2.2.1+1):=f
  have g:(upT n t).2.2.1=a+1:=by show min _ _=_;omega
  rw[g];exact(aa_ c bv d m).symm.trans (aa_ c bv d o)
def aiN(c:Mid n ts u v a)(h:Pw (Dq n A a) ts jl):∀t∈jl,dM n t:=λf e=>by
 obtain⟨t,b,d⟩:=h.prs.1 f e;rcases d.go with⟨rfl,_⟩|⟨rfl,_⟩
 .exact c.ok _ b
 .exact asl (c.ok _ b)
def Dr(b:Mid n ts u v a){t:bm}(h:t∈ts):t.1.toNat<n/\t.2.1.toNat<n:=by
 have:=b.ok t h;unfold dM at this;omega
def alL(d:Mid n ts u v a)(z:0<=a)(B:a<=(gT n:Int))(L:u<n)(M:v<n)(E:Ends u v w w')(c:∀x,A x↔Jd (TK ts a) w x)
 (h:Pw (λt b=>Dq n A a t b/\(t.2.2.1=a->t.2.2.2=false->(A t.1.toNat↔A t.2.1.toNat))) ts jl):Mid n jl u v (a - 1):=by
 have r:Pw (Dq n A a) ts jl:=by
  have:∀{ts jl:Do bm},Pw (λt b=>Dq n A a t b/\(t.2.2.1=a->t.2.2.2=false->(A t.1.toNat↔A t.2.1.toNat))) ts jl->Pw (Dq n A a) ts jl:=by
   intro ts
   induction ts with
   |nil=>intro jl h;cases jl with
    |nil=>trivial
    |cons _ _=>exact h.elim
   |cons t ts N=>intro jl h;cases jl with
    |nil=>exact h.elim
    |cons b jl=>exact⟨h.1.1,N h.2⟩
  exact this h
 have e:∀{k:Int},k<=a->TK jl k=TK ts k:=λe=>r.tk λt b g=>g.lv B e;have K:=lL d.ok a;refine⟨aiN d r,by rw[e z];exact d.ac,by rw[e z];exact d.ap,λb o j C=>?_,λb o j C=>?_⟩
 .by_cases J:a<b.2.2.1
  .exact aba d r B c b o j J
  .have m:b.2.2.1=a:=bv
   rw[m,e (axx a)];obtain⟨t,l,p,y⟩:=h.prs.1 b o;rcases p.go with⟨rfl,_⟩|⟨rfl,G,H,I⟩
   .have s:=y m j
    have F:=Dr d l;have D:=d.lo _ l j bv;rw[m]at D;by_cases fj:A b.1.toNat
    .exact((c _).1 fj).symm.trans ((c _).1 (s.1 fj))
    .rcases Jd.cons K F.1 F.2 L M D with f|⟨f,q⟩|⟨f,q⟩
     .exact f
     .exfalso
      rcases E with⟨rfl,rfl⟩|⟨rfl,rfl⟩
      .exact fj ((c _).2 f.symm)
      .exact fj (s.2 ((c _).2 q))
     .exfalso
      rcases E with⟨rfl,rfl⟩|⟨rfl,rfl⟩
      .exact fj (s.2 ((c _).2 q))
      .exact fj ((c _).2 f.symm)
   .exact((c _).1 H).symm.trans ((c _).1 I)
 .obtain⟨t,l,p,y⟩:=h.prs.1 b o
  rcases p.go with⟨rfl,_⟩|⟨rfl,G,_⟩
  .rw[e bv]
   exact d.lo _ l j bv
  .exfalso
   have m:min (gT n:Int) (t.2.2.1+1)<=a - 1:=C;omega
end
def qR{a b:Do bm}:TK (a++b) c=TK a c++TK b c:=by
 unfold TK;rw[axs,awQ]
def tF{t:bm}:TK [t] c=if t.2.2.2=true/\c<=t.2.2.1 then [eN t]else []:=by
 unfold TK;rw[axa];by_cases b:t.2.2.2=true/\c<=t.2.2.1
 .rw[av3 b,av3 (by simp[b])];rfl
 .rw[av2 b,av2 (by simpa using b)];rfl
def Ak{ts:Do bm}{i:Nat}{t:bm}(h:ts[i]? =some t):TK ts c=TK (ts.take i) c++(TK [t] c++TK (ts.drop (i+1)) c):=by
 rw[<-qR,<-qR,axn,<-cN h,axw]
def O2{ts:Do bm}{i:Nat}{t y:bm}(h:ts[i]? =some t):TK (ts.set i y) c=TK (ts.take i) c++(TK [y] c++TK (ts.drop (i+1)) c):=by
 rw[<-qR,<-qR,axn,aA9,av3 (Sp.cS h)]
section
variable{n:Nat}{ts J8:Do bm}{A:Nat->Prop}{a:Int}{u v w w' i:Nat}{t:bm}
def aiO(d:Mid n ts u v a)(B:0<=a)(H:a<=(gT n:Int))(Y:u<n)(Z:v<n)(hw:Ends u v w w')(o:∀x,A x↔Jd (TK ts a) w x)(h:Pw (Dq n A a) ts J8)
 (s:J8[i]? =some t) (D:t∈ts) (V:t.2.2.1=a) (I:t.2.2.2=false) (f:¬(A t.1.toNat↔A t.2.1.toNat)):(∀x∈J8.set i (t.1,t.2.1,t.2.2.1,true),dM n x)/\Ac n (TK (J8.set i (t.1,t.2.1,t.2.2.1,true)) 0)/\Ly (J8.set i (t.1,t.2.1,t.2.2.1,true)):=by
 have p:∀{k:Int},k<=a->TK J8 k=TK ts k:=λp=>h.tk λt t' g=>g.lv H p;have U:=lL d.ok a;have E:=Dr d D;have X:=aiN d h;have K:=d.lo _ D I bv;rw[V]at K;have J:∀l:bu,(∀e∈TK ts a,e∈l)->(Jd l t.1.toNat t.2.1.toNat↔Jd l u v):=λl m=>by
  rcases Jd.cons U E.1 E.2 Y Z K with j|⟨j,r⟩|⟨j,r⟩
  .exact absurd ⟨λq=>(o _).2 (((o _).1 q).trans j),λq=>(o _).2 (((o _).1 q).trans j.symm)⟩ f
  .exact⟨λq=>((j.sub m).symm.trans q).trans (r.sub m).symm,λq=>((j.sub m).trans q).trans (r.sub m)⟩
  .exact⟨λq=>((r.sub m).trans q.symm).trans (j.sub m),λq=>((j.sub m).trans q.symm).trans (r.sub m)⟩
 have N:∀k:Int,TK [t] k=[]:=λk=>by rw[tF,av2 (by simp[I])]
 have L:∀k:Int,k<=a->(eN t::TK J8 k).Perm (TK (J8.set i (t.1,t.2.1,t.2.2.1,true)) k):=λk C=>by
  rw[O2 s,Ak s,N,tF,av3 ⟨rfl,by simp only;omega⟩];exact aAB.symm
 have z:∀{k:Int},∀e∈TK J8 k,e∈TK (J8.set i (t.1,t.2.1,t.2.2.1,true)) k:=λe b=>by
  rw[Ak s,N]at b;rw[O2 s];simp only[awL,awc]at b⊢;rcases b with b|b
  .exact .inl b
  .exact .inr (.inr b)
 have W:∀k:Int,k<=a->Jd (TK (J8.set i (t.1,t.2.1,t.2.2.1,true)) k) u v:=λk C=>by
  refine(J _ λe b=>z e ?_).1 ?_
  .exact Dp C e (by rw[p (axx a)];exact b)
  .exact Jd.ed (l:=TK (J8.set i (t.1,t.2.1,t.2.2.1,true)) k) (((L k C).mem_iff (a:=eN t)).1 (awr.2 (.inl rfl)))
 refine⟨λx f=>?_,?_,λx f F=>?_⟩
 .rcases ayj f with f|rfl
  .exact X x f
  .have:=d.ok _ D
   unfold dM at*;exact this
 .have G:fe n (eN t::TK ts 0):=λe b=>by
   rcases awr.1 b with rfl|b
   .exact E
   .exact lL d.ok 0 e b
  have M:=L 0 B;rw[p B]at M;refine Ac.perm G ((O1 G).2 ⟨d.ac,λq=>d.ap ?_⟩) M;exact(J _ (Dp B)).1 q
 .rcases ayj f with f|rfl
  .by_cases c:a<x.2.2.1
   .exact(aba d h H o x f F c).sub z
   .obtain⟨y,O,P⟩:=h.prs.1 x f
    rcases P.go with⟨rfl,_⟩|⟨rfl,g4,Q,R⟩
    .refine(d.lo _ O F bv).mono λe b=>?_
     rcases awr.1 b with rfl|b
     .exact W _ bv
     .exact Jd.ed (z e (by rw[p bv];exact b))
    .have S:(upT n y).2.2.1<=a:=bv
     refine Jd.sub (l:=TK J8 a) ?_ λe b=>Dp S e (z e b);rw[p (axx a)];exact((o _).1 Q).symm.trans ((o _).1 R)
  .cases F
def aiP(m:∀t∈ts,dM n t)(q:Ac n (TK ts 0))(l:Ly ts)(j:ts[i]? =some t):(t.2.2.2=false->Ac n (TK (ts.take i++ts.drop (i+1)) 0)/\Ly (ts.take i++ts.drop (i+1)))/\
 (t.2.2.2=true->Mid n (ts.take i++ts.drop (i+1)) t.1.toNat t.2.1.toNat t.2.2.1):=by
 have f:∀x∈ts.take i++ts.drop (i+1),x∈ts:=λx b=>by
  rcases awc.1 b with b|b
  .exact ax0 b
  .exact ayC b
 have r:∀k:Int,¬(t.2.2.2=true/\k<=t.2.2.1)->TK (ts.take i++ts.drop (i+1)) k=TK ts k:=λk h=>by
  rw[qR,Ak j,tF,av2 h,awL]
 have z:∀k:Int,(t.2.2.2=true/\k<=t.2.2.1)->(TK ts k).Perm (eN t::TK (ts.take i++ts.drop (i+1)) k):=λk h=>by
  rw[qR,Ak j,tF,av3 h];exact aAB
 constructor
 .intro d
  have s:∀k:Int,TK (ts.take i++ts.drop (i+1)) k=TK ts k:=λk=>r k (by simp[d]);exact⟨by rw[s];exact q,λx b c=>by rw[s];exact l x (f x b) c⟩
 .intro d
  have C:=m t (awg j);unfold dM at C;have o:=lL m 0;have B:=z 0 ⟨d,bv⟩;have p:=(O1 λe g=>o e (B.mem_iff.2 g)).1 (q.perm o B);refine⟨λx b=>m x (f x b),p.1,p.2,λx b c y=>?_,λx b c y=>?_⟩
  .rw[r _ bv];exact l x (f x b) c
  .exact(l x (f x b) c).sub λe g=>(z _ ⟨d,y⟩).mem_iff.1 g
def alM(h:Mid n ts u v (-1)):Ly ts:=λt b c=>by
 have:=h.ok t b;unfold dM at this;exact h.hi t b c bv
end
noncomputable def nP(n:Nat)(p:Nat->Prop):Nat:=(List.range n).countP λy=> @decide (p y) (Classical.propDecidable _)
def apm{l:a_}{p q r:Nat->In}(b:∀x∈l,p x=true->r x=true)(c:∀x∈l,q x=true->r x=true)(d:∀x∈l,¬(p x=true/\q x=true)):l.countP p+l.countP q<=l.countP r:=by
 induction l with
 |nil=>simp
 |cons a l e=>
  have e:=e (λx h=>b x (by simp[h])) (λx h=>c x (by simp[h])) (λx h=>d x (by simp[h]));have f:=b a d5;have g:=c a d5;have j:=d a d5;rw[ayh,ayh,ayh];cases k:p a<;>cases m:q a<;>cases o:r a<;>simp_all<;>omega
def asm{l:a_}{p q r:Nat->In}(h:∀x∈l,r x=true->p x=true\/q x=true):l.countP r<=l.countP p+l.countP q:=by
 induction l with
 |nil=>simp
 |cons a l b=>
  have b:=b (λx c=>h x (by simp[c]));have d:=h a d5;rw[ayh,ayh,ayh];cases e:p a<;>cases f:q a<;>cases g:r a<;>simp_all<;>omega
section
variable{n:Nat}{p q r:Nat->Prop}
def tG(h:∀y,y<n->p y->q y):nP n p<=nP n q:=
 aBa λx b=>by
  simp only[awJ];exact h x (awE.1 b)
def apn(c:∀y,y<n->p y->r y)(d:∀y,y<n->q y->r y)(e:∀y,y<n->p y->¬q y):nP n p+nP n q<=nP n r:=
 apm (λx b=>by simp only[awJ];exact c x (awE.1 b)) (λx b=>by simp only[awJ];exact d x (awE.1 b)) λx b=>by
  simp only[awJ];exactλh=>e x (awE.1 b) h.1 h.2
def asn(h:∀y,y<n->r y->p y\/q y):nP n r<=nP n p+nP n q:=
 asm λx b=>by simp only[awJ];exact h x (awE.1 b)
def aiQ(c:b<n)(h:p b):1<=nP n p:=by
 unfold nP;exact aAz.2 ⟨b,awE.2 c, @awu _ (Classical.propDecidable _) h⟩
end
def Hv(n:Nat)(ts:Do bm):Prop:=∀k:Nat,k<=gT n->∀x,x<n->nP n (Jd (TK ts k) x)<=max 1 (n/2^k)
def Hm(n:Nat)(ts:Do bm)(u v:Nat)(a:Int):Prop:=Hv n ts/\∀k:Nat,(k:Int)<=a->nP n (Jd (TK ts k) u)+nP n (Jd (TK ts k) v)<=n/2^k
section
variable{n:Nat}{ts jl J8:Do bm}{A:Nat->Prop}{a:Int}{u v w w' i:Nat}{t:bm}
def Hv.sub(h:Hv n ts)(d:∀k:Nat,k<=gT n->∀e∈TK jl k,e∈TK ts k):Hv n jl:=λk b x f=>
 awH (tG λy _ c=>c.sub (d k b)) (h k b x f)
def abb(l:Hv n ts)(f:ts[i]? =some t):Hv n (ts.take i++ts.drop (i+1))/\(t.2.2.2=true->t.2.2.1<=(gT n:Int)->t.1.toNat<n->t.2.1.toNat<n->¬Jd (TK (ts.take i++ts.drop (i+1)) 0) t.1.toNat t.2.1.toNat->Hm n (ts.take i++ts.drop (i+1)) t.1.toNat t.2.1.toNat t.2.2.1):=by
 have c:∀k:Int,∀e∈TK (ts.take i++ts.drop (i+1)) k,e∈TK ts k:=λk e b=>by
  rw[qR]at b;rw[Ak f];simp only[awc]at b⊢;rcases b with b|b
  .exact .inl b
  .exact .inr (.inr b)
 have d:Hv n (ts.take i++ts.drop (i+1)):=l.sub λk _=>c k;refine⟨d,λs G j B m=>⟨d,λk z=>?_⟩⟩;have o:¬Jd (TK (ts.take i++ts.drop (i+1)) k) t.1.toNat t.2.1.toNat:=λq=>m (q.sub (Dp bv));have x:Jd (TK ts k) t.1.toNat t.2.1.toNat:=Jd.ed (e:=eN t) (jL.2 ⟨t,awg f,s,z,rfl⟩);have C:=apn (n:=n) (p:=Jd (TK (ts.take i++ts.drop (i+1)) k) t.1.toNat) (q:=Jd (TK (ts.take i++ts.drop (i+1)) k) t.2.1.toNat) (r:=Jd (TK ts k) t.1.toNat) (λy _ h=>h.sub (c k)) (λy _ h=>x.trans (h.sub (c k))) (λy _ h g=>o (h.trans g.symm));have D:=l k bv _ j;have E:=aiQ (p:=Jd (TK (ts.take i++ts.drop (i+1)) k) t.1.toNat) j Jd.refl;have F:=aiQ (p:=Jd (TK (ts.take i++ts.drop (i+1)) k) t.2.1.toNat) B Jd.refl;omega
def aiR(C:Hm n ts u v a)(W:0<=a)(M:a<=(gT n:Int))(I:∀x,A x↔Jd (TK ts a) w x)(a0:2*nP n A<=nP n (Jd (TK ts a) u)+nP n (Jd (TK ts a) v))(h:Pw (Dq n A a) ts jl):Hv n jl:=by
 obtain⟨b,rfl⟩:=nN a;have O:∀{k:Int},k<=(b:Int)->TK jl k=TK ts k:=λB=>h.tk λt L g=>g.lv M B;intro k B x F;by_cases c:k<=b
 .rw[O bv];exact C.1 k B x F
 have P:=h.prs;have E:∀e∈TK jl (k:Int),e∈TK ts (k:Int)\/(k=b+1/\A e.1/\A e.2):=λe l=>by
  obtain⟨L,m,o,G,H⟩:=jL.1 l;obtain⟨t,Q,R⟩:=P.1 L m;rcases R.go with⟨rfl,_⟩|⟨rfl,q3,S,U⟩
  .exact .inl (jL.2 ⟨_,Q,o,G,H⟩)
  .have V:(k:Int)<=min (gT n:Int) (t.2.2.1+1):=G
   subst H;exact .inr ⟨bv,S,U⟩
 have D:∀e∈TK ts (k:Int),A e.1↔A e.2:=λe l=>by
  have J:=Dp (ts:=ts) (k:=(b:Int)) (j:=(k:Int)) bv e l;rw[I,I];exact⟨λq=>q.trans (Jd.ed J),λq=>q.trans (Jd.ed J).symm⟩
 by_cases d:k=b+1
 .subst d
  by_cases K:A x
  .have X:nP n (Jd (TK jl ((b+1:Nat):Int)) x)<=nP n A:=tG λy _ s=>by
    have:=s (λz=> @ite _ (A z) (Classical.propDecidable _) 0 1) λe l=>by
     rcases E e l with l|⟨_,m,o⟩
     .by_cases g:A e.1
      .simp only[av3 g,av3 ((D e l).1 g)]
      .simp only[av2 g,av2 (λq=>g ((D e l).2 q))]
     .simp only[av3 m,av3 o]
    simp only[av3 K]at this;by_cases g:A y
    .exact g
    .rw[av2 g]at this;omega
   have Y:=C.2 b (axx _);have Z:n/2^(b+1)=n/2^b/2:=by rw[aAD,aBb]
   omega
  .refine awH (tG λy _ s=>?_) (C.1 (b+1) B x F)
   intro f N;have:=s (λz=> @ite _ (A z) (Classical.propDecidable _) 0 (f z+1)) λe l=>by
    rcases E e l with l|⟨_,m,o⟩
    .by_cases g:A e.1
     .simp only[av3 g,av3 ((D e l).1 g)]
     .simp only[av2 g,av2 (λq=>g ((D e l).2 q)),N e l]
    .simp only[av3 m,av3 o]
   simp only[av2 K]at this;by_cases g:A y
   .rw[av3 g]at this;omega
   .rw[av2 g]at this;omega
 .exact awH (tG λy _ s=>s.sub λe l=>(E e l).resolve_right λq=>d q.1) (C.1 k B x F)
def aso(b:Hm n ts u v a)(d:0<=a)(c:a<=(gT n:Int))(e:∀x,A x↔Jd (TK ts a) w x)(f:2*nP n A<=nP n (Jd (TK ts a) u)+nP n (Jd (TK ts a) v))(h:Pw (Dq n A a) ts jl):Hm n jl u v (a - 1):=by
 refine⟨aiR b d c e f h,λk j=>?_⟩;rw[h.tk λt l g=>g.lv c (show(k:Int)<=a by omega)];exact b.2 k bv
def apo(B:Mid n ts u v a)(G:Hm n ts u v a)(R:0<=a)(K:a<=(gT n:Int))(Y:u<n)(Z:v<n)(o:∀x,A x↔Jd (TK ts a) w x)(X:2*nP n A<=nP n (Jd (TK ts a) u)+nP n (Jd (TK ts a) v))(h:Pw (Dq n A a) ts J8)
 (C:J8[i]? =some t) (P:t∈ts) (V:t.2.2.1=a) (H:t.2.2.2=false) (hx:¬(A t.1.toNat↔A t.2.1.toNat)):Hv n (J8.set i (t.1,t.2.1,t.2.2.1,true)):=by
 have I:∀{k:Int},k<=a->TK J8 k=TK ts k:=λI=>h.tk λt t' g=>g.lv K I;have a0:=aiR G R K o X h;have S:=lL B.ok a;have E:=Dr B P;have O:=B.lo _ P H bv;rw[V]at O;have t1:∀k:Int,TK [t] k=[]:=λk=>by rw[tF,av2 (by simp[H])]
 intro k N x J;by_cases c:(k:Int)<=a
 .have W:∀e,e∈TK (J8.set i (t.1,t.2.1,t.2.2.1,true)) (k:Int)->e∈eN t::TK ts (k:Int):=λe b=>by
   rw[<-I c,Ak C,t1];rw[O2 C,tF,av3 ⟨rfl,by simp only;omega⟩]at b;simp only[awc,awr,awL,aAv,or_false]at b⊢;rcases b with b|b|b
   .exact .inr (.inl b)
   .exact .inl b
   .exact .inr (.inr b)
  have U:=lL B.ok (k:Int);have D:=Dp (ts:=ts) c;have M:(Jd (TK ts k) t.1.toNat u/\Jd (TK ts k) v t.2.1.toNat)\/(Jd (TK ts k) t.1.toNat v/\Jd (TK ts k) u t.2.1.toNat):=by
   rcases Jd.cons S E.1 E.2 Y Z O with j|⟨j,F⟩|⟨j,F⟩
   .exact absurd ⟨λq=>(o _).2 (((o _).1 q).trans j),λq=>(o _).2 (((o _).1 q).trans j.symm)⟩ hx
   .exact .inl ⟨j.sub D,F.sub D⟩
   .exact .inr ⟨j.sub D,F.sub D⟩
  have a1:=G.2 k c;have Q:∀y,y<n->Jd (TK (J8.set i (t.1,t.2.1,t.2.2.1,true)) (k:Int)) x y->Jd (TK ts (k:Int)) x y\/((Jd (TK ts (k:Int)) u x\/Jd (TK ts (k:Int)) v x)/\(Jd (TK ts (k:Int)) u y\/Jd (TK ts (k:Int)) v y)):=λy z s=>by
   rcases Jd.cons (e:=eN t) U J z E.1 E.2 (s.sub W)with g|⟨l,m⟩|⟨l,m⟩
   .exact .inl g
   .rcases M with⟨d,f⟩|⟨d,f⟩
    .exact .inr ⟨.inl (l.trans d).symm,.inr (f.trans m)⟩
    .exact .inr ⟨.inr (l.trans d).symm,.inl (f.trans m)⟩
   .rcases M with⟨d,f⟩|⟨d,f⟩
    .exact .inr ⟨.inr (f.trans l.symm),.inl (d.symm.trans m)⟩
    .exact .inr ⟨.inl (f.trans l.symm),.inr (d.symm.trans m)⟩
  by_cases L:Jd (TK ts (k:Int)) u x\/Jd (TK ts (k:Int)) v x
  .have h1:nP n (Jd (TK (J8.set i (t.1,t.2.1,t.2.2.1,true)) (k:Int)) x)<=nP n (Jd (TK ts k) u)+nP n (Jd (TK ts k) v):=asn λy z s=>by
    rcases Q y z s with g|⟨_,g⟩
    .rcases L with q|q
     .exact .inl (q.trans g)
     .exact .inr (q.trans g)
    .exact g
   omega
  .exact awH (tG λy z s=>(Q y z s).resolve_right λq=>L q.1) (G.1 k N x J)
 .have e:TK (J8.set i (t.1,t.2.1,t.2.2.1,true)) (k:Int)=TK J8 (k:Int):=by
   rw[O2 C,Ak C,tF,tF,av2 (λq=>c (by have:=q.2;simp only at this;omega)),av2 (by simp[H])]
  rw[e];exact a0 k N x J
end
variable{i:Do bm}{d:bm}{h:bP}
section
open Go Go.RowKit Go.Sort
def adL(d:1<=b)(a:aX)(c:a.length<=100000000000):aak b a=some a:=by
 obtain⟨b,rfl⟩:=sC b 1;rw[ahB,cj bv (by simpa using c),awL];cases a with
 |nil=>exact xM.2 ⟨rfl,rfl⟩
 |cons x e=>rfl
def alN(A:Fu+4<=b)(f:Int)(d:bP)(s:aX)(v:s.length<=100000):ale b (f,d,s)=some (s.filter λt=>decide (t<f)):=by
 obtain⟨b,rfl⟩:=sC b 3;have z:=bJ;have n:∀(M:Nat) (x:Int),Tg (M+1) (x,f,d)=some (!(decide (x<f))):=λM x=>by
  rw[ahC];by_cases c:x<f
  .rw[awu c,awz bv];rfl
  .rw[awz c,awu bv];rfl
 have h:=Ue (F:=λm k=>Hw (b+1) m (s,f,d,((s.length:Nat):Int),(k:Int))) (keep:=λt=>decide (t<f)) (s:=s) (no:=.inl ()) (yes:=λk=>.inr (k:Int)) (λm i x h w=>by
  rw[Mo,eK bv,ba w,ob,n,ob];cases decide (x<f)with
  |true=>rw[awj,av8,bW bv,av3 rfl]
  |false=>rw[axg,awv,av2 d6]) (λm=>by rw[Mo,dF bv]) (m:=b+1) bv
 rw[zQ]at h;rw[alf,ahE];rcases h with⟨g,a⟩|⟨k,x,g,a,r,u⟩
 .rw[g,ob]
  simp only[ob];rw[eK trivial,azd.2 a]
 .have B:=Sp.cS a
  obtain⟨C,D,o,p,l,q⟩:=Dn (F:=λm i j s=>Jy (b+2) m (f,d,i,j,s)) (keep:=λt=>decide (t<f)) (fin:=λi s=>(i,s)) (λm i j s=>by
   rw[ahI,cd];by_cases c:j<((s.length:Nat):Int)
   .rw[av3 c,av3 c]
    cases aZ s j with
    |none=>rfl
    |some x=>
     rw[ob,ob,ob,n,ob];cases decide (x<f)with
     |true=>
      rw[awj,axg,awv,av3 rfl];cases aZ s i with
      |none=>rfl
      |some y=>rw[ob,ob]
     |false=>rw[axg,awj,av8,av2 d6]
   .rw[av2 c,av2 c]) v s.length (b+2) k (k+1) s bv bv bv bv rfl (by rw[bZ a,axs,azd.2 u];simp only[axa,r];simp) rfl
  rw[g,ob];simp only[ob];rw[dF bv,bW bv,o,ob];simp only;rw[aa8 p (λe=>by rw[e]at l;simp at l;omega) (0:Int),q]
def gL(n:Nat)(a:bP)(v:Nat):aX:=(vt n (dc a v)).mergeSort λx y=>decide (x<=y)
def J9:c∈gL b h e↔c∈vt b (dc h e):=(azw _ _).mem_iff
def J_{N:Nat}(j:Fu+12<=N)(a:cz b h)(d:e<b):Th N ((b:Int),h,(e:Int))=some (0,gL b h e):=by
 obtain⟨N,rfl⟩:=sC N 1;have i:=bJ;have c:=a.ring d;have k:=a.small.2 _ c.2.2.1;rw[ahJ,rM bv a _ d5,av3 (λw g=>by rw[awq.1 g];omega),ob,DR rfl,JX bv a d,ob,ba c.1,ob,adL bv _ bv,ob,alN bv _ _ _ bv,ob];have f:((dc h e).filter λt=>decide (t<(b:Int))).length<1099511627776:=by have:=ayO (λt=>decide (t<(b:Int))) (dc h e);omega
 rw[eE,awu f,awv,ob];rfl
def abc(a:cz b h)(c:e<b):(e:Int)∈gL b h e:=by
 rw[J9];have:=(a.ring c).2.1;exact(jJ c).2 this
def Ds(a:cz b h)(c:e<b):(gL b h e).length<=1000:=by
 unfold gL vt;rw[aAq];exact awH (ayO _ _) (a.small.2 _ (a.ring c).2.2.1)
def pG(A B:aX)(v:Int):aX:=if v∈A then []else if(if yn (A.length:Int) (B.length:Int)=0 then yn (A.headD 0) (B.headD 0)else yn (A.length:Int) (B.length:Int))<0 then A else B
def Uf{N:Nat}(z:Fu+20<=N)(n:Nat)(a:Do bm)(t:a.length<=100000)(u v:Int):
 (∃e:Int,Jx N ((n:Int),a,u,v)=some (0,e)/\(e=1/\¬GR n a\/e=10/\¬l5 (n:Int) (u,v)\/e=6/\GR n a/\l5 (n:Int) (u,v)/\dQ (u,v)∉bX a))\/
  ∃(k:Nat) (x:bm),Jx N ((n:Int),a,u,v)=some ((k:Int),0)/\GR n a/\l5 (n:Int) (u,v)/\a[k]? =some x/\(x.1,x.2.1)=dQ (u,v):=by
 obtain⟨N,rfl⟩:=sC N 1;obtain⟨b,q,j⟩:=ya (N:=N) bv (n:Int) a t;rw[av9]at j;rw[Tf,q,ob];cases b with
 |false=>exact .inl ⟨1,rfl,.inl ⟨rfl,λh=>by have:=j.2 ⟨bv,h⟩;cases this⟩⟩
 |true=>
  have h:=(j.1 rfl).2;have g:=JZ (u,v);simp only at g;simp only[awj,av8];rw[g.1,g.2,cd];have f:l5 (n:Int) (u,v)↔¬(dQ (u,v)).1<0/\¬(n:Int)<=(dQ (u,v)).2:=by unfold l5 dQ;simp only;omega
  by_cases c:(dQ (u,v)).1<0
  .rw[av3 c];exact .inl ⟨10,rfl,.inr (.inl ⟨rfl,λh=>(f.1 h).1 c⟩)⟩
  rw[av2 c,cd];by_cases d:(n:Int)<=(dQ (u,v)).2
  .rw[av3 d];exact .inl ⟨10,rfl,.inr (.inl ⟨rfl,λh=>(f.1 h).2 d⟩)⟩
  rw[av2 d];obtain⟨i,r,s⟩:=aix (N:=N) bv h u v;rw[r,ob,cd];rcases s with⟨rfl,y⟩|⟨k,x,rfl,l,o,p⟩
  .rw[av3 bv]
   refine .inl ⟨6,rfl,.inr (.inr ⟨rfl,h,f.2 ⟨c,d⟩,λw=>?_⟩)⟩;obtain⟨x,l,m⟩:=awe.1 w;unfold dQ at m;simp only[awn]at m;exact y x l m
  .rw[av2 bv];exact .inr ⟨k,x,rfl,h,f.2 ⟨c,d⟩,l,by unfold dQ;rw[o,p]⟩
def alO{N:Nat}(E:Fu+22<=N)(h:GR b a){u v:Nat}(p:u<b)(r:v<b)(m:Int):∃e,Jz N ((b:Int),a,(u:Int),(v:Int),m)=some (e,pG (gL b (eW b (bs a m)) u) (gL b (eW b (bs a m)) v) (v:Int)):=by
 obtain⟨N,rfl⟩:=sC N 1;have D:=bJ;have F:=h.len;have l:=h.Ag m;have fj:l5 (b:Int) ((u:Int),(v:Int)):=⟨by simp;omega,by simp;omega⟩;have g:∃i e:Int,Jx N ((b:Int),a,(u:Int),(v:Int))=some (i,e)/\e≠1/\e≠10:=by
  rcases Uf (N:=N) bv b a bv (u:Int) (v:Int)with⟨e,g,j⟩|⟨k,x,g,_⟩
  .refine⟨0,e,g,?_⟩
   rcases j with⟨_,j⟩|⟨_,j⟩|⟨rfl,_⟩
   .exact absurd h j
   .exact absurd fj j
   .exact⟨d6,d6⟩
  .exact⟨k,0,g,d6,d6⟩
 obtain⟨i,e,g,j,w⟩:=g;have z:=J_ (N:=N) bv l p;have C:=J_ (N:=N) bv l r;have s:=abc l p;have t:=abc l r;have G:=Ds l p;have H:=Ds l r;rw[Mp,g,ob,dF j,dF w,tD bv h,ob];simp only;rw[z,ob,C,ob];simp only;generalize gL b (eW b (bs a m)) u=A at*;generalize gL b (eW b (bs a m)) v=B at*;obtain⟨M,rfl⟩:=sC N 8;rw[has_eq (M+8) bv _ _ bv,ob];unfold pG;by_cases c:(v:Int)∈A
 .rw[awu c,awv,av3 c];exact⟨_,rfl⟩
 .rw[awz c,av8,av2 c]
  obtain⟨d,n,rfl⟩:∃d n,A=d::n:=azx λe=>by rw[e]at s;cases s
  obtain⟨f,o,rfl⟩:∃f o,B=f::o:=azx λe=>by rw[e]at t;cases t
  rw[show M+8=(M+5)+3 from rfl,sT,ob,show aZ (d::n) 0=some d from rfl,show aZ (f::o) 0=some f from rfl,ob,ob,ob,ob,sT,ob,show M+5+3=(M+3)+5 from rfl,VU,ob,cd];simp only[axB];have y:∀q:Int,∃e:Int,(if q<0 then some ((0:Int),d::n)else some (0,f::o))=some (e,if q<0 then d::n else f::o):=λq=>by
   by_cases c:q<0
   .rw[av3 c,av3 c];exact⟨_,rfl⟩
   .rw[av2 c,av2 c];exact⟨_,rfl⟩
  exact y _
def adM{A B:aX}(d:A.length<=b)(e:B.length<=b):(pG A B c).length<=b:=by
 unfold pG;have a:∀q:Int,(if q<0 then A else B).length<=b:=λq=>by split<;>assumption
 split
 .simp
 .exact a _
def aiS{x y:bm}(c:a[b]? =some x)(h:(y.1,y.2.1)=(x.1,x.2.1)):bX (a.set b y)=bX a:=by
 unfold bX;rw[ax3,h];refine axA λj=>?_;rw[aw0];split
 next e=>subst e;have d:=Sp.cS c;rw[av3 (by simpa using d),awp,c];rfl
 .rfl
def fB(a:Do bm):(bX a).length=a.length:=by simp[bX]
def zm(a:aX)(t:bm):Int:=(if t.1∈a then 1 else 0)+(if t.2.1∈a then 1 else 0)
def KL(a:Int)(t:bm):bm:=(t.1,t.2.1,(if wZ (t.2.2.1+1)<a then wZ (t.2.2.1+1)else a),t.2.2.2)
def AG(c:aX)(a b:Int)(t:bm):bm:=if t.2.2.1=a/\t.2.2.2=true/\zm c t=2 then KL b t else t
def AtR(c:aX)(a f:Int)(d:Do bm)(b:In)(g:Do bm):Prop:=
 (b=false/\(∀(i:Nat) (t:bm),d[i]? =some t->g[i]? =some (if t.2.2.1=a/\zm c t=2 then KL f t else t))/\∀t∈d,t.2.2.1=a->t.2.2.2=false->zm c t≠1)\/
  b=true/\∃(e:Do bm) (i:Nat) (t:bm),bX e=bX d/\(∀(j:Nat) (x:bm),d[j]? =some x->∃y,e[j]? =some y/\(y=x/\(x.2.2.1=a->x.2.2.2=true->zm c x≠2)\/y=KL f x/\x.2.2.1=a/\zm c x=2))/\d[i]? =some t/\e[i]? =some t/\t.2.2.1=a/\t.2.2.2=false/\zm c t=1/\g=e.set i (t.1,t.2.1,t.2.2.1,true)
def Ug(l:1<=b)(k:a[e]? =some d)(s:Int)(f g:In)(h i j c:Int):Tj b ((e:Int),s,f,g,h,i,j,c,a)=some (s,f,g,h,i,wZ (j+1),c,a.set e (KL c d)):=by
 obtain⟨b,rfl⟩:=sC b 1;rw[ahK,ba k,ob,ob,av9];rfl
def abd{R S:Nat->bm->bm}(j:a[b]? =some d)(h:∀(f:Nat) (t:bm),a[f]? =some t->i[f]? =some (R f t))(k:∀(f:Nat) (t:bm),f≠b->S f t=R f t):∀(f:Nat) (t:bm),a[f]? =some t->(i.set b (S b d))[f]? =some (S f t):=λf t g=>by
 have l:=w9 (h b d j);rw[aw0];by_cases c:b=f
 .subst c
  rw[j]at g;rw[av3 rfl,av3 l,av_ g]
 .rw[av2 c,h f t g,k f t λe=>c e.symm]
def Uh{R S:Nat->bm->bm}(k:a[b]? =some d)(h:∀(e:Nat) (t:bm),a[e]? =some t->i[e]? =some (R e t))(g:∀(e:Nat) (t:bm),e≠b->S e t=R e t)(j:S b d=R b d):∀(e:Nat) (t:bm),a[e]? =some t->i[e]? =some (S e t):=λe t f=>by
 rw[h e t f];by_cases c:e=b
 .subst c
  rw[k]at f;rw[<-av_ f,j]
 .rw[g e t c]
def asp(hN:Fu+24<=b)(h1:1<=e)(o:Do bm)(hl:o.length<=100000)(u v:Nat)(hu:u<e)(hv:v<e)(n:Int)(V X:In)(Y Z s6 l:Int):
 ∃(d:In) (ab:Do bm) (t2 t3:In) (t4 t5 t6:Int),aay b ((u:Int),(v:Int),n,(e:Int),V,X,Y,Z,s6,l,o)=some (d,ab,(e:Int),t2,t3,t4,t5,t6,l)/\bX ab=bX o/\(GR e o->AtR (pG (gL e (eW e (bs o n)) u) (gL e (eW e (bs o n)) v) (v:Int)) n l o d ab):=by
 obtain⟨b,rfl⟩:=sC b 1;have hF:=bJ;obtain⟨f,g,hs,aq,ai⟩:∃f g,Jz b ((e:Int),o,(u:Int),(v:Int),n)=some (f,g)/\g.length<=1000/\(GR e o->g=pG (gL e (eW e (bs o n)) u) (gL e (eW e (bs o n)) v) (v:Int)):=by
  obtain⟨d,H,N⟩:=ya (N:=b - 2) bv (e:Int) o hl;rw[av9]at N;cases d with
  |true=>
   have h:=(N.1 rfl).2;obtain⟨f,he⟩:=alO (N:=b) bv h hu hv n;exact⟨f,_,he,adM (Ds (h.Ag n) hu) (Ds (h.Ag n) hv),λ_=>rfl⟩
  |false=>
   obtain⟨M,rfl⟩:=sC b 2;rw[show M+2 - 2=M by omega]at H;exact⟨1,[],by rw[Mp,Tf,H,ob];rfl,d5,λh=>by have:=N.2 ⟨bv,h⟩;cases this⟩
 obtain⟨b1,a6,U,rfl,af⟩:=lp (F:=λm k (q:bh)=>Hx b m (n,((g.length:Nat):Int),(k:Int),(e:Int),V,X,Y,Z,s6,l,g,o,q)) (n:=g.length) (Q:=λd=>∃U,d=(n,(e:Int),V,X,Y,Z,s6,l,o,U)/\∀x:Int,(bN j1 U x).getD 0=if x∈g then 1 else 0) (I:=λk q=>∀x:Int,(bN j1 q x).getD 0=if x∈g.take k then 1 else 0) (λm k q hk G=>by
  obtain⟨x,B⟩:=get_at (xs:=g) (i:=k) hk;refine .inl ⟨d_ j1 q x 1,λy=>?_,by rw[Ms,eK bv,ba B,ob,ob,bW bv]⟩;rw[bZ B];have:=pA q x y 1;by_cases c:x=y
  .subst c
   rw[av3 rfl]at this;rw[show bN j1 (d_ j1 q x 1) x=some 1 from this,av3 d5];rfl
  .rw[av2 c]at this
   rw[show bN j1 (d_ j1 q x 1) y=bN j1 q y from this,G y];have f:y∈g.take k++[x]↔y∈g.take k:=by
    rw[awc,awq];exact⟨λh=>h.resolve_right λh=>c h.symm,.inl⟩
   simp only[f]) (λm q G=>⟨_,by rw[Ms,dF bv],q,rfl,λx=>by have:=G x;rw[awA (av5 _)]at this;exact this⟩) (m:=b) (i:=0) (s:=[]) bv bv (λx=>by simp[bN])
 have ae:∀x y:Int,wZ ((bN j1 U x).getD 0+(bN j1 U y).getD 0)=(if x∈g then 1 else 0)+(if y∈g then 1 else 0):=λx y=>by
  rw[af,af];split<;>split<;>decide
 obtain⟨M,rfl⟩:=sC b 1;obtain⟨b2,a7,r6,w,a3,rfl,⟨ap,ak⟩,ao,a4,al⟩:=lp (F:=λm k (q:Int×aX×Do bm)=>tf (M+1) m (n,((o.length:Nat):Int),(k:Int),(e:Int),V,X,Y,Z,q.1,l,q.2.1,q.2.2,U)) (n:=o.length) (Q:=λd=>∃(r6:Int) (w:aX) (a3:Do bm),d=((e:Int),V,X,Y,Z,r6,l,w,a3,U)/\(w.length<=o.length/\a3.length=o.length)/\(∀(i:Nat) (t:bm),o[i]? =some t->a3[i]? =some (AG g n l t))/\(∀x,x∈w↔∃(i:Nat) (t:bm),x=(i:Int)/\i<o.length/\o[i]? =some t/\t.2.2.1=n/\t.2.2.2=false)/\w.Nodup)
  (I:=λk q=>(q.2.1.length<=k/\q.2.2.length=o.length)/\(∀(i:Nat) (t:bm),o[i]? =some t->q.2.2[i]? =some (if i<k then AG g n l t else t))/\(∀x,x∈q.2.1↔∃(i:Nat) (t:bm),x=(i:Int)/\i<k/\o[i]? =some t/\t.2.2.1=n/\t.2.2.2=false)/\q.2.1.Nodup) (λm k q hk G=>by
   obtain⟨⟨D,K⟩,P,i3,i4⟩:=G;obtain⟨x,B⟩:=get_at (xs:=o) (i:=k) hk;have O:q.2.2[k]? =some x:=by rw[P k x B,av2 (aze k)]
   have a2:∀(i:Nat) (t:bm),i≠k->(if i<k+1 then AG g n l t else t)=if i<k then AG g n l t else t:=λi t h=>by
    by_cases c:i<k
    .rw[av3 c,av3 bv]
    .rw[av2 c,av2 bv]
   have a9:=λ(h:AG g n l x=x)=>Uh (R:=λi t=>if i<k then AG g n l t else t) (S:=λi t=>if i<k+1 then AG g n l t else t) B P a2 (by rw[av3 (azl k),av2 (aze k),h]);have a0:=abd (R:=λi t=>if i<k then AG g n l t else t) (S:=λi t=>if i<k+1 then AG g n l t else t) B P a2;simp only[av3 (azl k)]at a0;have aa:¬(x.2.2.1=n/\x.2.2.2=false)->∀y,y∈q.2.1↔∃(i:Nat) (t:bm),y=(i:Int)/\i<k+1/\o[i]? =some t/\t.2.2.1=n/\t.2.2.2=false:=λhn y=>by
    rw[i3];constructor
    .rintro⟨i,t,E,e2,C⟩;exact⟨i,t,E,bv,C⟩
    .rintro⟨i,t,E,e2,C,L⟩
     refine⟨i,t,E,?_,C,L⟩;rcases axF i k with h|h
     .exact h
     .obtain rfl:i=k:=bv
      rw[B]at C;rw[<-av_ C]at L;exact absurd L hn
   rw[Mr,eK bv,ba O,ob,ob,Mz,bW bv];by_cases J:x.2.2.1=n
   .rw[av3 J,ob]
    cases H:x.2.2.2 with
    |false=>
     rw[axg,awv,cj bv d7,ob];refine .inl ⟨(q.1,q.2.1++[(k:Int)],q.2.2),⟨⟨by simp;omega,K⟩,a9 (by unfold AG;rw[H];simp),λy=>?_,?_⟩,rfl⟩
     .rw[awc,awq,i3]
      constructor
      .rintro(⟨i,t,E,e2,C⟩|rfl)
       .exact⟨i,t,E,bv,C⟩
       .exact⟨k,x,rfl,bv,B,J,H⟩
      .rintro⟨i,t,E,e2,C⟩
       rcases axF i k with h|h
       .exact .inl ⟨i,t,E,h,C⟩
       .exact .inr (by rw[E];omega)
     .refine awR.2 ⟨i4,d5,λa ha d H=>?_⟩
      rw[awq.1 H];obtain⟨i,t,rfl,e2,_⟩:=(i3 a).1 ha;omega
    |true=>
     rw[awj,av8,ob,Ti,ob];simp only;rw[ae,cd];by_cases c:((if x.1∈g then 1 else 0)+(if x.2.1∈g then 1 else 0):Int)=2
     .rw[av3 c,Ug bv O,ob]
      have hr:AG g n l x=KL l x:=by unfold AG zm;rw[av3 ⟨J,H,c⟩]
      rw[hr]at a0;exact .inl ⟨(wZ (q.1+1),q.2.1,q.2.2.set k (KL l x)),⟨⟨azT D,by rw[axf];exact K⟩,a0,aa (by simp[H]),i4⟩,rfl⟩
     .rw[av2 c]
      exact .inl ⟨q,⟨⟨bv,K⟩,a9 (by unfold AG zm;rw[av2 λh=>c h.2.2]),aa (by simp[H]),i4⟩,rfl⟩
   .rw[av2 J]
    exact .inl ⟨q,⟨⟨bv,K⟩,a9 (by unfold AG;rw[av2 λh=>J h.1]),aa λh=>J h.1,i4⟩,rfl⟩) (λm q G=>⟨_,by rw[Mr,dF bv],q.1,q.2.1,q.2.2,rfl,G.1,(λi t A=>by rw[G.2.1 i t A,av3 (w9 A)]),G.2.2.1,G.2.2.2⟩) (m:=M+1) (i:=0) (s:=(s6,[],o)) bv bv ⟨⟨d5,rfl⟩,(λi t A=>by rw[av2 (Nat.not_lt_zero i)];exact A),(λx=>⟨λh=>(by cases h),λ⟨i,t,_,h,_⟩=>absurd h (Nat.not_lt_zero i)⟩),List.nodup_nil⟩
 have ad:∀(q:Do bm) (R:Nat->bm->bm),q.length=o.length->(∀(i:Nat) (t:bm),o[i]? =some t->q[i]? =some (R i t))->(∀i t,((R i t).1,(R i t).2.1)=(t.1,t.2.1))->bX q=bX o:=λq R hq h hR=>by
  unfold bX;refine axA λi=>?_;rw[awp,awp];rcases axF i o.length with c|c
  .obtain⟨x,B⟩:=get_at (xs:=o) (i:=i) c
   rw[h i x B,B,aw9,aw9,hR]
  .rw[awO c,awO bv]
 have ac:∀(p:Prop) [Decidable p] (t:bm),((if p then KL l t else AG g n l t).1,(if p then KL l t else AG g n l t).2.1)=(t.1,t.2.1):=λp _ t=>by
  unfold AG;split
  .rfl
  .split<;>rfl
 obtain⟨b3,a8,hq⟩:=lp (F:=λm k (q:Int×Do bm)=>x4 (M+1) m (((w.length:Nat):Int),(k:Int),(e:Int),V,X,Y,Z,q.1,l,w,q.2,U)) (n:=w.length) (Q:=λd=>∃(r:Int) (a1:Do bm),bX a1=bX o/\((d=.inl ((e:Int),V,X,Y,Z,r,l,a1)/\AtR g n l o false a1)\/∃x y,d=.inr (true,(e:Int),V,true,x,y,r,l,a1)/\AtR g n l o true a1))
  (I:=λk q=>q.2.length=o.length/\(∀(i:Nat) (t:bm),o[i]? =some t->q.2[i]? =some (if(i:Int)∈w.take k/\zm g t=2 then KL l t else AG g n l t))/\∀(i:Nat) (t:bm),o[i]? =some t->(i:Int)∈w.take k->zm g t≠1) (λm k q hk ⟨K,D,P⟩=>by
   obtain⟨z,hz⟩:=get_at (xs:=w) (i:=k) hk;obtain⟨i,t,rfl,N,A,J,a5⟩:=(a4 z).1 (awg hz);have an:AG g n l t=t:=by unfold AG;rw[av2 λh=>by rw[a5]at h;cases h.2.1]
   have am:¬(i:Int)∈w.take k:=λh=>by
    have:=al;rw[<-axw k w,cN hz]at this;exact(awR.1 this).2.2 _ h _ d5 rfl
   have O:q.2[i]? =some t:=by rw[D i t A,av2 λh=>am h.1,an]
   have fj:∀j:Nat,(j:Int)∈w.take (k+1)↔(j:Int)∈w.take k\/j=i:=λj=>by
    rw[bZ hz,awc,awq];exact or_congr axU ⟨λh=>by omega,λh=>by omega⟩
   have a2:∀(j:Nat) (x:bm),j≠i->(if(j:Int)∈w.take (k+1)/\zm g x=2 then KL l x else AG g n l x)=if(j:Int)∈w.take k/\zm g x=2 then KL l x else AG g n l x:=λj x hj=>by
    have f:(j:Int)∈w.take (k+1)↔(j:Int)∈w.take k:=by rw[fj];exact⟨λh=>h.resolve_right hj,.inl⟩
    simp only[f]
   have ag:zm g t≠1->∀(j:Nat) (x:bm),o[j]? =some x->(j:Int)∈w.take (k+1)->zm g x≠1:=λh1 j x B hj=>by
    rcases(fj j).1 hj with hj|rfl
    .exact P j x B hj
    .rw[A]at B;rw[<-av_ B];exact h1
   have aj:(i:Int)∈w.take (k+1):=(fj i).2 (.inr rfl);rw[Mq,eK bv,ba hz,ob,ob,ba O,ob,Ti,ob,cd,bW bv];simp only;rw[ae];have he:((if t.1∈g then 1 else 0)+(if t.2.1∈g then 1 else 0):Int)=zm g t:=rfl;rw[he];by_cases c0:zm g t=0
   .rw[av3 c0]
    exact .inl ⟨q,⟨K,Uh (R:=λi t=>if(i:Int)∈w.take k/\zm g t=2 then KL l t else AG g n l t) (S:=λi t=>if(i:Int)∈w.take (k+1)/\zm g t=2 then KL l t else AG g n l t) A D a2 (by rw[av2 bv,av2 bv]),ag bv⟩,rfl⟩
   .rw[av2 c0,cd]
    by_cases c2:zm g t=2
    .have a0:=abd (R:=λi t=>if(i:Int)∈w.take k/\zm g t=2 then KL l t else AG g n l t) (S:=λi t=>if(i:Int)∈w.take (k+1)/\zm g t=2 then KL l t else AG g n l t) A D a2
     simp only[av3 (And.intro aj c2)]at a0;rw[av3 c2,Ug bv O,ob];exact .inl ⟨(wZ (q.1+1),q.2.set i (KL l t)),⟨by rw[axf];exact K,a0,ag bv⟩,rfl⟩
    .have c1:zm g t=1:=by
      unfold zm at*;split at*<;>split at*<;>omega
     rw[av2 c2,eK c1];have hs:(q.2.set i (t.1,t.2.1,t.2.2.1,true))[i]? =some (t.1,t.2.1,t.2.2.1,true):=by rw[aw0,av3 rfl,av3 (w9 O)]
     have ah:=ad q.2 (λi t=>if(i:Int)∈w.take k/\zm g t=2 then KL l t else AG g n l t) K D λi t=>ac _ t;rw[ob,av9,ba hs,ob,ob];refine .inr ⟨_,rfl,q.1,_,by rw[aiS O (y:=(t.1,t.2.1,t.2.2.1,true)) rfl];exact ah,.inr ⟨_,_,rfl,.inr ⟨rfl,q.2,i,t,ah,λj x B=>⟨_,D j x B,?_⟩,A,O,J,a5,c1,rfl⟩⟩⟩;split
     next h=>
      obtain⟨j',x',E,_,C,L,_⟩:=(a4 _).1 (ax0 h.1);obtain rfl:j'=j:=bv
      rw[B]at C;rw[<-av_ C]at L;exact .inr ⟨rfl,L,h.2⟩
     .unfold AG
      split
      next h=>exact .inr ⟨rfl,h.1,h.2.2⟩
      next h=>exact .inl ⟨rfl,λh1 h2 W=>h ⟨h1,h2,W⟩⟩) (λm q ⟨K,D,P⟩=>by
   rw[awA (av5 _)]at D P;refine⟨_,by rw[Mq,dF bv],q.1,q.2,ad q.2 (λi t=>if(i:Int)∈w/\zm g t=2 then KL l t else AG g n l t) K D λi t=>ac _ t,.inl ⟨rfl,.inl ⟨rfl,λi t A=>?_,λt A J a5=>?_⟩⟩⟩
   .rw[D i t A]
    have hm:=a4 (i:Int);have f:(i:Int)∈w↔t.2.2.1=n/\t.2.2.2=false:=by
     rw[hm];constructor
     .rintro⟨j,x,E,_,C,L⟩
      obtain rfl:j=i:=bv
      rw[A]at C;rw[av_ C];exact L
     .intro h;exact⟨i,t,rfl,w9 A,A,h⟩
    unfold AG;by_cases h1:t.2.2.1=n<;>by_cases h2:zm g t=2<;>cases W:t.2.2.2<;>simp[f,h1,h2,W]
   .obtain⟨i,N⟩:=ayM A
    exact P i t N ((a4 _).2 ⟨i,t,rfl,w9 N,N,J,a5⟩)) (m:=M+1) (i:=0) (s:=(r6,a3)) bv bv ⟨ak,(λi t A=>by rw[ao i t A,av2 d5]),λi t _ h=>by simp at h⟩
 rw[zQ]at a6 a7 a8;simp only at a6 a7 a8;rw[ahL,hs,ob];simp only;rw[a6,ob];simp only;rw[a7,ob];simp only;rw[a8,ob];obtain⟨r,a1,h2,⟨rfl,W⟩|⟨x,y,rfl,W⟩⟩:=hq
 .exact⟨_,_,_,_,_,_,_,rfl,h2,λhG=>by rw[<-ai hG];exact W⟩
 .exact⟨_,_,_,_,_,_,_,rfl,h2,λhG=>by rw[<-ai hG];exact W⟩
end
def MT{n:Nat}:∀{l p:bu} {b:bP},cz n b->fe n l->(∀x,x<n->w8 b x=jH p x)->∀x,x<n->w8 (la n b l) x=jH (p++l) x
 |[],p,b,_,_,d=>λx a=>by rw[awN];exact d x a
 |e::l,p,b,h,f,d=>by
  have c:=f e d5;have g:=HE h c.1 c.2;rw[la,show p++e::l=(p++[e])++l by simp];exact MT g.1 (λx a=>f x (by simp[a])) λx a=>by rw[g.2.1 x a,wR,T1 d c.1 c.2 a]
def Dt:∀(l p:bu),((ff p l).filter id).length=(cQ p l).length
 |[],p=>rfl
 |e::l,p=>by
  have a:=Dt l (p++[e]);rw[ff,cQ,axa];simp only[id];split<;>simp[a]
section
variable{n:Nat}{l:bh}{ts:Do bm}{x u v:Nat}
def Du(b:1<=n)(c:n<=64)(d:fe n (l.map jd))(a:x<n):w8 (eW n l) x=jH (l.map jd) x:=
 MT (p:=[]) (iz b c) d (λx a=>JY b c a) x a
def Ui(b:1<=n)(c:n<=64)(a:fe n (l.map jd)):(eW n l).length=JF n (jH (l.map jd)):=by
 have h:=(EI (iz b c) a).2;rw[K2 b c a,Dt]at h;have d:=Ab _ a;have e:(gy n).length=n:=by simp[gy]
 unfold eW;unfold wS at d;omega
def ny:(bs ts c).map jd=TK ts c:=by
 unfold bs TK;rw[axe];rfl
def Al(b:1<=n)(c:n<=64)(d:∀t∈ts,dM n t):(eW n (bs ts 0)).length+(bs ts 0).length=n↔Ac n (TK ts 0):=by
 have a:=lL d 0;rw[<-ny]at a;rw[Ui b c a];unfold Ac;rw[<-ny,awa]
def O3(c:1<=n)(d:n<=64)(f:fe n (l.map jd))(g:∀e∈l,l5 (n:Int) e)(b:u<n)(a:x<n):(x:Int)∈gL n (eW n l) u↔Jd (l.map jd) u x:=by
 have h:=tB c d g;rw[J9,jJ a,ll f b a,<-Du c d f b,<-Du c d f a,<-h.same b a];have j:=h.ring b;have k:=h.ring a;constructor
 .intro i
  exact(h.uniq a j.1 i).1
 .intro e
  have:dc (eW n l) u=dc (eW n l) x:=by unfold dc;rw[e]
  rw[this];exact k.2.1
def alP(h:GR n ts){k:Int}(g:u<n)(i:v<n)(f:¬Jd (TK ts k) u v):∃w d,Ends u v w d/\∀x:Nat,x<n->((x:Int)∈pG (gL n (eW n (bs ts k)) u) (gL n (eW n (bs ts k)) v) (v:Int)↔Jd (TK ts k) w x):=by
 have e:=lL h.tie k;rw[<-ny]at e f⊢;have a:=λ(u x:Nat)=>O3 (u:=u) (x:=x) h.lo h.hi e (g_ h.tie k);have j:¬(v:Int)∈gL n (eW n (bs ts k)) u:=λq=>f ((a u v g i).1 q);unfold pG;rw[av2 j];have m:∀q:Int,∃w d,Ends u v w d/\∀x:Nat,x<n->((x:Int)∈(if q<0 then gL n (eW n (bs ts k)) u else gL n (eW n (bs ts k)) v)↔Jd ((bs ts k).map jd) w x):=λq=>by
  by_cases c:q<0
  .rw[av3 c];exact⟨u,v,.inl ⟨rfl,rfl⟩,λx b=>a u x g b⟩
  .rw[av2 c];exact⟨v,u,.inr ⟨rfl,rfl⟩,λx b=>a v x i b⟩
 exact m _
def Pw.of{R:bm->bm->Prop}:∀{ts a:Do bm},a.length=ts.length->(∀(i:Nat) (t:bm),ts[i]? =some t->∃y,a[i]? =some y/\R t y)->Pw R ts a
 |[],[],_,_=>trivial
 |[],_::_,h,_=>by simp at h
 |_::_,[],h,_=>by simp at h
 |t::ts,y::a,d,h=>by
  obtain⟨g,b,c⟩:=h 0 t rfl;have e:y=g:=av_ b;subst e;exact⟨c,Pw.of (by simpa using d) λi t f=>h (i+1) t f⟩
def GR.edg(h:GR n ts)(b:bX a=bX ts)(c:∀t∈a,dM n t)(d:Ac n (TK a 0)):GR n a:=by
 refine⟨h.lo,h.hi,by rw[<-fB,b,fB];exact h.len,c,?_,(Al h.lo h.hi c).2 d⟩;have:=rN h.TV;rw[<-b]at this;exact(ayL (R:=eLt) (f:=λt:bm=>(t.1,t.2.1))).1 this
def GL(n:Nat)(ts:Do bm):Prop:=GR n ts/\Ly ts
def yf(n:Nat):gT n<=6:=by
 unfold gT
 repeat' split
 all_goals omega
def aiT{b:In}(J:GR n ts)(p:Mid n ts u v c)(E:0<=c)(K:c<=(gT n:Int))(G:u<n)(H:v<n)(L:bX a=bX ts)(h:AtR (pG (gL n (eW n (bs ts c)) u) (gL n (eW n (bs ts c)) v) (v:Int)) c (gT n:Int) ts b a):
 (b=false->Mid n a u v (c - 1))/\(b=true->GL n a):=by
 obtain⟨w,w',P,O⟩:=alP J (k:=c) G H λq=>p.ap (q.sub (Dp E));generalize pG (gL n (eW n (bs ts c)) u) (gL n (eW n (bs ts c)) v) (v:Int)=C at*;have B:∀t∈ts,(zm C t=2↔Jd (TK ts c) w t.1.toNat/\Jd (TK ts c) w t.2.1.toNat)/\(zm C t=1↔¬(Jd (TK ts c) w t.1.toNat↔Jd (TK ts c) w t.2.1.toNat)):=λt f=>by
  have m:=Dr p f;have e:=p.ok t f;unfold dM at e;have z:=O _ m.1;have I:=O _ m.2;rw[show((t.1.toNat:Nat):Int)=t.1 by omega]at z;rw[show((t.2.1.toNat:Nat):Int)=t.2.1 by omega]at I;unfold zm;rw[<-z,<-I];by_cases R:t.1∈C<;>by_cases S:t.2.1∈C<;>simp[R,S]
 have N:∀t∈ts,KL (gT n:Int) t=upT n t:=λt f=>by
  have e:=p.ok t f;unfold dM at e;have o:gT n<=6:=yf n;unfold KL upT;rw[gw bv bv];refine axz rfl (axz rfl (axz ?_ rfl));simp only;split<;>omega
 have M:∀{q:Do bm},bX q=bX ts->q.length=ts.length:=λh=>by rw[<-fB,h,fB]
 rcases h with⟨rfl,m,e⟩|⟨rfl,a0,i,t,z,m,e,o,X,Y,Z,rfl⟩
 .refine⟨λ_=>alL (A:=Jd (TK ts c) w) p E K G H P (λ_=>axU) (Pw.of (M L) λi t f=>⟨_,m i t f,?_⟩),(λh=>by cases h)⟩
  have r:=awg f;have o:=B t r;refine⟨⟨?_⟩,λg s=>?_⟩
  .split
   next d=>exact .inr ⟨N t r,d.1,o.1.1 d.2⟩
   next d=>exact .inl ⟨rfl,λg _ q=>d ⟨g,o.1.2 q⟩⟩
  .exact aBc λq=>e t r g s (o.2.2 q)
 .refine⟨(λh=>by cases h),λ_=>?_⟩
  have r:=awg e;obtain⟨g,s,q3⟩:=aiO (A:=Jd (TK ts c) w) p E K G H P (λ_=>axU) (Pw.of (M z) λj x Q=>by
   have F:=awg Q;obtain⟨y,U,V⟩:=m j x Q;refine⟨y,U,⟨?_⟩⟩;rcases V with⟨rfl,D⟩|⟨rfl,D,W⟩
   .exact .inl ⟨rfl,λg s q=>D g s ((B _ F).1.2 q)⟩
   .exact .inr ⟨N _ F,D,(B _ F).1.1 W⟩) o r X Y ((B t r).2.1 Z)
  exact⟨J.edg L g s,q3⟩
end
section
variable{n:Nat}{l:bh}{ts:Do bm}{x u v:Nat}
def MU(p:Nat->Prop):nP n p=((List.range n).filter λy=> @decide (p y) (Classical.propDecidable _)).length:=List.countP_eq_length_filter
def O4(f:1<=n)(g:n<=64)(m:fe n (l.map jd))(i:∀e∈l,l5 (n:Int) e)(j:u<n):(gL n (eW n l) u).length=nP n (Jd (l.map jd) u):=by
 have h:=tB f g i;have o:=h.ring j;have p:=h.body _ o.2.2.1;have q:(vt n (dc (eW n l) u)).Nodup:=by
  obtain⟨a,b,e⟩:=List.append_of_mem o.2.2.1;have:=h.nd;unfold tv at this;rw[e,azN,awF]at this;exact(awR.1 (awR.1 this).2.1).1
 have r:(gL n (eW n l) u).Perm (((List.range n).filter λy=> @decide (Jd (l.map jd) u y) (Classical.propDecidable _)).map λx:Nat=>(x:Int)):=by
  refine(List.perm_ext_iff_of_nodup ((azw _ _).nodup_iff.2 q) ?_).2 λz=>?_
  .exact(wX n).sublist (List.Sublist.map _ aA_)
  .constructor
   .intro d
    have k:=J9.1 d;unfold vt at k;rw[axp,awJ]at k;have s:=p.2.1.2.1 z k.1;obtain⟨y,rfl⟩:=nN z;have c:y<n:=bv
    exact awe.2 ⟨y,axp.2 ⟨awE.2 c, @awu _ (Classical.propDecidable _) ((O3 f g m i j c).1 d)⟩,rfl⟩
   .intro d
    obtain⟨y,c,rfl⟩:=awe.1 d;rw[axp]at c;exact(O3 f g m i j (awE.1 c.1)).2 (@awX _ (Classical.propDecidable _) c.2)
 rw[r.length_eq,awa,MU]
def alQ(h:GR n ts){k:Int}(d:u<n)(f:v<n)(i:¬Jd (TK ts k) u v):∃w o,Ends u v w o/\(∀x:Nat,x<n->((x:Int)∈pG (gL n (eW n (bs ts k)) u) (gL n (eW n (bs ts k)) v) (v:Int)↔Jd (TK ts k) w x))/\2*nP n (Jd (TK ts k) w)<=nP n (Jd (TK ts k) u)+nP n (Jd (TK ts k) v):=by
 have a:=lL h.tie k;rw[<-ny]at a i⊢;have b:=λ(u x:Nat)=>O3 (u:=u) (x:=x) h.lo h.hi a (g_ h.tie k);have m:¬(v:Int)∈gL n (eW n (bs ts k)) u:=λq=>i ((b u v d f).1 q);have p:=O4 (u:=u) h.lo h.hi a (g_ h.tie k) d;have r:=O4 (u:=v) h.lo h.hi a (g_ h.tie k) f;unfold pG;rw[av2 m];generalize j:(if yn ((gL n (eW n (bs ts k)) u).length:Int) ((gL n (eW n (bs ts k)) v).length:Int)=0 then yn ((gL n (eW n (bs ts k)) u).headD 0) ((gL n (eW n (bs ts k)) v).headD 0)else yn ((gL n (eW n (bs ts k)) u).length:Int) ((gL n (eW n (bs ts k)) v).length:Int))=q;by_cases c:q<0
 .rw[av3 c]
  refine⟨u,v,.inl ⟨rfl,rfl⟩,λx g=>b u x d g,?_⟩;have:(gL n (eW n (bs ts k)) u).length<=(gL n (eW n (bs ts k)) v).length:=by
   subst j;split at c
   next e=>have:=lR.1 e;omega
   .have:=rA.1 c;omega
  omega
 .rw[av2 c]
  refine⟨v,u,.inr ⟨rfl,rfl⟩,λx g=>b v x f g,?_⟩;have:(gL n (eW n (bs ts k)) v).length<=(gL n (eW n (bs ts k)) u).length:=by
   subst j;split at c
   next e=>have:=lR.1 e;omega
   .have:=mt rA.2 c;omega
  omega
def ana{b:In}(Y:GR n ts)(o:Mid n ts u v c)(G:Hm n ts u v c)(C:0<=c)(H:c<=(gT n:Int))(M:u<n)(N:v<n)(Z:bX a=bX ts)(h:AtR (pG (gL n (eW n (bs ts c)) u) (gL n (eW n (bs ts c)) v) (v:Int)) c (gT n:Int) ts b a):
 (b=false->Hm n a u v (c - 1))/\(b=true->Hv n a):=by
 obtain⟨w,w',hw,K,L⟩:=alQ Y (k:=c) M N λq=>o.ap (q.sub (Dp C));generalize pG (gL n (eW n (bs ts c)) u) (gL n (eW n (bs ts c)) v) (v:Int)=z at*;have s:∀t∈ts,(zm z t=2↔Jd (TK ts c) w t.1.toNat/\Jd (TK ts c) w t.2.1.toNat)/\(zm z t=1↔¬(Jd (TK ts c) w t.1.toNat↔Jd (TK ts c) w t.2.1.toNat)):=λt e=>by
  have f:=Dr o e;have g:=o.ok t e;unfold dM at g;have r:=K _ f.1;have F:=K _ f.2;rw[show((t.1.toNat:Nat):Int)=t.1 by omega]at r;rw[show((t.2.1.toNat:Nat):Int)=t.2.1 by omega]at F;unfold zm;rw[<-r,<-F];by_cases P:t.1∈z<;>by_cases Q:t.2.1∈z<;>simp[P,Q]
 have J:∀t∈ts,KL (gT n:Int) t=upT n t:=λt e=>by
  have g:=o.ok t e;unfold dM at g;have m:gT n<=6:=yf n;unfold KL upT;rw[gw bv bv];refine axz rfl (axz rfl (axz ?_ rfl));simp only;split<;>omega
 have I:∀{q:Do bm},bX q=bX ts->q.length=ts.length:=λh=>by rw[<-fB,h,fB]
 rcases h with⟨rfl,f,g⟩|⟨rfl,a0,i,t,r,f,g,m,V,W,X,rfl⟩
 .refine⟨λ_=>aso (A:=Jd (TK ts c) w) G C H (λ_=>axU) L (Pw.of (I Z) λi t e=>⟨_,f i t e,⟨?_⟩⟩),(λh=>by cases h)⟩
  have p:=awg e;have m:=s t p;split
  next d=>exact .inr ⟨J t p,d.1,m.1.1 d.2⟩
  next d=>exact .inl ⟨rfl,λE _ q=>d ⟨E,m.1.2 q⟩⟩
 .refine⟨(λh=>by cases h),λ_=>?_⟩
  have p:=awg g;exact apo (A:=Jd (TK ts c) w) o G C H M N (λ_=>axU) L (Pw.of (I r) λj x O=>by
   have D:=awg O;obtain⟨y,R,S⟩:=f j x O;refine⟨y,R,⟨?_⟩⟩;rcases S with⟨rfl,B⟩|⟨rfl,B,U⟩
   .exact .inl ⟨rfl,λE q2 q=>B E q2 ((s _ D).1.2 q)⟩
   .exact .inr ⟨J _ D,B,(s _ D).1.1 U⟩) m p V W ((s t p).2.1 X)
end
section
open Go Go.RowKit Go.Sort
def WB(j:Fu+3<=e)(a b:Do bm)(k:a.length<=100000)(l:b.length<=100000):aaj e [a,b]=some (a++b):=by
 obtain⟨M,rfl⟩:∃M,e=M+4:=⟨e - 4,by rw[bJ]at j;omega⟩;have c:aZ ([a,b]:Do (Do bm)) (0:Int)=some a:=rfl;have d:aZ ([a,b]:Do (Do bm)) (1:Int)=some b:=rfl;have f:wZ ((0:Int)+1)=1:=d6
 have g:wZ ((1:Int)+1)=2:=d6
 have h:Hu (M+3) (M+3) ([a,b],0,[a,b],((([a,b]:Do (Do bm)).length:Nat):Int),0)=some ([a,b],((a.length+b.length:Nat):Int)):=by
  rw[EC,eK d5,c,ob,cd,gw (x:=(0:Int)+((a.length:Nat):Int)) bv bv,av2 bv,f,EC,eK d5,d,ob,cd,gw (x:=(0:Int)+((a.length:Nat):Int)+((b.length:Nat):Int)) bv bv,av2 bv,g,EC,dF d5];congr 2;omega
 have i:Ht (M+3) (M+3) ([a,b],((([a,b]:Do (Do bm)).length:Nat):Int),0,[])=some (a++b):=by
  rw[EB,eK d5,c,ob,cj bv d7,ob,f,EB,eK d5,d,ob,cj bv d7,ob,g,EB,dF d5];simp
 rw[show M+4=(M+3)+1 from rfl,ahA,h,ob];unfold fc;rw[awu (by simp only;omega)];simp only[awv,ob];rw[i,ob]
def Uj{N:Nat}(K:Fu+24<=N){n:Nat}(J:1<=n){u v:Nat}(l:u<n)(o:v<n)(w:Int)(x y:In)(z A B R:Int)(t:In)(p:Int):∀(d m:Nat) (f:Int) (g:Do bm) (D E:In) (F G H:Int),f+1<=d->-1<=f->f<=100->d<m->g.length<=100000->
 ∃(k:Do bm) (L M:In) (O P Q:Int),CP N m (f,w,x,y,z,A,B,(u:Int),(v:Int),R,t,(n:Int),D,E,F,G,H,p,g)=some (w,x,y,z,A,B,(n:Int),L,M,O,P,Q,p,k)/\bX k=bX g/\(t=true->p=(gT n:Int)->f<=p->GR n g->Mid n g u v f->GL n k/\(Hm n g u v f->Hv n k))/\(t=false->k=g)
 |d,0,_,_,_,_,_,_,_,_,_,_,h,_=>absurd h bv
 |d,m+1,f,g,D,E,F,G,H,a1,a2,a0,a3,I=>by
  rw[V8];cases t with
  |false=>exact⟨_,_,_,_,_,_,rfl,rfl,(λh=>by cases h),λ_=>rfl⟩
  |true=>
   rw[awv,cd];by_cases c:0<=f
   .obtain⟨b,k,Y,Z,a5,t5,t6,S,i,s⟩:=asp K J g I u v l o f D E F G H p
    rw[av3 c,S,ob];cases b with
    |true=>exact⟨_,_,_,_,_,_,rfl,i,λ_ e X a j=>⟨(aiT a j c bv l o i (by rw[<-e];exact s a)).2 rfl,λr=>(ana a j r c bv l o i (by rw[<-e];exact s a)).2 rfl⟩,(λh=>by cases h)⟩
    |false=>
     simp only[axg,awv];rw[gw bv bv];obtain⟨a6,L,M,O,P,Q,U,V,W,_⟩:=Uj K J l o w x y z A B R true p (d - 1) m (f - 1) k Y Z a5 t5 t6 bv bv bv bv (by rw[<-fB,i,fB];exact I);refine⟨_,_,_,_,_,_,U,V.trans i,λ_ e X a j=>?_,(λh=>by cases h)⟩;have C:=(aiT a j c bv l o i (by rw[<-e];exact s a)).1 rfl;have q:=W rfl e bv (a.edg i C.ok C.ac) C;exact⟨q.1,λr=>q.2 ((ana a j r c bv l o i (by rw[<-e];exact s a)).1 rfl)⟩
   .rw[av2 c]
    refine⟨_,_,_,_,_,_,rfl,rfl,λ_ _ _ a j=>⟨⟨a,?_⟩,λr=>r.1⟩,(λh=>by cases h)⟩;obtain rfl:f= -1:=bv
    exact alM j
def aiU{e:Int×Int}(h:e.1<e.2):dQ e=e:=by
 obtain⟨a,b⟩:=e;simp only at h;unfold dQ;simp only;exact axz (by simp only;omega) (by simp only;omega)
def apq{N:Nat}(V:Fu+26<=N){n:Nat}(ts:Do bm)(O:ts.length<=100000){u v:Nat}(Y:u<v):∃(e:Int) (c:Do bm) (C D:In) (E F G:Int),Oz N ((n:Int),ts,(u:Int),(v:Int))=some (e,(n:Int),c,C,D,E,F,G)/\
 ((e≠0/\c=ts/\(v<n->((u:Int),(v:Int))∈bX ts->e=1/\¬GR n ts))\/e=0/\c.length<=ts.length/\(bX c).Sublist (bX ts)/\((u:Int),(v:Int))∉bX c/\(∀x∈bX ts,x≠((u:Int),(v:Int))->x∈bX c)/\(GL n ts->GL n c/\(Hv n ts->Hv n c))):=by
 obtain⟨N,rfl⟩:=sC N 1;have U:=bJ;rw[adh];rcases Uf (N:=N) bv n ts O (u:Int) (v:Int)with⟨e,m,a⟩|⟨k,x,m,h,fj,d,B⟩
 .rw[m,ob,cnF (by simp only;rcases a with⟨rfl,_⟩|⟨rfl,_⟩|⟨rfl,_⟩<;>decide)]
  refine⟨_,_,_,_,_,_,_,rfl,.inl ⟨by rcases a with⟨rfl,_⟩|⟨rfl,_⟩|⟨rfl,_⟩<;>decide,rfl,λZ i=>?_⟩⟩;rcases a with⟨rfl,a⟩|⟨_,a⟩|⟨_,_,_,a⟩
  .exact⟨rfl,a⟩
  .exact absurd (show l5 (n:Int) ((u:Int),(v:Int))from⟨by simp only;omega,by simp only;omega⟩) a
  .rw[aiU (by simp only;omega)]at a
   exact absurd i a
 .have W:=Sp.cS d
  have R:=h.tie x (awg d);unfold dM at R;unfold l5 at fj;simp only at fj;have X:=yf n;have b:x.1=(u:Int)/\x.2.1=(v:Int):=by
   unfold dQ at B;simp only[awn]at B;omega
  rw[m,ob,DR rfl];simp only;rw[ba d,ob,wN bv bv,ob,bW bv,wO bv bv,ob,av9,av9,WB bv _ _ (by rw[awM];omega) (by rw[axO];omega),ob,OZ bv h.lo h.hi,ob,b.1,b.2];have L:(ts.take k++ts.drop (k+1)).length<=100000:=by rw[awl,awM,axO];omega
  obtain⟨c,r2,r3,r4,r5,r6,a,l,H,I⟩:=Uj (N:=N) bv h.lo (u:=u) (v:=v) bv bv 0 false false 0 0 0 x.2.2.1 x.2.2.2 (gT n:Int) (x.2.2.1.toNat+1) N x.2.2.1 _ x.2.2.2 false 0 0 0 bv bv bv bv L;rw[a,ob];have p:bX (ts.take k++ts.drop (k+1))=(bX ts).eraseIdx k:=by
   unfold bX;rw[aBd,awQ,ays,ayI]
  have M:(bX ts)[k]? =some ((u:Int),(v:Int)):=by
   unfold bX;rw[awp,d,aw9,b.1,b.2]
  have z:=lV M;refine⟨_,_,_,_,_,_,_,rfl,.inr ⟨rfl,?_,?_,λi=>?_,λy S P=>?_,λJ=>?_⟩⟩
  .rw[<-fB,l,fB,awl,awM,axO];omega
  .rw[l,p];exact azI _ _
  .rw[l,p]at i
   have Q:=z.nodup_iff.1 (nY (rN h.TV));exact(axc.1 Q).1 i
  .rw[l,p]
   exact(awr.1 (z.mem_iff.1 S)).resolve_left P
  .have r:=aiP h.tie ((Al h.lo h.hi h.tie).1 h.fst) J.2 d
   rw[b.1,b.2,av9,av9]at r;have w:Ac n (TK (ts.take k++ts.drop (k+1)) 0)->GR n (ts.take k++ts.drop (k+1)):=λK=>by
    have s:(ts.take k++ts.drop (k+1)).Sublist ts:=by rw[<-aBd];exact azI _ _
    have A:∀t∈ts.take k++ts.drop (k+1),dM n t:=λt i=>h.tie t (s.subset i);exact⟨h.lo,h.hi,awH s.length_le h.len,A,h.TV.sublist s,(Al h.lo h.hi A).2 K⟩
   cases j:x.2.2.2 with
   |true=>
    have f:=r.2 j;have q:=H j rfl bv (w f.ac) f;refine⟨q.1,λo=>q.2 ?_⟩;have g:=(abb o d).2 j bv bv bv (by rw[b.1,b.2,av9,av9];exact f.ap);rw[b.1,b.2,av9,av9]at g;exact g
   |false=>
    have f:=r.1 j;rw[I j];exact⟨⟨w f.1,f.2⟩,λo=>(abb o d).1⟩
def drop_eq{N:Nat}(hN:Fu+30<=N)(h:GR b a)(l:bh)(X:l.length<=10000):∃(e:Int) (j:Do bm) (all:Do (In×In×(Int×Int)×Int)),wL N ((b:Int),a,l)=some (e,(b:Int),j,all)/\
 ((e≠0/\j=a/\((∀x∈l,l5 (b:Int) x)->e=1/\¬Ly a))\/e=0/\(bX j).Sublist (bX a)/\(∀x∈bX j,x∉l.map dQ)/\(l=[]->j=a)/\(Ly a->GL b j/\(Hv b a->Hv b j))):=by
 obtain⟨N,rfl⟩:=sC N 1;have hF:=bJ;have a3:=h.len;rw[adi];rcases aa9 (N:=N) bv h l X with⟨w,z⟩|⟨f,w,fj,r,H⟩
 .rw[w,ob,cnF d5]
  exact⟨_,_,_,rfl,.inl ⟨d6,rfl,λq=>absurd q z⟩⟩
 .have a2:f.length<=400:=by have:=r.length_le;rw[fB]at this;omega
  rw[w,ob,DR rfl];simp only;obtain⟨c,C,hq⟩:=lp (F:=λm k (q:Do (In×In×(Int×Int)×Int)×Do bm)=>CQ N m (((f.length:Nat):Int),(k:Int),(b:Int),a,(0:Int),q.1,(b:Int),q.2,f)) (n:=f.length) (Q:=λc=>(c=.inr ((1:Int),(b:Int),a)/\¬Ly a)\/∃all n,c=.inl ((0:Int),all,(b:Int),n)/\(bX n).Sublist (bX a)/\(∀x∈f,x∉bX n)/\(f=[]->n=a)/\(Ly a->GL b n/\(Hv b a->Hv b n)))
   (I:=λk q=>q.1.length<=k/\q.2.length<=a.length/\(bX q.2).Sublist (bX a)/\(∀x∈f.take k,x∉bX q.2)/\(f=[]->q.2=a)/\(∀x∈f.drop k,x∈bX q.2)/\(Ly a->GL b q.2/\(Hv b a->Hv b q.2))) (λm k q W o=>by
    obtain⟨i1,i2,i3,i4,i5,D,t⟩:=o;obtain⟨x,d⟩:=get_at (xs:=f) (i:=k) W;have a1:=yc h.tie x (r.subset (awg d));have G:=cN d;have J:=(nY (rN h.TV)).sublist r;rw[<-axw k f,G]at J;have a0:=(axc.1 (awR.1 J).2.1).1;rw[G]at D;obtain⟨x1,x2⟩:=x;simp only at a1;obtain⟨u,rfl⟩:=nN x1;obtain⟨v,rfl⟩:=nN x2;obtain⟨e,j,L,M,O,P,R,z,A⟩:=apq (N:=N) bv (n:=b) q.2 bv (u:=u) (v:=v) bv;rw[JA,eK bv,ba d,ob,ob];simp only;rw[z,ob,Mz];rcases A with⟨A,S,p⟩|⟨rfl,S,p,B,U,E⟩
    .obtain⟨rfl,B⟩:=p bv (D _ d5)
     rw[av2 A];exact .inr ⟨_,rfl,.inl ⟨rfl,λq=>B (t q).1.1⟩⟩
    .rw[av3 rfl,cj bv d7,ob,bW bv]
     refine .inl ⟨(q.1++[(L,M,(O,P),R)],j),⟨by simp;omega,by simp only;omega,p.trans i3,λy g=>?_,(λe=>by rw[e]at d;simp at d),(λy g=>U y (D y (aw5 _ g)) λe=>a0 (e▸g)),λq=>⟨(E (t q).1).1,λV=>(E (t q).1).2 ((t q).2 V)⟩⟩,rfl⟩;rw[bZ d]at g;rcases awc.1 g with g|g
     .exactλh=>i4 y g (p.subset h)
     .rw[awq.1 g];exact B) (λm q o=>⟨_,by rw[JA,dF bv],.inr ⟨q.1,q.2,rfl,o.2.2.1,by have:=o.2.2.2.1;rw[awA (av5 _)]at this;exact this,o.2.2.2.2.1,o.2.2.2.2.2.2⟩⟩) (m:=N) (i:=0) (s:=([],a)) bv bv ⟨d5,av5 _,List.Sublist.refl _,d5,(λ_=>rfl),(λx d=>r.subset d),λq=>⟨⟨h,q⟩,id⟩⟩
  rw[zQ]at C;simp only at C;rw[C,ob];rcases hq with⟨rfl,Z⟩|⟨all,n,rfl,K,q2,q3,q4⟩
  .exact⟨_,_,_,rfl,.inl ⟨(by show(1:Int)≠0;decide),rfl,λ_=>⟨rfl,Z⟩⟩⟩
  .refine⟨_,_,_,rfl,.inr ⟨rfl,K,λx d Y=>q2 x ((H x).2 ⟨K.subset d,Y⟩) d,λe=>q3 ?_,q4⟩⟩
   rw[azn];intro x d;have:=((H x).1 d).2;rw[e]at this;simp at this
end
section
open Go Go.RowKit Go.Sort
def adN(n:Int):Prop:=0<=n/\n<65536
def Dv{N:Nat}(c:1<=N)(n:Int):∃b,z8 N n=some b/\(b=true↔adN n):=by
 obtain⟨N,rfl⟩:=sC N 1;refine⟨_,acE N n,?_⟩;have a:wrap .u16 n=n % 65536:=by simp[wZ,wrap,IntKind.bits,IntKind.signed]
 rw[awJ,a,gw bv bv];unfold adN;omega
def WC(e:Int×Int):Prop:=adN e.1/\adN e.2
def WD(a:Int×Int×Int):Prop:=(1<=a.1/\a.1<=4)/\adN a.2.1/\adN a.2.2
def aiV{N:Nat}(h:2<=N)(e:Int×Int):∃b,YL N (e.1,e.2)=some b/\(b=false↔WC e):=by
 obtain⟨N,rfl⟩:=sC N 1;obtain⟨a,f,c⟩:=Dv (N:=N) bv e.1;obtain⟨b,g,d⟩:=Dv (N:=N) bv e.2;rw[agp,f,ob,g];unfold WC;rw[<-c,<-d];cases a<;>cases b<;>exact⟨_,rfl,d5⟩
def aiW{N:Nat}(j:2<=N)(e:Int×Int×Int):∃b,YP N (e.1,e.2.1,e.2.2)=some b/\(b=false↔WD e):=by
 obtain⟨N,rfl⟩:=sC N 2;obtain⟨a,g,d⟩:=Dv (N:=N+1) bv e.2.1;obtain⟨b,h,f⟩:=Dv (N:=N+1) bv e.2.2;have i:N7 (N+1) e.1=some (decide (1<=e.1/\e.1<=4)):=by
  rw[acF,cd];by_cases c:1<=e.1<;>simp[c]
 rw[agt,i,ob,g,h];unfold WD;rw[<-d,<-f];by_cases c:1<=e.1/\e.1<=4
 .rw[awu c]
  cases a<;>cases b<;>exact⟨_,rfl,by simp[c]⟩
 .rw[awz c]
  exact⟨_,rfl,by simp[c]⟩
def alR{N:Nat}(u:Fu+4<=N)(l:bh)(v:l.length<=100000):∃b,ags N l=some b/\(b=false↔∀e∈l,WC e):=by
 obtain⟨N,rfl⟩:=sC N 2;have t:=bJ;obtain⟨b,g,r⟩:=lp (F:=λm k (_:Unit)=>G9 N m (l,((l.length:Nat):Int),(k:Int))) (n:=l.length) (Q:=λb=>(b=.inl ()/\∀e∈l,WC e)\/∃k:Nat,b=.inr (k:Int)/\¬∀e∈l,WC e) (I:=λk _=>∀e∈l.take k,WC e) (λm k s j d=>by
  obtain⟨x,f⟩:=get_at (xs:=l) (i:=k) j;have p:=awg f;obtain⟨o,q,a⟩:=aiV (N:=N) bv x;rw[LX,eK bv,ba f,ob,q,ob];cases o with
  |true=>exact .inr ⟨_,rfl,.inr ⟨k,rfl,λh=>by have:=a.2 (h x p);cases this⟩⟩
  |false=>
   refine .inl ⟨(),λe c=>?_,by rw[av8,bW bv]⟩;rw[bZ f]at c;rcases awc.1 c with c|c
   .exact d e c
   .rw[awq.1 c];exact a.1 rfl) (λm s d=>⟨_,by rw[LX,dF bv],.inl ⟨rfl,by rw[awA (av5 _)]at d;exact d⟩⟩) (m:=N) (i:=0) (s:=()) bv bv d5
 rw[zQ]at g;rw[ak8,agr,g,ob];rcases r with⟨rfl,h⟩|⟨k,rfl,h⟩
 .exact⟨_,rfl,λ_=>h,λ_=>rfl⟩
 .refine⟨_,rfl,λa=>?_,λa=>absurd a h⟩
  have:=axT a;omega
def alS{N:Nat}(u:Fu+4<=N)(l:lz)(v:l.length<=100000):∃b,agw N l=some b/\(b=false↔∀e∈l,WD e):=by
 obtain⟨N,rfl⟩:=sC N 2;have t:=bJ;obtain⟨b,g,r⟩:=lp (F:=λm k (_:Unit)=>G_ N m (l,((l.length:Nat):Int),(k:Int))) (n:=l.length) (Q:=λb=>(b=.inl ()/\∀e∈l,WD e)\/∃k:Nat,b=.inr (k:Int)/\¬∀e∈l,WD e) (I:=λk _=>∀e∈l.take k,WD e) (λm k s j d=>by
  obtain⟨x,f⟩:=get_at (xs:=l) (i:=k) j;have p:=awg f;obtain⟨o,q,a⟩:=aiW (N:=N) bv x;rw[LY,eK bv,ba f,ob,q,ob];cases o with
  |true=>exact .inr ⟨_,rfl,.inr ⟨k,rfl,λh=>by have:=a.2 (h x p);cases this⟩⟩
  |false=>
   refine .inl ⟨(),λe c=>?_,by rw[av8,bW bv]⟩;rw[bZ f]at c;rcases awc.1 c with c|c
   .exact d e c
   .rw[awq.1 c];exact a.1 rfl) (λm s d=>⟨_,by rw[LY,dF bv],.inl ⟨rfl,by rw[awA (av5 _)]at d;exact d⟩⟩) (m:=N) (i:=0) (s:=()) bv bv d5
 rw[zQ]at g;rw[ak9,agv,g,ob];rcases r with⟨rfl,h⟩|⟨k,rfl,h⟩
 .exact⟨_,rfl,λ_=>h,λ_=>rfl⟩
 .refine⟨_,rfl,λa=>?_,λa=>absurd a h⟩
  have:=axT a;omega
def WR(k:Int)(b:bh)(c:lz):Prop:=
 ((k=1\/k=2)/\c=[]/\b.length<=60/\∀e∈b,WC e)\/(k=3/\b=[]/\c.length<=60/\∀a∈c,WD a)
def MV{N:Nat}(y:Fu+6<=N)(k:Int)(a:bh)(d:lz)(t:a.length<=100000)(v:d.length<=100000):∃b,N8 N (k,a,d)=some b/\(b=true↔WR k a d):=by
 obtain⟨N,rfl⟩:=sC N 2;obtain⟨p,r,l⟩:=alR (N:=N+1) bv a t;obtain⟨q,s,m⟩:=alS (N:=N+1) bv d v;have o:∀b:In,(b=true↔k=1\/k=2)->∃c,(aW (some (k,b,k,a,d)) λe=>cond e.2.1
  (cond (decide ((((List.length e.2.2.2.2):Nat):Int)=(0:Int)))
   (cond (decide ((((List.length e.2.2.2.1):Nat):Int)<=(60:Int)))
    (aW (ags (N+1) e.2.2.2.1) λw=>
     some (!w))
    (some false))
   (some false))
  (cond (decide (e.1=(3:Int)))
   (cond (decide ((((List.length e.2.2.2.1):Nat):Int)=(0:Int)))
    (cond (decide ((((List.length e.2.2.2.2):Nat):Int)<=(60:Int)))
     (aW (agw (N+1) e.2.2.2.2) λx=>
      some (!x))
     (some false))
    (some false))
   (some false)))=some c/\(c=true↔WR k a d):=λb n=>by
   rw[ob];simp only;unfold WR;cases b with
   |true=>
    have g:=n.1 rfl;rw[awv,cd];by_cases f:d=[]
    .subst f
     rw[av3 d5,cd];by_cases j:a.length<=60
     .rw[av3 bv,r,ob]
      refine⟨_,rfl,?_⟩;cases p
      .exact⟨λ_=>.inl ⟨g,rfl,j,l.1 rfl⟩,λ_=>rfl⟩
      .refine⟨λh=>(by cases h),?_⟩
       rintro(⟨_,_,_,h⟩|⟨h,_⟩)
       .exact absurd (l.2 h) d5
       .omega
     .rw[av2 bv]
      refine⟨_,rfl,λh=>(by cases h),?_⟩;rintro(⟨_,_,h,_⟩|⟨h,_⟩)<;>omega
    .have u:d.length≠0:=λh=>f (aw6 h)
     rw[av2 bv];refine⟨_,rfl,λh=>(by cases h),?_⟩;rintro(⟨_,h,_⟩|⟨h,_⟩)
     .exact absurd h f
     .omega
   |false=>
    have g:¬(k=1\/k=2):=λh=>by have:=n.2 h;cases this
    rw[av8,cd];by_cases i:k=3
    .rw[av3 i,cd]
     by_cases f:a=[]
     .subst f
      rw[av3 d5,cd];by_cases j:d.length<=60
      .rw[av3 bv,s,ob]
       refine⟨_,rfl,?_⟩;cases q
       .exact⟨λ_=>.inr ⟨i,rfl,j,m.1 rfl⟩,λ_=>rfl⟩
       .refine⟨λh=>(by cases h),?_⟩
        rintro(⟨h,_⟩|⟨_,_,_,h⟩)
        .exact absurd h g
        .exact absurd (m.2 h) d5
      .rw[av2 bv]
       refine⟨_,rfl,λh=>(by cases h),?_⟩;rintro(⟨h,_⟩|⟨_,_,h,_⟩)
       .exact absurd h g
       .omega
     .have u:a.length≠0:=λh=>f (aw6 h)
      rw[av2 bv];refine⟨_,rfl,λh=>(by cases h),?_⟩;rintro(⟨h,_⟩|⟨_,h,_⟩)
      .exact absurd h g
      .exact absurd h f
    .rw[av2 i]
     refine⟨_,rfl,λh=>(by cases h),?_⟩;rintro(⟨h,_⟩|⟨h,_⟩)
     .exact absurd h g
     .exact absurd h i
 rw[acG,V1,cd];by_cases c:k=1
 .rw[av3 c];exact o true (by simp[c])
 .rw[av2 c];exact o (decide (k=2)) (by simp[c])
def xd(a:Int×Int×Int):aX:=if a.1=1 then [a.2.1,a.2.2]else if a.1=2\/a.1=3 then [a.2.1]else []
def MW(a:bh)(qs:lz):aX:=a.flatMap (λe=>[e.1,e.2])++qs.flatMap xd
def Ka(a:Int×Int×Int):(xd a).length<=2:=by unfold xd;split<;>(try split)<;>simp
def aiX(c:1<=b)(a:Int×Int×Int):YT b (a.1,a.2.1,a.2.2)=some (xd a):=by
 obtain⟨b,rfl⟩:=sC b 1;rw[agx,cd,cd,cd];unfold xd;split
 .rfl
 .split
  .rw[av3 bv]
  .split
   .rw[av3 bv]
   .rw[av2 bv]
def alT(t:Fu+3<=e)(k:Int)(c:bh)(d:lz)(u:c.length<=1000)(w:d.length<=1000):Y0 e (k,c,d)=some (MW c d):=by
 obtain⟨e,rfl⟩:=sC e 1;have r:=bJ;have j:=MM (F:=λm i (s:aX)=>Hb e m (c,((c.length:Nat):Int),(i:Int),k,c,d,s)) (n:=c.length) (b:=(k,c,d,c.flatMap λa=>[a.1,a.2])) (I:=λi s=>s=(c.take i).flatMap (λa=>[a.1,a.2])/\s.length<=2*i) (λm i s h f=>by
  obtain⟨x,g⟩:=get_at (xs:=c) (i:=i) h;have:=f.2;exact⟨s++[x.1,x.2],⟨by rw[f.1,bZ g,azN];rfl,by simp;omega⟩,by rw[L0,eK bv,ba g,ob,cj bv d7,ob,bW bv]⟩) (λm s f=>by rw[L0,dF bv,f.1,awA (av5 _)]) (m:=e) (i:=0) (s:=[]) bv bv ⟨d5,d5⟩
 have p:∀l:bh,(l.flatMap λa=>[a.1,a.2]).length=2*l.length:=λl=>by
  induction l with
  |nil=>rfl
  |cons x l q=>rw[awF,awl,q];simp;omega
 have o:=MM (F:=λm i (s:aX)=>Ha e m (d,((d.length:Nat):Int),(i:Int),s)) (n:=d.length) (b:=MW c d) (I:=λi s=>s=(c.flatMap λa=>[a.1,a.2])++(d.take i).flatMap xd/\s.length<=2000+2*i) (λm i s h f=>by
  obtain⟨x,g⟩:=get_at (xs:=d) (i:=i) h;have:=f.2;have v:=Ka x;exact⟨s++xd x,⟨by rw[f.1,bZ g,azN,awx];simp,by rw[awl];omega⟩,by rw[LZ,eK bv,ba g,ob,aiX bv,ob,cj bv bv,ob,bW bv]⟩) (λm s f=>by rw[LZ,dF bv,f.1,awA (av5 _)];rfl) (m:=e) (i:=0) (s:=c.flatMap λa=>[a.1,a.2]) bv bv ⟨d5,by rw[p];omega⟩
 rw[zQ]at j o;rw[agy,j,ob];simp only;rw[o,ob]
def adO(b:bh)(a:lz)(g:b.length<=1000)(h:a.length<=1000):(MW b a).length<=4000:=by
 have d:∀l:bh,(l.flatMap λe=>[e.1,e.2]).length=2*l.length:=λl=>by
  induction l with
  |nil=>rfl
  |cons x l c=>rw[awF,awl,c];simp;omega
 have f:∀l:lz,(l.flatMap xd).length<=2*l.length:=λl=>by
  induction l with
  |nil=>simp
  |cons x l c=>rw[awF,awl,aws];have:=Ka x;omega
 have:=f a;unfold MW;rw[awl,d];omega
def aiY{N:Nat}(t:Fu+4<=N)(n:Int)(e:Do bm)(a:aX)(d:a.length<=100000):∃b,Y4 N (a,n,e)=some (b,n,e)/\(b=false↔∀v∈a,v<n):=by
 obtain⟨N,rfl⟩:=sC N 2;have r:=bJ;obtain⟨b,l,q⟩:=lp (F:=λm k (_:Unit)=>Hc N m (a,((a.length:Nat):Int),(k:Int),n,e)) (n:=a.length) (Q:=λb=>(b=.inl (n,e)/\∀v∈a,v<n)\/∃k:Nat,b=.inr ((k:Int),n,e)/\¬∀v∈a,v<n) (I:=λk _=>∀v∈a.take k,v<n) (λm k s o f=>by
  obtain⟨x,j⟩:=get_at (xs:=a) (i:=k) o;have p:=awg j;obtain⟨M,rfl⟩:=sC N 1;rw[L1,eK bv,ba j,ob,agA,ob];simp only;rw[cd];by_cases c:n<=x
  .rw[av3 c];exact .inr ⟨_,rfl,.inr ⟨k,rfl,λh=>by have:=h x p;omega⟩⟩
  .rw[av2 c,bW bv]
   refine .inl ⟨(),λv d=>?_,rfl⟩;rw[bZ j]at d;rcases awc.1 d with d|d
   .exact f v d
   .rw[awq.1 d];omega) (λm s f=>⟨_,by rw[L1,dF bv],.inl ⟨rfl,by rw[awA (av5 _)]at f;exact f⟩⟩) (m:=N) (i:=0) (s:=()) bv bv d5
 rw[zQ]at l;rw[agD,agC,l,ob];rcases q with⟨rfl,h⟩|⟨k,rfl,h⟩
 .exact⟨_,rfl,λ_=>h,λ_=>rfl⟩
 .refine⟨_,rfl,λg=>?_,λg=>absurd g h⟩
  have:=axT g;simp only at this;omega
end
end Go.Proofs.YtillffjlojlhoaaGreatDoor
namespace Go.Proofs.YtillffjlojlhoaaGreatDoor.Dd
def lp{σ β:Type}{F:Nat->Nat->σ->At β}{n:Nat}{I:Nat->σ->Prop}{Q:β->Prop}(g:∀m i s,i<n->I i s->(∃d,I (i+1) d/\F (m+1) i s=F m (i+1) d)\/∃b,F (m+1) i s=some b/\Q b)
 (f:∀m s,I n s->∃b,F (m+1) n s=some b/\Q b):∀{m i:Nat} {s:σ},n - i<m->i<=n->I i s->∃b,F m i s=some b/\Q b
 |0,i,s,h,_,_=>absurd h bv
 |m+1,i,s,h,k,e=>by
  by_cases c:i<n
  .rcases g m i s c e with⟨d,a,j⟩|a
   .rw[j];exact lp g f bv bv a
   .exact a
  .obtain rfl:i=n:=bv
   exact f m s e
def WE{σ β:Type}{F:Nat->Nat->σ->At β}{n:Nat}{I:Nat->σ->Prop}{Q:β->Prop}(g:∀m i s,i<n->I i s->∃a,I (i+1) a/\F (m+1) i s=F m (i+1) a)(e:∀m s,I n s->∃b,F (m+1) n s=some b/\Q b)
 {m:Nat} {s:σ} (h:n<m) (c:I 0 s):∃b,F m 0 s=some b/\Q b:=lp (λm i s f d=>.inl (g m i s f d)) e bv bv c
def wU(x:Int):wrap .u32 x=x % 4294967296:=aAE x
def aiZ{α:Type}{a:Do α}{f:Nat->α}{k:Nat}(b:k<a.length)(h:∀j,j<k->a[j]? =some (f j)):∀j,j<k+1->(a.set k (f k))[j]? =some (f j):=λj d=>by
 rw[aw0];by_cases c:k=j
 .subst c;rw[av3 rfl,av3 b]
 .rw[av2 c];exact h j bv
def Dw{α:Type}{a:Do α}{f:Nat->α}{n:Nat}(b:a.length=n)(h:∀j,j<n->a[j]? =some (f j)):a=(List.range n).map f:=by
 refine axA λj=>?_;by_cases c:j<n
 .rw[h j c,awp,axJ c];rfl
 .rw[awO bv,awO d7]
def sa(l:aX)(i:Nat):Int:=(l.take i).sum % 4294967296
def Uk{l:aX}{i:Nat}{x:Int}(h:l[i]? =some x):sa l (i+1)=(sa l i+x) % 4294967296:=by
 unfold sa;rw[List.take_add_one,h];simp
def ca(l:aX)(b i:Nat):aX:=(l.take ((i+1)*b)).drop (i*b)
def ai0(l:aX)(b i:Nat):l.take (i*b)++ca l b i=l.take ((i+1)*b):=by
 unfold ca;have:l.take (i*b)=(l.take ((i+1)*b)).take (i*b):=by
  rw[ayo,axj (ax_ _ bv)]
 rw[this,axw]
def O5(l:aX)(b i:Nat):(ca l b i).length=min ((i+1)*b) l.length - i*b:=by simp[ca]
def O6{l:aX}{b:Nat}{a:aX}:∀(i:Nat),(∀j,j<i->a[j]? =some ((ca l b j).sum % 4294967296))->sa a i=sa l (i*b)
 |0,_=>by simp[sa]
 |i+1,h=>by
  rw[Uk (h i bv),O6 i (λj c=>h j bv)];unfold sa;rw[<-ai0,azO];simp
def asq{l:aX}{b i k:Nat}(a:k<=b):(sa l (i*b)+sa (ca l b i) k) % 4294967296=sa l (i*b+k):=by
 have:l.take (i*b)++(ca l b i).take k=l.take (i*b+k):=by
  unfold ca;rw[List.take_drop,ayo,azf,axj bv];have:l.take (i*b)=(l.take (i*b+k)).take (i*b):=by
   rw[ayo,axj bv]
  rw[this,axw]
 unfold sa;rw[<-this,azO];simp
def hA(l:aX):aX:=(List.range l.length).map (sa l)
def Am{l:aX}{i:Nat}(h:i<l.length):(hA l)[i]? =some (sa l i):=by
 unfold hA;rw[awp,axJ h];rfl
def Kb{N:Nat}(h:Fu+3<=N)(l:aX)(p:l.length<=100000):L5 N l=some (sa l l.length,hA l):=by
 obtain⟨N,rfl⟩:=sC N 2;have g:=bJ;obtain⟨b,d,rfl⟩:=WE (F:=λm k (s:Int×aX)=>Hf (N+1) m (s.1,l,((l.length:Nat):Int),(k:Int),s.2)) (n:=l.length) (Q:=λb=>b=(sa l l.length,hA l)) (I:=λk s=>s.1=sa l k/\s.2.length=l.length/\∀j,j<k->s.2[j]? =some (sa l j)) (λm k s c a=>by
  obtain⟨x,e⟩:=get_at (xs:=l) (i:=k) c;obtain⟨y,f⟩:=get_at (xs:=s.2) (i:=k) (by rw[a.2.1];exact c);refine⟨(sa l (k+1),s.2.set k (sa l k)),⟨rfl,by simp[a.2.1],aiZ (by rw[a.2.1];exact c) a.2.2⟩,?_⟩;rw[L6,eK bv,ba e,ob,ba f,ob,ob,L4,ob,wU,a.1,<-Uk e,bW bv];rfl) (λm s a=>⟨_,by rw[L6,dF bv],by rw[a.1,Dw a.2.1 a.2.2];rfl⟩) (m:=N+1) (s:=(0,replicate l.length 0)) bv ⟨by simp[sa],d5,λj o=>by omega⟩
 rw[agY,oH bv bv bv,ob,av9];rw[zQ]at d;rw[d,ob]
def yo(n b:Nat):Nat:=(n+b - 1)/b
def An{n b i:Nat}(a:1<=b):i<yo n b↔i*b<n:=by
 unfold yo;rw[Nat.lt_iff_add_one_le,azG bv,azf];omega
def EM{n b:Nat}(a:1<=b):yo n b<=n:=by
 unfold yo;rcases ayu n with h|h
 .subst h;rw[aAo bv];omega
 .rw[Nat.div_le_iff_le_mul_add_pred bv]
  have:n<=b*n:=Nat.le_mul_of_pos_left n bv;omega
def HF{N:Nat}(m:1<=N){l:aX}{b i:Nat}(n:b<=100)(f:1<=b)(o:l.length<=100000)(g:i<yo l.length b):I9 N (l,(i:Int),(b:Int))=some (ca l b i):=by
 obtain⟨N,rfl⟩:=sC N 1;have h:=(An f).1 g;have a:(i:Int)*(b:Int)=((i*b:Nat):Int):=by rw[ax1]
 have d:((i:Int)+1)*(b:Int)=(((i+1)*b:Nat):Int):=by rw[ax1];rfl
 have j:(i+1)*b=i*b+b:=azf _ _;have k:i<=i*b:=aBe i bv;rw[acW,show wZ ((i:Int)+1)=(i:Int)+1 from gw bv bv,a,d,gw (x:=((i*b:Nat):Int)) bv bv,gw (x:=(((i+1)*b:Nat):Int)) bv bv];have e:(if(((i+1)*b:Nat):Int)<((l.length:Nat):Int)then(((i+1)*b:Nat):Int)else((l.length:Nat):Int))=((min ((i+1)*b) l.length:Nat):Int):=by split<;>omega
 rw[e,OF bv bv bv,ob];unfold ca;rw[av9,av9];congr 2;rcases ayf ((i+1)*b) l.length with c|c
 .rw[axj c]
 .rw[ayv c,awA (av5 _),awA c]
def ai1(g P:Int)(b:bh):Prop:=∀n:Nat,n<=60->∃(t:Nat) (a:aX),a.Perm (Sp.xc n)/\t<=100000/\∀N,Fu+13<=N->k9 N ((n:Int),g,P,b)=some ((t:Int),0,a)
def anb{g P:Nat}(a:1<=g)(d:g<=100)(e:1<=P)(b:P<=8){picks:bh}(j:picks.length<=200):ai1 (g:Int) (P:Int) picks:=λn i=>by
 rcases ayu n with h|h
 .subst h
  refine⟨0,[],by simp[Sp.xc],bv,λN f=>?_⟩;obtain⟨N,rfl⟩:=sC N 2;rw[Ex,dF bv,dF bv,Er,eK bv,eK bv,eK bv,eK bv,ob,awu (show((picks.length:Nat):Int)<=4000 by omega)];rfl
 .obtain⟨s,c,m,q,o⟩:=Sp.aiI (n:=n) bv i a d e b picks j
  have r:=Sp.T8 (g:=g) a n n (av5 _) bv;have p:P*Sp.tn g n<=8*119:=axC b bv;have l:=c.cr.ovr.1 m;have k:=c.cr.job.pu;rw[l,azJ,awN]at k;exact⟨_,_,k,bv,λN f=>Sp.aiK bv i a d e b j c bv o f⟩
def Dx{n:Nat}{x:Int}:x∈Sp.xc n↔∃i:Nat,x=(i:Int)/\i<n:=by
 unfold Sp.xc;simp only[awe,awE];constructor
 .rintro⟨i,h,rfl⟩;exact⟨i,rfl,h⟩
 .rintro⟨i,rfl,h⟩;exact⟨i,h,rfl⟩
def MX{N:Nat}(c:2<=N){n b:Nat}(e:n<=1000)(a:1<=b)(d:b<=100):Oa N ((n:Int),(b:Int))=some ((yo n b:Nat):Int):=by
 obtain⟨N,rfl⟩:=sC N 2;have:=EM (n:=n) a;rw[acJ,dF bv,dF bv,Ep,eK bv,ob,awu bv];simp only[awj,av8];rw[show wZ ((n:Int)+(b:Int))=((n+b:Nat):Int) by rw[gw bv bv];omega,show wZ (((n+b:Nat):Int) - 1)=((n+b - 1:Nat):Int) by rw[gw bv bv];omega,OG bv,ob,wP];rw[show(n+b - 1)/b=yo n b from rfl,gw bv bv]
def abe{N:Nat}(hN:Fu+20<=N){g P:Int}{X:bh}(hO:ai1 g P X){l:aX}(hl:l.length<=60){b:Nat}(w:1<=b)(H:b<=100):
 ∃t:Nat,t<=200000/\I_ N (l,(b:Int),g,P,X)=some (sa l l.length,(t:Int),0,hA l):=by
 obtain⟨N,rfl⟩:=sC N 2;have hF:=bJ;have ab:=EM (n:=l.length) w;obtain⟨t,f,G,ht,J⟩:=hO (yo l.length b) bv;refine⟨2*t,bv,?_⟩;have ac:f.length<=60:=by rw[G.length_eq];simp[Sp.xc];omega
 have W:∀{k:Nat} {x:Int},f[k]? =some x->∃i:Nat,x=(i:Int)/\i<yo l.length b:=λh=>Dx.1 (G.mem_iff.1 (awg h));obtain⟨b1,M,p,rfl,a5,V⟩:=WE (F:=λm k (s:aX)=>Hh N m (l,(b:Int),(t:Int),((f.length:Nat):Int),(k:Int),f,s)) (n:=f.length) (Q:=λr=>∃p:aX,r=(l,(b:Int),(t:Int),f,p)/\p.length=yo l.length b/\∀j,j<yo l.length b->p[j]? =some ((ca l b j).sum % 4294967296))
  (I:=λk s=>s.length=yo l.length b/\∀j:Nat,(j:Int)∈f.take k->s[j]? =some ((ca l b j).sum % 4294967296)) (λm k s C e=>by
   obtain⟨x,z⟩:=get_at (xs:=f) (i:=k) C;obtain⟨i,rfl,q⟩:=W z;obtain⟨y,K⟩:=get_at (xs:=s) (i:=i) (by rw[e.1];exact q);have E:(ca l b i).length<=100000:=by rw[O5];omega
   refine⟨s.set i ((ca l b i).sum % 4294967296),⟨by simp[e.1],λj o=>?_⟩,?_⟩
   .rw[aw0]
    by_cases c:i=j
    .subst c;rw[av3 rfl,av3 (by rw[e.1];exact q)]
    .rw[av2 c]
     rw[bZ z]at o;rcases awc.1 o with o|o
     .exact e.2 j o
     .have:=awq.1 o;omega
   .rw[L9,eK bv,ba z,ob,ob,HF bv H w bv q,ob,Kb bv _ E,ob,ba K,ob,ob,bW bv]
    unfold sa;rw[awA (av5 _)];rfl) (λm s e=>⟨_,by rw[L9,dF bv],s,rfl,e.1,λj o=>e.2 j (by rw[awA (av5 _)];exact G.mem_iff.2 (Dx.2 ⟨j,rfl,o⟩))⟩) (m:=N) (s:=replicate (yo l.length b) 0) bv ⟨d5,λj o=>by simp at o⟩
 have a0:sa p p.length=sa l l.length:=by
  rw[a5,O6 _ V];unfold sa;have a2:l.length<=yo l.length b*b:=by
   rcases axF (yo l.length b*b) l.length with c|c
   .have:=(An w).2 c;omega
   .exact c
  rw[awA a2,awA (av5 _)]
 have a7:(hA p).length=p.length:=by simp[hA]
 have fj:∀i:Nat,i<yo l.length b->∀(v:Int) (D:aX),D.length=l.length->∃r,Cd N N (l,(b:Int),sa l l.length,(t:Int),(i:Int),((f.length:Nat):Int),v,(((hA (ca l b i)).length:Nat):Int),((0:Nat):Int),D,hA p,f,hA (ca l b i))=some r/\∃B:aX,r=(l,(b:Int),sa l l.length,(t:Int),((f.length:Nat):Int),v,B,hA p,f)/\
  B.length=l.length/\∀j:Nat,(i*b<=j->j<(i+1)*b->j<l.length->B[j]? =some (sa l j))/\(j<i*b\/(i+1)*b<=j->B[j]? =D[j]?):=λi q v D J=>by
  have E:=O5 l b i;have a9:=(An w).1 q;have h2:(i+1)*b=i*b+b:=azf _ _;have a8:i<=i*b:=aBe i bv;have Y:(i:Int)*(b:Int)=((i*b:Nat):Int):=by rw[ax1]
  have aa:(hA (ca l b i)).length=(ca l b i).length:=by simp[hA]
  refine WE (F:=λm k (s:aX)=>Cd N m (l,(b:Int),sa l l.length,(t:Int),(i:Int),((f.length:Nat):Int),v,(((hA (ca l b i)).length:Nat):Int),(k:Int),s,hA p,f,hA (ca l b i))) (n:=(ca l b i).length)
   (I:=λk s=>s.length=l.length/\∀j:Nat,(i*b<=j->j<i*b+k->s[j]? =some (sa l j))/\(j<i*b\/i*b+k<=j->s[j]? =D[j]?)) (λm k s C e=>?_) (λm s e=>⟨_,by rw[L7,dF bv],s,rfl,e.1,λj=>⟨λA L h5=>(e.2 j).1 A bv,λA=>(e.2 j).2 bv⟩⟩) bv ⟨J,λj=>⟨λA L=>by omega,λ_=>rfl⟩⟩
  have R:i*b+k<l.length:=bv
  obtain⟨y,K⟩:=get_at (xs:=s) (i:=i*b+k) (by rw[e.1];exact R);have a1:(hA p)[i]? =some (sa l (i*b)):=by rw[Am bv,O6 i λj o=>V j bv]
  refine⟨s.set (i*b+k) (sa l (i*b+k)),⟨by simp[e.1],λj=>⟨λA L=>?_,λA=>?_⟩⟩,?_⟩
  .rw[aw0]
   by_cases c:i*b+k=j
   .subst c;rw[av3 rfl,av3 (by rw[e.1];exact R)]
   .rw[av2 c];exact(e.2 j).1 A bv
  .rw[aw0,av2 bv]
   exact(e.2 j).2 bv
  .rw[L7,eK bv,ba (Am C),ob,ob,ba a1,ob,ob,show N=(N - 1)+1 by omega,L4,<-show N=(N - 1)+1 by omega,ob,wU,asq bv,Y,show wZ ((i*b:Nat):Int)=((i*b:Nat):Int)from gw bv bv,show wZ (((i*b:Nat):Int)+(k:Int))=((i*b+k:Nat):Int) by rw[gw bv bv];omega,ba K,ob,ob,bW bv,av9]
 obtain⟨b2,O,rfl⟩:=WE (F:=λm k (s:aX)=>Hg N m (l,(b:Int),sa l l.length,(t:Int),((f.length:Nat):Int),(k:Int),s,hA p,f)) (n:=f.length) (Q:=λr=>r=(sa l l.length,(t:Int),hA l))
  (I:=λk s=>s.length=l.length/\∀j:Nat,j<l.length->((j/b:Nat):Int)∈f.take k->s[j]? =some (sa l j)) (λm k s C e=>by
   obtain⟨x,z⟩:=get_at (xs:=f) (i:=k) C;obtain⟨i,rfl,q⟩:=W z;have E:(ca l b i).length<=100000:=by rw[O5];omega
   obtain⟨r,U,B,rfl,a4,S⟩:=fj i q (k:Int) s e.1;refine⟨B,⟨a4,λj o u=>?_⟩,?_⟩
   .rw[bZ z]at u
    by_cases c:j/b=i
    .subst c
     exact(S j).1 (aBf _ _) (by have:=Nat.lt_div_mul_add (a:=j) (b:=b) bv;rw[azf];exact this) o
    .have a3:((j/b:Nat):Int)∈f.take k:=by
      rcases awc.1 u with u|u
      .exact u
      .have:=awq.1 u;omega
     rw[(S j).2 ?_]
     .exact e.2 j o a3
     .rcases axF (j/b) i with d|d
      .exact .inl ((Nat.div_lt_iff_lt_mul bv).1 d)
      .exact .inr ((azG bv).1 bv)
   .rw[zQ]at U
    rw[L8,eK bv,ba z,ob,ob,HF bv H w bv q,ob,Kb bv _ E,ob];simp only;rw[U,ob,bW bv]) (λm s e=>⟨_,by rw[L8,dF bv],by
    rw[Dw e.1 λj o=>e.2 j o (by rw[awA (av5 _)];exact G.mem_iff.2 (Dx.2 ⟨_,rfl,(An w).2 (aAr (aBf _ _) o)⟩))];rfl⟩) (m:=N) (s:=replicate l.length 0) bv ⟨d5,λj o u=>by simp at u⟩
 have a6:p.length<=100000:=bv
 rw[L_,Sj,show N=(N - 1)+1 by omega,Ep,<-show N=(N - 1)+1 by omega,eK bv,ob,awu bv];simp only[awj,av8];rw[dF bv,MX bv bv w H,ob,J N bv,ob,DR rfl,oH bv bv bv,ob,av9];simp only;rw[zQ]at M O;rw[M,ob];simp only;rw[Kb bv p a6,ob,oH bv bv bv,ob,av9,a0,O,ob,ob];simp only;rw[gw bv bv];have Z:(2:Int)*(t:Int)=((2*t:Nat):Int):=bv
 rw[Z]
def MY{α:Type}(f:α->Nat)(d:Nat)(l:Do α):l.countP (λi=>decide (f i<d+1))=l.countP (λi=>decide (f i<d))+l.countP (λi=>decide (f i=d)):=by
 induction l with
 |nil=>rfl
 |cons x l c=>
  simp only[ayh,c,awJ];by_cases a:f x<d
  .rw[av3 bv,av3 a,av2 bv];omega
  .by_cases b:f x=d
   .rw[av3 bv,av2 a,av3 b];omega
   .rw[av2 bv,av2 a,av2 b];omega
def xe{α:Type}{f:α->Nat}{l:Do α}{k:Nat}{x:α}(h:l[k]? =some x)(d:Nat):(l.take (k+1)).countP (λi=>decide (f i=d))=(l.take k).countP (λi=>decide (f i=d))+if f x=d then 1 else 0:=by
 rw[bZ h,ayP,ayh];simp
def ai2{α:Type}{f:α->Nat}{l:Do α}{k:Nat}{x:α}(h:l[k]? =some x):l.countP (λi=>decide (f i<f x))+(l.take k).countP (λi=>decide (f i=f x))<l.length:=by
 have b:=MY f (f x) l;have c:l.countP (λi=>decide (f i<f x+1))<=l.length:=ayQ;have a:(l.take (k+1)).countP (λi=>decide (f i=f x))<=l.countP (λi=>decide (f i=f x)):=(aAw _ _).countP_le;rw[xe h,av3 rfl]at a;omega
def anc{b:Nat}(a:b<=16):2^b<=65536/\1<=2^b:=⟨aAF bv a,Nat.one_le_two_pow⟩
def MZ{N:Nat}(c:1<=N){b:Nat}(a:1<=b)(d:b<=16):RK N (b:Int)=some ((yo 32 b:Nat):Int):=by
 obtain⟨N,rfl⟩:=sC N 1;have:=EM (n:=32) a;rw[RL,dF bv,dF bv,show wZ ((32:Int)+(b:Int))=((32+b:Nat):Int) by rw[gw bv bv];omega,show wZ (((32+b:Nat):Int) - 1)=((32+b - 1:Nat):Int) by rw[gw bv bv];omega,OG bv,ob,wP];rw[show(32+b - 1)/b=yo 32 b from rfl,gw bv bv]
def Ul(b p:Nat)(x:Int):Nat:=(x.fdiv (2^(p*b)) % 2^b).toNat
def Kc{x:Int}(e:0<=x)(k:x<4294967296){b p:Nat}(c:1<=b)(f:b<=16)(m:p<yo 32 b):Ul b p x<2^b/\∀M,3<=M->Sl M (x,(p:Int),(b:Int))=some (Ul b p x:Int):=by
 unfold Ul;have r:=anc f;have o:p*b<32:=(An c).1 m;have j:(p:Int)*(b:Int)=((p*b:Nat):Int):=by rw[ax1]
 have d:(2:Int)^b=((2^b:Nat):Int):=d5
 have g:0<=x.fdiv (2^(p*b))/\x.fdiv (2^(p*b))<4294967296:=by
  have:(0:Int)<2^(p*b):=Int.pow_pos d6;rw[azL _ bv];exact⟨Int.ediv_nonneg e bv,Int.lt_of_le_of_lt (Int.ediv_le_self _ e) k⟩
 have l:(0:Int)<2^b:=Int.pow_pos d6;refine⟨?_,λM s=>?_⟩
 .have i:=Int.emod_nonneg (x.fdiv (2^(p*b))) (show(2:Int)^b≠0 by omega)
  have q:=Int.emod_lt_of_pos (x.fdiv (2^(p*b))) l;omega
 obtain⟨M,rfl⟩:=sC M 3;have u:=EM (n:=32) c;rw[ag3,ag2,eK bv,MZ bv c f,ob,ob,awu bv];simp only[awj,av8];rw[j,show wZ ((p*b:Nat):Int)=((p*b:Nat):Int)from gw bv bv];have h:∀n:Nat,n<32->wrap .u64 (n:Int)=(n:Int):=λn t=>by simp[wZ,wrap,IntKind.bits,IntKind.signed];omega
 rw[h _ o,h b bv];unfold Qh Vc;rw[av2 bv,av2 bv,ob,ob,av9,av9,axj (show p*b<=IntKind.bits .u32 by show p*b<=32;omega),axj (show b<=IntKind.bits .u32 by show b<=32;omega),Int.one_mul,wU,wU,d,show((2^b:Nat):Int) % 4294967296=((2^b:Nat):Int) by omega,show(((2^b:Nat):Int) - 1) % 4294967296=((2^b:Nat):Int) - 1 by omega,<-d,Nu];rw[bits_mask .u32 32 d6 (λn a b=>by rw[aAE];omega) b bv _ g.1 (by simpa using g.2)];have i:=Int.emod_nonneg (x.fdiv (2^(p*b))) (show(2:Int)^b≠0 by omega);congr 1;omega
def U32(l:aX):Prop:=∀x∈l,0<=x/\x<4294967296
def KM(n:Nat)(l:aX):Prop:=∀x∈l,∃i:Nat,x=(i:Int)/\i<n
def KM.get{n:Nat}{l:aX}(h:KM n l){k:Nat}{x:Int}(a:l[k]? =some x):∃i:Nat,x=(i:Int)/\i<n:=h x (awg a)
def KM.set{n:Nat}{l:aX}(h:KM n l){i k:Nat}(b:i<n):KM n (l.set k (i:Int)):=λx c=>by
 rcases ayj c with a|a
 .exact h x a
 .exact⟨i,a,b⟩
def KM.zero{n m:Nat}(h:0<m->0<n):KM n (replicate m 0):=λx a=>by
 have:=List.mem_replicate.1 a;exact⟨0,this.2,h bv⟩
def asr{N:Nat}(hN:Fu+5<=N){l g:aX}(hk:U32 l)(a4:l.length<=1000)(a6:g.length<=1000)(S:KM l.length g){b p:Nat}(G:1<=b)(C:b<=16)(J:p<yo 32 b):
 ∃M,Ol N (l,g,(p:Int),(b:Int))=some M/\M.length=g.length/\KM l.length M:=by
 obtain⟨N,rfl⟩:=sC N 1;have hF:=bJ;have h2:=anc C;have L:∀{k:Nat} {x:Int},g[k]? =some x->∃(i:Nat) (y:Int),x=(i:Int)/\i<l.length/\l[i]? =some y/\0<=y/\y<4294967296/\l.getD x.toNat 0=y:=λh=>by
  obtain⟨i,rfl,w⟩:=S.get h;obtain⟨y,v⟩:=get_at (xs:=l) (i:=i) w;have:=hk y (awg v);exact⟨i,y,rfl,w,v,this.1,this.2,by rw[av9,axr,v];rfl⟩
 obtain⟨f,hf⟩:∃f:Int->Nat,f=λx=>Ul b p (l.getD x.toNat 0):=⟨_,rfl⟩;have H:∀x,f x=Ul b p (l.getD x.toNat 0):=λx=>by rw[hf]
 have a5:∀{k:Nat} {x:Int},g[k]? =some x->f x<2^b:=λh=>by
  obtain⟨i,y,_,_,_,a,c,e⟩:=L h;rw[H,e];exact(Kc a c G C J).1
 obtain⟨r1,V,t,rfl,c1,c2,c3⟩:=WE (F:=λm k (s:aX)=>Cg N m (l,g,(p:Int),(b:Int),g,((g.length:Nat):Int),(k:Int),s)) (n:=g.length) (Q:=λr=>∃t:aX,r=(l,g,(p:Int),(b:Int),t)/\t.length=2^b+1/\t[0]? =some 0/\∀d,d<2^b->t[d+1]? =some ((g.countP λi=>decide (f i=d):Nat):Int))
  (I:=λk s=>s.length=2^b+1/\s[0]? =some 0/\∀d,d<2^b->s[d+1]? =some (((g.take k).countP λi=>decide (f i=d):Nat):Int)) (λm k s B j=>by
   obtain⟨x,u⟩:=get_at (xs:=g) (i:=k) B;obtain⟨i,y,rfl,w,v,O,P,R⟩:=L u;have o:=Kc O P G C J;have D:f (i:Int)=Ul b p y:=by rw[H,R]
   have E:=j.2.2 _ o.1;have a3:((g.take k).countP λi=>decide (f i=Ul b p y))<=g.length:=awH ayQ (by rw[awM];omega);refine⟨s.set (Ul b p y+1) (((g.take (k+1)).countP λi=>decide (f i=Ul b p y):Nat):Int),⟨by simp[j.1],by rw[aw0,av2 bv];exact j.2.1,λd A=>?_⟩,?_⟩
   .rw[aw0]
    by_cases c:Ul b p y=d
    .subst c;rw[av3 rfl,av3 bv]
    .rw[av2 bv,xe u,av2 bv];exact j.2.2 d A
   .rw[Je,eK bv,ba u,ob,ba v,ob,o.2 N bv,ob,show wrap .u32 ((Ul b p y:Int)+1)=((Ul b p y+1:Nat):Int) by rw[auA bv bv];omega,ba E,ob,ob,ob,ob,bW bv,xe u,av3 D,av9,bW bv]) (λm s j=>⟨_,by rw[Je,dF bv],s,rfl,j.1,j.2.1,λd o=>by rw[j.2.2 d o,awA (av5 _)]⟩) (m:=N) (s:=replicate (2^b+1) 0) bv ⟨d5,d5,λd o=>by rw[ayB,av3 bv];simp⟩
 have c4:∀d,d<=0->t[d]? =some ((g.countP λi=>decide (f i<d):Nat):Int):=λd o=>by
  obtain rfl:d=0:=bv
  rw[c2];simp
 obtain⟨r2,W,a0,rfl,d1,d2⟩:=WE (F:=λm k (s:aX)=>Cf N m (l,g,(p:Int),(b:Int),((2^b:Nat):Int),(k:Int),s)) (n:=2^b) (Q:=λr=>∃t:aX,r=(l,g,(p:Int),(b:Int),t)/\t.length=2^b+1/\∀d,d<=2^b->t[d]? =some ((g.countP λi=>decide (f i<d):Nat):Int))
  (I:=λk s=>s.length=2^b+1/\(∀d,d<=k->s[d]? =some ((g.countP λi=>decide (f i<d):Nat):Int))/\∀d,k<=d->d<2^b->s[d+1]? =some ((g.countP λi=>decide (f i=d):Nat):Int)) (λm k s B j=>by
   have Y:=j.2.1 k (av5 _);have Z:=j.2.2 k (av5 _) B;have l1:(g.countP λi=>decide (f i<k))<=g.length:=ayQ;have l2:(g.countP λi=>decide (f i=k))<=g.length:=ayQ;refine⟨s.set (k+1) ((g.countP λi=>decide (f i<k+1):Nat):Int),⟨by simp[j.1],λd o=>?_,λd o A=>?_⟩,?_⟩
   .rw[aw0]
    by_cases c:k+1=d
    .subst c;rw[av3 rfl,av3 bv]
    .rw[av2 c];exact j.2.1 d bv
   .rw[aw0,av2 bv];exact j.2.2 d bv A
   .rw[Jc,eK bv,bW bv,ba Z,ob,ob,ba Y,ob,ob,ob,ob,MY,av9,show wZ (((g.countP λi=>decide (f i=k):Nat):Int)+((g.countP λi=>decide (f i<k):Nat):Int))=(((g.countP λi=>decide (f i<k))+(g.countP λi=>decide (f i=k)):Nat):Int) by rw[gw bv bv];omega]) (λm s j=>⟨_,by rw[Jc,dF bv],s,rfl,j.1,j.2.1⟩) (m:=N) (s:=t) bv ⟨c1,c4,λd _ o=>c3 d o⟩
 obtain⟨r3,X,e1,e2⟩:=WE (F:=λm k (s:aX×aX)=>Ce N m (l,(p:Int),(b:Int),g,((g.length:Nat):Int),(k:Int),s.1,s.2)) (n:=g.length) (Q:=λr=>r.length=g.length/\KM l.length r)
  (I:=λk s=>s.1.length=2^b+1/\(∀d,d<2^b->s.1[d]? =some ((g.countP (λi=>decide (f i<d))+(g.take k).countP (λi=>decide (f i=d)):Nat):Int))/\s.2.length=g.length/\KM l.length s.2) (λm k s B j=>by
   obtain⟨x,u⟩:=get_at (xs:=g) (i:=k) B;have K:=ai2 (f:=f) u;obtain⟨i,y,rfl,w,v,O,P,R⟩:=L u;have o:=Kc O P G C J;have D:f (i:Int)=Ul b p y:=by rw[H,R]
   have E:=j.2.1 _ o.1;rw[D]at K;obtain⟨q,U⟩:∃q,q=g.countP (λi=>decide (f i<Ul b p y))+(g.take k).countP (λi=>decide (f i=Ul b p y)):=⟨_,rfl⟩;rw[<-U]at E K;obtain⟨z,hz⟩:=get_at (xs:=s.2) (i:=q) (by rw[j.2.2.1];exact K);refine⟨(s.1.set (Ul b p y) ((q+1:Nat):Int),s.2.set q (i:Int)),⟨by simp[j.1],λd A=>?_,by simp[j.2.2.1],j.2.2.2.set w⟩,?_⟩
   .rw[aw0]
    by_cases c:Ul b p y=d
    .subst c;rw[av3 rfl,av3 bv,xe u,av3 D,U];rfl
    .rw[av2 c,xe u,av2 bv];exact j.2.1 d A
   .rw[Jb,eK bv,ba u,ob,ba v,ob,o.2 N bv,ob,ba E,ob,ob,ba hz,ob,ob,ob,ob,ob,ob,bW bv,bW bv,av9,av9]) (λm s j=>⟨_,by rw[Jb,dF bv],j.2.2.1,j.2.2.2⟩) (m:=N) (s:=(a0,replicate g.length 0)) bv ⟨d1,λd o=>by rw[d2 d bv];simp,d5,KM.zero λh=>by
    obtain⟨x,u⟩:=get_at (xs:=g) (i:=0) h;obtain⟨i,_,w⟩:=S.get u;omega⟩
 refine⟨r3,?_,e1,e2⟩;have u1:wrap .u64 (b:Int)=(b:Int):=by simp[wZ,wrap,IntKind.bits,IntKind.signed];omega
 have e3:(2:Int)^b=((2^b:Nat):Int):=d5
 rw[acX,u1];unfold Vc;rw[av2 bv,ob,av9,axj (show b<=IntKind.bits .i64 by show b<=64;omega),Int.one_mul,e3,show wrap IntKind.i64 ((2^b:Nat):Int)=((2^b:Nat):Int)from gw bv bv,bW bv,oH bv bv bv,ob,av9];rw[zQ]at V W X;rw[V,ob];simp only;rw[show wZ (((t.length:Nat):Int) - 1)=((2^b:Nat):Int) by rw[gw bv bv];omega,W,ob];simp only;rw[oH bv bv bv,ob,av9,X,ob]
end Go.Proofs.YtillffjlojlhoaaGreatDoor.Dd
namespace Go.Proofs.YtillffjlojlhoaaGreatDoor.Dd
structure Um(bits block g P:Int)(picks:bh):Prop where
 bi:1<=bits/\bits<=16
 bl:1<=block/\block<=100
 o:ai1 g P picks
def ai3{N:Nat}(Y:Fu+25<=N){e f g P:Int}{v:bh}(M:Um e f g P v){a:aX}(G:U32 a)(H:a.length<=60):
 ∃(t:Nat) (l:aX),t<=6400000/\Jf N (a,e,f,g,P,v)=some ((t:Int),0,l)/\l.length=a.length/\KM a.length l:=by
 obtain⟨N,rfl⟩:=sC N 1;have X:=bJ;obtain⟨⟨S,U⟩,⟨V,W⟩,E⟩:=M;obtain⟨b,rfl⟩:=nN e;obtain⟨c,rfl⟩:=nN f;obtain⟨t,L,K⟩:=abe (N:=N) bv E H (b:=c) bv bv;have J:=EM (n:=32) (b:=b) bv;have Z:0<yo 32 b:=(An bv).2 bv;have a0:t*yo 32 b<=200000*32:=axC L J;obtain⟨r1,q,O,rfl,w,y⟩:=WE (F:=λm k (s:aX)=>Ci N m (a,(b:Int),((yo 32 b:Nat):Int),(t:Int),((a.length:Nat):Int),(k:Int),s)) (n:=a.length) (Q:=λr=>∃o:aX,r=(a,(b:Int),((yo 32 b:Nat):Int),(t:Int),o)/\o.length=a.length/\KM a.length o)
  (I:=λk s=>s.length=k/\KM a.length s) (λm k s i d=>by
   refine⟨s++[(k:Int)],⟨by simp[d.1],λx j=>?_⟩,?_⟩
   .rcases awc.1 j with h|h
    .exact d.2 x h
    .exact⟨k,awq.1 h,i⟩
   .rw[Jh,eK bv,cj bv d7,ob,bW bv]) (λm s d=>⟨_,by rw[Jh,dF bv],s,rfl,d.1,d.2⟩) (m:=N) (s:=[]) bv ⟨rfl,λx j=>by cases j⟩
 obtain⟨r2,u,R,rfl,z,A⟩:=WE (F:=λm k (s:aX)=>Ch N m (a,(b:Int),((yo 32 b:Nat):Int),(t:Int),((yo 32 b:Nat):Int),(k:Int),s)) (n:=yo 32 b) (Q:=λr=>∃o:aX,r=(((yo 32 b:Nat):Int),(t:Int),o)/\o.length=a.length/\KM a.length o)
  (I:=λk s=>s.length=a.length/\KM a.length s) (λm k s i d=>by
   obtain⟨o,B,C,D⟩:=asr (N:=N) bv G bv bv d.2 (b:=b) (p:=k) bv bv i;exact⟨o,⟨by rw[C,d.1],D⟩,by rw[Jg,eK bv,B,ob,bW bv]⟩) (λm s d=>⟨_,by rw[Jg,dF bv],s,rfl,d.1,d.2⟩) (m:=N) (s:=O) bv ⟨w,y⟩
 refine⟨t*yo 32 b,R,bv,?_,z,A⟩;rw[Ma,MZ bv bv bv,ob,dF bv,K,ob,DR rfl];rw[zQ]at q u;simp only;rw[q,ob];simp only;rw[u,ob];simp only;rw[show(t:Int)*((yo 32 b:Nat):Int)=((t*yo 32 b:Nat):Int) by rw[ax1],gw bv bv]
def ai4{N:Nat}(h:Fu+2<=N)(o:aX)(j:o.length<=1000)(n:Int):∃b,Om N (o,n)=some b:=by
 obtain⟨N,rfl⟩:=sC N 1;have g:=bJ;obtain⟨r,c,_⟩:=lp (F:=λm k (s:bh)=>Ck N m (o,n,o,((o.length:Nat):Int),(k:Int),s)) (n:=o.length) (Q:=λr=>True) (I:=λk s=>True) (λm k s e d=>by
  obtain⟨x,f⟩:=get_at (xs:=o) (i:=k) e;rw[Ji,eK bv,ba f,ob,cd,cd,cd,bW bv];split
  .exact .inr ⟨_,rfl,trivial⟩
  .split
   .exact .inr ⟨_,rfl,trivial⟩
   .split
    .exact .inr ⟨_,rfl,trivial⟩
    .exact .inl ⟨_,trivial,rfl⟩) (λm s d=>⟨_,by rw[Ji,dF bv],trivial⟩) (m:=N) (i:=0) (s:=[]) bv bv trivial
 rw[acY];rw[zQ]at c;rw[c,ob];cases r with
 |_=>exact⟨_,rfl⟩
def adP{N:Nat}(B:Fu+4<=N){c o:aX}(q:U32 c)(u:o.length<=1000)(v:KM c.length o):∃b s,ZC N (c,o)=some (b,s)/\U32 s/\s.length<=o.length:=by
 obtain⟨N,rfl⟩:=sC N 1;have A:=bJ;obtain⟨b,l⟩:=ai4 (N:=N) bv o u ((c.length:Nat):Int);rw[ag4,l,ob];cases b with
 |false=>exact⟨_,_,rfl,(λx a=>by cases a),d5⟩
 |true=>
  obtain⟨r,e,g,j⟩:=WE (F:=λm k (s:aX)=>Hi N m (c,o,((o.length:Nat):Int),(k:Int),s)) (n:=o.length) (Q:=λr=>U32 r/\r.length<=o.length) (I:=λk s=>U32 s/\s.length<=k) (λm k s t d=>by
   obtain⟨x,a⟩:=get_at (xs:=o) (i:=k) t;obtain⟨i,rfl,p⟩:=v.get a;obtain⟨y,f⟩:=get_at (xs:=c) (i:=i) p;have C:=d.2;refine⟨s++[y],⟨λz w=>?_,by simp;omega⟩,?_⟩
   .rcases awc.1 w with h|h
    .exact d.1 z h
    .rw[awq.1 h];exact q y (awg f)
   .rw[Mb,eK bv,ba a,ob,ba f,ob,cj bv d7,ob,bW bv]) (λm s d=>⟨_,by rw[Mb,dF bv],d⟩) (m:=N) (s:=[]) bv ⟨(λx a=>by cases a),d5⟩
  rw[zQ]at e;simp only[awj,av8];rw[e,ob];exact⟨_,_,rfl,g,j⟩
def adQ{N:Nat}(j:Fu+3<=N)(s:aX)(o:s.length<=1000):∃l,ZG N s=some l/\l.length=s.length:=by
 obtain⟨N,rfl⟩:=sC N 1;have h:=bJ;obtain⟨r,b,d⟩:=WE (F:=λm k (l:bw)=>Cp N m (s,s,((s.length:Nat):Int),(k:Int),l)) (n:=s.length) (Q:=λr=>r.length=s.length) (I:=λk l=>l.length=s.length) (λm k l e a=>by
  obtain⟨x,f⟩:=get_at (xs:=s) (i:=k) e;obtain⟨y,c⟩:=get_at (xs:=l) (i:=k) bv;rw[Mc,eK bv,ba f,ob,cd];split
  .exact⟨l.set k true,by rw[axf];exact a,by rw[ba c,ob,ob,bW bv,av9]⟩
  .obtain⟨z,g⟩:=get_at (xs:=s) (i:=k - 1) bv
   exact⟨l.set k (!(decide (z=x))),by rw[axf];exact a,by rw[show wZ ((k:Int) - 1)=((k - 1:Nat):Int) by rw[gw bv bv];omega,ba g,ob,ba c,ob,ob,bW bv,av9]⟩) (λm l a=>⟨_,by rw[Mc,dF bv],a⟩) (m:=N) (s:=replicate s.length false) bv d5
 rw[zQ]at b;rw[ag5,oH bv bv bv,ob,av9,b,ob];exact⟨_,rfl,d⟩
def ux(a:bw):aX:=a.map λb=>if b then 1 else 0
def ai5{N:Nat}(u:Fu+3<=N)(a:bw)(w:a.length<=1000):On N (a,false)=some (ux a):=by
 obtain⟨N,rfl⟩:=sC N 1;have t:=bJ;obtain⟨r,f,rfl⟩:=WE (F:=λm k (l:aX)=>wC N m (false,a,((a.length:Nat):Int),(k:Int),l)) (n:=a.length) (Q:=λr=>r=ux a) (I:=λk l=>l=ux (a.take k)++replicate (a.length - k) 0) (λm k l p b=>by
  obtain⟨x,o⟩:=get_at (xs:=a) (i:=k) p;have d:(ux (a.take k)).length=k:=by simp[ux];omega
  have c:l[k]? =some 0:=by rw[b,axl bv,d,ayB,av3 bv]
  have g:∀v:Int,v=(if x then 1 else 0)->l.set k v=ux (a.take (k+1))++replicate (a.length - (k+1)) 0:=λv q=>by
   rw[b,azt _ _ bv,d,azu,show a.length - k=(a.length - (k+1))+1 by omega,axG,ay9,bZ o,q];simp[ux]
  rw[Jj,eK bv,ba o,ob];cases x with
  |true=>
   refine⟨_,g 1 rfl,?_⟩;rw[show(!(true==false))=true from rfl,awv,ba c,ob,ob,bW bv,av9]
  |false=>
   refine⟨_,g 0 rfl,?_⟩;have:l.set k 0=l:=by
    refine axA λj=>?_;rw[aw0];split
    next e=>
     subst e;rw[c];split
     .rfl
     next h=>have:=Sp.cS c;omega
    .rfl
   rw[show(!(false==false))=false from rfl,av8,this,bW bv]) (λm l b=>⟨_,by rw[Jj,dF bv],by rw[b,awA (av5 _)];simp⟩) (m:=N) (s:=replicate a.length 0) bv (by simp[ux])
 rw[zQ]at f;rw[acZ,oH bv bv bv,ob,av9,f,ob]
def HG(a:bw):0<=(ux a).sum/\(ux a).sum<=a.length:=by
 induction a with
 |nil=>simp[ux]
 |cons x l b=>cases x<;>simp[ux]at b⊢<;>omega
def Un(a:bw)(i:Nat):(ux a).take i=ux (a.take i):=by simp[ux,ays]
def apr(a:bw)(b:a.length<=60)(i:Nat):sa (ux a) i=(ux (a.take i)).sum:=by
 have h:=HG (a.take i);have:(a.take i).length<=a.length:=by rw[awM];omega
 unfold sa;rw[Un];omega
def ai6{a:bw}{i:Nat}(h:(ux a)[i]? =some 1):(ux (a.take i)).sum<(ux a).sum:=by
 have b:(ux a).sum=((ux a).take (i+1)).sum+((ux a).drop (i+1)).sum:=by rw[<-azO,axw]
 rw[bZ h,azO,Un]at b;have c:(ux a).drop (i+1)=ux (a.drop (i+1)):=by simp[ux,ayI]
 have d:=HG (a.drop (i+1));rw[c]at b;simp at b;omega
def ai7{N:Nat}(hN:Fu+25<=N){K j g P:Int}{J:bh}(W:Um K j g P J)(a:bw)(w:a.length<=60):∃(t:Nat) (o:aX),t<=300000/\Oo N (a,j,g,P,J)=some ((t:Int),0,o)/\KM a.length o/\o.length<=a.length:=by
 obtain⟨N,rfl⟩:=sC N 2;have hF:=bJ;obtain⟨_,⟨Y,Z⟩,u⟩:=W;obtain⟨c,rfl⟩:=nN j;have A:(ux a).length=a.length:=by simp[ux]
 obtain⟨t,ht,E⟩:=abe (N:=N) bv u (l:=ux a) bv (b:=c) bv bv;obtain⟨t2,f,B,a4,R⟩:=u a.length w;have a3:=HG a;have C:=apr a w;have a5:f.length<=60:=by rw[B.length_eq];simp[Sp.xc];omega
 obtain⟨q,U⟩:∃q:Nat,(ux a).sum=(q:Int):=⟨(ux a).sum.toNat,bv⟩;have V:sa (ux a) a.length=(q:Int):=by rw[C,awA (av5 _),U]
 rw[A]at E;obtain⟨r,D,o,rfl,h1,L⟩:=WE (F:=λm k (l:aX)=>Cr N m (ux a,(t:Int),(t2:Int),((f.length:Nat):Int),(k:Int),hA (ux a),l,f)) (n:=f.length) (Q:=λr=>∃o:aX,r=((t:Int),(t2:Int),o)/\o.length=q/\KM a.length o) (I:=λk l=>l.length=q/\KM a.length l) (λm k l O d=>by
  obtain⟨x,G⟩:=get_at (xs:=f) (i:=k) O;obtain⟨i,rfl,M⟩:=Dx.1 (B.mem_iff.1 (awg G));obtain⟨y,H⟩:=get_at (xs:=ux a) (i:=i) bv;rw[Md,eK bv,ba G,ob,ob,ba H,ob,cd,bW bv];split
  next e=>subst e;have a2:=ai6 H;have a0:=HG (a.take i);have a1:=C i;obtain⟨p,S⟩:∃p:Nat,sa (ux a) i=(p:Int):=⟨(sa (ux a) i).toNat,bv⟩;obtain⟨z,X⟩:=get_at (xs:=l) (i:=p) (by rw[d.1];omega);have v:=Am (l:=ux a) (i:=i) bv;rw[S]at v;exact⟨l.set p (i:Int),⟨by simp[d.1],d.2.set M⟩,by rw[ba v,ob,ob,ba X,ob,ob,av9]⟩
  .exact⟨l,d,rfl⟩) (λm l d=>⟨_,by rw[Md,dF bv],l,rfl,d.1,d.2⟩) (m:=N) (s:=replicate q 0) bv ⟨d5,KM.zero λh=>by omega⟩
 rw[zQ]at D;refine⟨t+t2,o,bv,?_,L,bv⟩;rw[ac0,ai5 bv a bv,ob,ag7,E,ob,DR rfl,A,R N bv,ob,DR rfl];simp only;rw[V,oH bv bv bv,ob,av9,D,ob,ob];simp only;rw[show wZ ((t:Int)+(t2:Int))=((t+t2:Nat):Int) by rw[gw bv bv];omega]
def OH{N:Nat}(hN:Fu+30<=N){p q g P:Int}{D:bh}(B:Um p q g P D){f:aX}(w:U32 f)(Y:f.length<=60):∃(t:Nat) (o:aX),t<=7000000/\Ey N (f,p,q,g,P,D)=some ((t:Int),0,o)/\U32 o/\o.length<=f.length:=by
 obtain⟨N,rfl⟩:=sC N 2;have hF:=bJ;obtain⟨c,a4,a0,K,ol,op⟩:=ai3 (N:=N) bv B w Y;obtain⟨b,s,L,su,sl⟩:=adP (N:=N) bv w bv op;obtain⟨U,O,S⟩:=adQ (N:=N) bv s bv;obtain⟨t2,a,a3,R,u,J⟩:=ai7 (N:=N) bv B U bv;rw[S]at u J;obtain⟨r,A,o,E,rfl,h1,V⟩:=WE (F:=λm k (l:aX×aX)=>Hl N m ((c:Int),(t2:Int),((a.length:Nat):Int),(k:Int),s,a,l.1,l.2)) (n:=a.length) (Q:=λr=>∃o E:aX,r=((c:Int),(t2:Int),o,E)/\o.length=a.length/\U32 o) (I:=λk l=>l.1.length=k/\l.2.length=k/\U32 l.1) (λm k l X d=>by
  obtain⟨x,e⟩:=get_at (xs:=a) (i:=k) X;obtain⟨i,rfl,W⟩:=u.get e;obtain⟨y,C⟩:=get_at (xs:=s) (i:=i) W;have G:=d.1;have H:=d.2.1;obtain⟨v,Z⟩:∃v,Oq N N ((c:Int),(t2:Int),(k:Int),(i:Int),((s.length:Nat):Int),((a.length:Nat):Int),(k:Int),s,a,l.1,l.2)=some ((c:Int),(t2:Int),(i:Int),v,((a.length:Nat):Int),(k:Int),s,a,l.1,l.2):=by
   obtain⟨M,rfl⟩:=sC N 1;rw[ac1,cd,bW bv];split
   .obtain⟨z,j⟩:=get_at (xs:=a) (i:=k+1) bv
    exact⟨z,by rw[ba j,ob,ob]⟩
   .exact⟨_,rfl⟩
  refine⟨(l.1++[y],l.2++[wZ (v - (i:Int))]),⟨by simp[G],by simp[H],λz j=>?_⟩,?_⟩
  .rcases awc.1 j with h|h
   .exact d.2.2 z h
   .rw[awq.1 h];exact su y (awg C)
  .rw[Mf,eK bv,ba e,ob,ob,Z,ob]
   simp only;rw[ba C,ob,ob,cj bv d7,ob,cj bv d7,ob,bW bv]) (λm l d=>⟨_,by rw[Mf,dF bv],l.1,l.2,rfl,d.1,d.2.2⟩) (m:=N) (s:=([],[])) bv ⟨rfl,rfl,λx e=>by cases e⟩
 rw[zQ]at A;refine⟨c+t2,o,bv,?_,V,bv⟩;rw[Mg,SL,K,ob,DR rfl];simp only;rw[L,ob];simp only;rw[O,ob,R,ob,DR rfl];simp only;rw[A,ob,ob];simp only;rw[show wZ ((c:Int)+(t2:Int))=((c+t2:Nat):Int) by rw[gw bv bv];omega]
def aps{N:Nat}(o:2<=N)(u v:Int):∃k b,N9 N (u,v)=some (k,b)/\(b=true->0<=k/\k<4294967296)/\(0<=u->u<65536->0<=v->v<65536->b=true):=by
 obtain⟨N,rfl⟩:=sC N 2;have j:∀n:Int,IX (N+1) n=some (decide (0<=n/\n<65536)):=λn=>by
  rw[acH,cd];split
  next h=>congr 1;exact axL.2 ⟨λd=>⟨h,d⟩,λd=>d.2⟩
  next h=>rw[awz λd=>h d.1]
 rw[acI,j,ob,Mz,j];by_cases g:0<=u/\u<65536
 .rw[av3 g,ob,Mz]
  by_cases i:0<=v/\v<65536
  .rw[av3 i]
   refine⟨_,_,rfl,λ_=>?_,λ_ _ _ _=>rfl⟩;have l:(2:Int)^(min (Int.toNat (16:Int)) (32:Nat))=65536:=d6
   rw[l,Nu,wU (if v<u then v else u),wU (if v>u then v else u),wU];have m:0<=(if v<u then v else u)/\(if v<u then v else u)<65536:=by split<;>omega
   have d:0<=(if v>u then v else u)/\(if v>u then v else u)<65536:=by split<;>omega
   generalize(if v<u then v else u)=a at*;generalize(if v>u then v else u)=c at*;rw[bits_join .u32 32 d6 (λn a b=>by rw[aAE];omega) 16 _ _ bv bv bv bv bv bv];omega
  .rw[av2 i]
   exact⟨_,_,rfl,λh=>(by cases h),λ_ _ e f=>absurd ⟨e,f⟩ i⟩
 .rw[av2 g]
  exact⟨_,_,rfl,λh=>(by cases h),λe f _ _=>absurd ⟨e,f⟩ g⟩
def alU{N:Nat}(e:1<=N){k:Int}(c:0<=k)(d:k<4294967296):Ot N k=some (k/65536,k % 65536):=by
 obtain⟨N,rfl⟩:=sC N 1;have a:(2:Int)^(min (Int.toNat (16:Int)) (32:Nat))=65536:=d6
 have b:wrap .u16 k=k % 65536:=by simp[wZ,wrap,IntKind.bits,IntKind.signed]
 rw[ac2,a,b,azL _ bv,gw bv bv,gw bv bv]
def Uo{N:Nat}(hN:Fu+34<=N){j p g P e0:Int}{w:bh}(R:∀q:aX,U32 q->q.length<=60->∃(t:Nat) (o:aX),t<=7000000/\Ey N (q,j,p,g,P,w)=some ((t:Int),e0,o)/\U32 o/\o.length<=q.length)(l:bh)(M:l.length<=60):
 ∃(t:Nat) (e:Int) (o:bh),t<=7000000/\FZ (N+1) (l,j,p,g,P,w)=some ((t:Int),e,o)/\(∀x∈o,0<=x.1/\0<=x.2)/\o.length<=(l.filter λx=>decide (x.1≠x.2)).length/\(e=e0\/e=10/\¬∀x∈l,0<=x.1/\x.1<65536/\0<=x.2/\x.2<65536):=by
 have hF:=bJ;have E:∀m:bh,(m.filter λx=>decide (x.1≠x.2)).length<=m.length:=λm=>ayO _ _;obtain⟨r,G,S⟩:=lp (F:=λm k (s:aX)=>Cy N m (l,((l.length:Nat):Int),(k:Int),j,p,g,P,w,s)) (n:=l.length) (Q:=λr=>(∃s:aX,r=.inl (j,p,g,P,w,s)/\s.length=(l.filter λx=>decide (x.1≠x.2)).length/\U32 s)\/r=.inr (0,10)/\¬∀x∈l,0<=x.1/\x.1<65536/\0<=x.2/\x.2<65536)
  (I:=λk s=>s.length=((l.take k).filter λx=>decide (x.1≠x.2)).length/\U32 s) (λm k s B a=>by
   obtain⟨⟨u,v⟩,d⟩:=get_at (xs:=l) (i:=k) B;obtain⟨Y,b,y,A,D⟩:=aps (N:=N) bv u v;have a0:s.length<=60:=by have:=E (l.take k);rw[a.1];rw[awM]at this;omega
   rw[Mi,eK bv,ba d,ob];simp only;rw[y,ob];simp only;cases b with
   |false=>exact .inr ⟨_,rfl,.inr ⟨rfl,λh=>by
    have:=h _ (awg d);have:=D this.1 this.2.1 this.2.2.1 this.2.2.2;cases this⟩⟩
   |true=>
    simp only[awj,av8];rw[Mz];by_cases c:u=v
    .rw[av3 c]
     exact .inl ⟨s,⟨by rw[bZ d,axs,awl,a.1];simp[c],a.2⟩,by rw[bW bv]⟩
    .rw[av2 c,cj bv d7,ob,bW bv]
     refine .inl ⟨s++[Y],⟨by rw[bZ d,axs,awl,awl,a.1];simp[c],λz C=>?_⟩,rfl⟩;rcases awc.1 C with h|h
     .exact a.2 z h
     .rw[awq.1 h];exact A rfl) (λm s a=>⟨_,by rw[Mi,dF bv],.inl ⟨s,rfl,by rw[a.1,awA (av5 _)],a.2⟩⟩) (m:=N) (i:=0) (s:=[]) bv bv ⟨d5,λx d=>by cases d⟩
 rw[zQ]at G;rw[ag9,G,ob];rcases S with⟨s,rfl,U,V⟩|⟨rfl,O⟩
 .have W:s.length<=60:=by rw[U];exact awH (E l) M
  obtain⟨t,o,X,y,A,D⟩:=R s V W;simp only;rw[y,ob];simp only;obtain⟨r2,H,f,rfl,Z,K⟩:=WE (F:=λm k (s:bh)=>Hn N m ((t:Int),e0,((o.length:Nat):Int),(k:Int),s,o)) (n:=o.length) (Q:=λr=>∃f:bh,r=((t:Int),e0,f)/\f.length=o.length/\∀x∈f,0<=x.1/\0<=x.2) (I:=λk s=>s.length=k/\∀x∈s,0<=x.1/\0<=x.2) (λm k s B a=>by
   obtain⟨x,d⟩:=get_at (xs:=o) (i:=k) B;have J:=A x (awg d);have L:=a.1;refine⟨s++[(x/65536,x % 65536)],⟨by simp[L],λz C=>?_⟩,by rw[Mh,eK bv,ba d,ob,ob,alU bv J.1 J.2,ob,cj bv d7,ob,bW bv]⟩;rcases awc.1 C with h|h
   .exact a.2 z h
   .rw[awq.1 h];simp only;omega) (λm s a=>⟨_,by rw[Mh,dF bv],s,rfl,a.1,a.2⟩) (m:=N) (s:=[]) bv ⟨rfl,λx d=>by cases d⟩
  rw[zQ]at H;rw[H,ob];exact⟨t,e0,f,X,rfl,K,bv,.inl rfl⟩
 .exact⟨0,10,[],bv,rfl,(λx d=>by cases d),d5,.inr ⟨rfl,O⟩⟩
def ai8{N:Nat}(s:Fu+35<=N){a b g P:Int}{d:bh}(r:Um a b g P d)(l:bh)(p:l.length<=60):
 ∃(t:Nat) (e:Int) (o:bh),t<=7000000/\FZ N (l,a,b,g,P,d)=some ((t:Int),e,o)/\(∀x∈o,0<=x.1/\0<=x.2)/\o.length<=(l.filter λx=>decide (x.1≠x.2)).length/\((∀x∈l,0<=x.1/\x.1<65536/\0<=x.2/\x.2<65536)->e=0)/\(e=0\/e=10):=by
 obtain⟨N,rfl⟩:=sC N 1;obtain⟨t,e,o,f,i,j,k,c⟩:=Uo (N:=N) bv (λu m n=>OH bv r m n) l p;exact⟨t,e,o,f,i,j,k,λh=>c.resolve_right λq=>q.2 h,c.imp id λq=>q.1⟩
def O7(a b g P:Int):Prop:=¬((1<=a/\a<=16)/\(1<=b/\b<=100)/\(1<=g/\g<=100)/\1<=P/\P<=8)
def apt{bi bl g P:Int}{a:bh}(d:a.length<=200):Um bi bl g P a\/O7 bi bl g P:=by
 by_cases h:(1<=bi/\bi<=16)/\(1<=bl/\bl<=100)/\(1<=g/\g<=100)/\1<=P/\P<=8
 .obtain⟨b,c,e,f⟩:=h
  obtain⟨g,rfl⟩:=nN g;obtain⟨P,rfl⟩:=nN P;exact .inl ⟨b,c,anb bv bv bv bv d⟩
 .exact .inr h
def M0{N:Nat}(c:2<=N){n g P:Int}{a:bh}(d:¬((1<=g/\g<=100)/\1<=P/\P<=8)):k9 N (n,g,P,a)=some (0,1,[]):=by
 obtain⟨N,rfl⟩:=sC N 2;have b:IY (N+1) (g,P,a)=some false:=by
  rw[Er,cd,cd,cd,cd];split
  .split
   .split
    .rw[av2 bv]
    .rfl
   .rfl
  .rfl
 rw[Ex,b,ob,cd];split
 .rfl
 .rw[cd]
  split<;>rfl
def ai9{N:Nat}(p:8<=N){a c g P:Int}{l:bh}(o:O7 a c g P){d:aX}(q:d.length<=60):Ey N (d,a,c,g,P,l)=some (0,1,[]):=by
 obtain⟨N,rfl⟩:=sC N 6;have m:Jf (N+4) (d,a,c,g,P,l)=some (0,1,[]):=by
  rw[Ma,RL,cd];by_cases e:a<1
  .rw[av3 e];rfl
  rw[av2 e,cd];by_cases f:16<a
  .rw[av3 f];rfl
  obtain⟨b,rfl⟩:=nN a;have r:0<yo 32 b:=(An bv).2 bv;have s:=EM (n:=32) (b:=b) bv;rw[av2 f,show wZ ((32:Int)+(b:Int))=((32+b:Nat):Int) by rw[gw bv bv];omega,show wZ (((32+b:Nat):Int) - 1)=((32+b - 1:Nat):Int) by rw[gw bv bv];omega,OG bv,ob,wP,ob,show(32+b - 1)/b=yo 32 b from rfl,gw bv bv,dF bv,L_,Sj,Ep,cd];by_cases i:1<=c
  .rw[av3 i,ob]
   by_cases j:c<=100
   .rw[awu j]
    simp only[awj,av8];obtain⟨k,rfl⟩:=nN c;rw[dF bv,MX bv bv bv bv,ob,M0 bv λh=>o ⟨bv,bv,h⟩,ob];rfl
   .rw[awz j];rfl
  .rw[av2 i];rfl
 rw[Mg,SL,m];rfl
def adR{N:Nat}(p:Fu+35<=N){a b g P:Int}{pk:bh}(j:O7 a b g P)(l:bh)(i:l.length<=60):
 ∃(t:Nat) (e:Int) (o:bh),FZ N (l,a,b,g,P,pk)=some ((t:Int),e,o)/\(e=1\/e=10):=by
 obtain⟨N,rfl⟩:=sC N 1;obtain⟨t,e,o,k,c,m,n,d⟩:=Uo (N:=N) bv (λs r f=>⟨0,[],bv,ai9 bv j f,(λx h=>by cases h),d5⟩) l i;exact⟨t,e,o,c,d.imp id λq=>q.1⟩
end Go.Proofs.YtillffjlojlhoaaGreatDoor.Dd
namespace Go.Proofs.YtillffjlojlhoaaGreatDoor
variable{c:Int}{a:Do bm}{b e:Nat}
section
open Go Go.RowKit Go.Sort
def adS(n:Fu+45<=b)(h:GR e a){d:bh}{f:lz}(k:d.length<=100000)(l:f.length<=100000)(j:¬WR c d f)(w:Int×Int×Int×Int×bh):uo (b+1) ((e:Int),a,c,d,f,w)=some (0,1,0,[],[]):=by
 obtain⟨g,i,m⟩:=MV (N:=b) bv c d f k l;obtain⟨o,p,q,r,s⟩:=w;rw[S4,h.right bv,ob];simp only[awj,av8];rw[i,ob];cases g with
 |true=>exact absurd (m.1 rfl) j
 |false=>rfl
end
section
open Go Go.RowKit Go.Sort
def M1(u:Fu+4<=b)(c d:aX)(e:d.length<=1000):Mt b (c,d)=some (decide (∀v∈d,0<=v/\v<(c.length:Int))):=by
 obtain⟨b,rfl⟩:=sC b 3;have t:=bJ;obtain⟨a,o,r⟩:=lp (F:=λm k (_:Unit)=>OA b m (d,((d.length:Nat):Int),(k:Int),c)) (n:=d.length) (Q:=λa=>(a=.inl c/\∀v∈d,0<=v/\v<(c.length:Int))\/∃k:Nat,a=.inr ((k:Int),c)/\¬∀v∈d,0<=v/\v<(c.length:Int)) (I:=λk _=>∀v∈d.take k,0<=v/\v<(c.length:Int)) (λm k s q f=>by
  obtain⟨x,g⟩:=get_at (xs:=d) (i:=k) q;have p:=awg g;obtain⟨M,rfl⟩:=sC b 1;rw[Tv,eK bv,ba g,ob,ahO,cd];by_cases j:x<0
  .rw[av3 j,ob];exact .inr ⟨_,rfl,.inr ⟨k,rfl,λh=>by have:=h x p;omega⟩⟩
  .rw[av2 j,ob]
   simp only;rw[cd];by_cases l:((c.length:Nat):Int)<=x
   .rw[av3 l];exact .inr ⟨_,rfl,.inr ⟨k,rfl,λh=>by have:=h x p;omega⟩⟩
   .rw[av2 l,bW bv]
    refine .inl ⟨(),λv e=>?_,rfl⟩;rw[bZ g]at e;rcases awc.1 e with e|e
    .exact f v e
    .rw[awq.1 e];omega) (λm s f=>⟨_,by rw[Tv,dF bv],.inl ⟨rfl,by rw[awA (av5 _)]at f;exact f⟩⟩) (m:=b) (i:=0) (s:=()) bv bv d5
 rw[zQ]at o;rw[ahS,alh,alg,o,ob];rcases r with⟨rfl,h⟩|⟨k,rfl,h⟩
 .rw[awu h];rfl
 .rw[awz h]
  simp only[ob];rw[awu bv];rfl
def adT{N:Nat}(l:Fu+3<=N)(c:aX)(o:c.length<=1000)(a u v:Int)(d:0<=u/\u<(c.length:Int)):∃r,ahY N (c,c,a,u,v)=some r:=by
 obtain⟨N,rfl⟩:=sC N 1;have j:=bJ;obtain⟨y,_,h⟩:=OE d.1 d.2;obtain⟨r,b,_⟩:=lp (F:=λm k (s:Int)=>JB N m (s,c,((c.length:Nat):Int),(k:Int),c,a,u,v)) (n:=c.length) (Q:=λ_=>True) (I:=λk _=>True) (λm k s f e=>by
  obtain⟨x,g⟩:=get_at (xs:=c) (i:=k) f;obtain⟨M,rfl⟩:=sC N 1;rw[Tw,eK bv,ba g,ob,ahU,h,ob,ob,cd,bW bv];split
  .exact .inl ⟨_,trivial,rfl⟩
  .exact .inl ⟨_,trivial,rfl⟩) (λm s e=>⟨_,by rw[Tw,dF bv],trivial⟩) (m:=N) (i:=0) (s:=0) bv bv trivial
 rw[zQ]at b;rw[ali,b,ob];exact⟨_,rfl⟩
def adU{N:Nat}(g:Fu+3<=N)(c:aX)(h:c.length<=1000):∃r,Tx N c=some r:=by
 obtain⟨N,rfl⟩:=sC N 1;have f:=bJ;obtain⟨r,a,_⟩:=lp (F:=λm k (s:Int)=>CS N m (s,c,((c.length:Nat):Int),(k:Int))) (n:=c.length) (Q:=λ_=>True) (I:=λk _=>True) (λm k s d b=>by
  obtain⟨x,e⟩:=get_at (xs:=c) (i:=k) d;obtain⟨M,rfl⟩:=sC N 1;rw[Mu,eK bv,ba e,ob,ah0,ob,cd,bW bv];split
  .exact .inl ⟨_,trivial,rfl⟩
  .exact .inl ⟨_,trivial,rfl⟩) (λm s b=>⟨_,by rw[Mu,dF bv],trivial⟩) (m:=N) (i:=0) (s:=0) bv bv trivial
 rw[zQ]at a;rw[ah1,a,ob];exact⟨_,rfl⟩
def adV{N:Nat}(z:Fu+6<=N)(c:aX)(k:c.length<=1000)(a u v:Int):∃r,aaJ N (c,a,u,v)=some r/\(r.2=0\/r.2=10\/r.2=1/\¬(1<=a/\a<=4)):=by
 obtain⟨N,rfl⟩:=sC N 2;rw[ah2,cd];by_cases i:a=1
 .rw[av3 i,M1 bv c _ d5,ob]
  by_cases h:∀w∈[u,v],0<=w/\w<(c.length:Int)
  .rw[awu h]
   simp only[awj,av8];have e:=h u d5;have j:=h v d5;obtain⟨x,_,g⟩:=OE e.1 e.2;obtain⟨y,_,n⟩:=OE j.1 j.2;rw[g,ob,n,ob,cd];split<;>exact⟨_,rfl,.inl rfl⟩
  .rw[awz h];exact⟨_,rfl,.inr (.inl rfl)⟩
 .rw[av2 i,adl,cd]
  have l:∀b:In,(b=false->a≠2/\a≠3)->∃r,(aW (some (a,b,c,a,u,v)) λd=>cond d.2.1
   (aW (Mt (N+1) (d.2.2.1,[d.2.2.2.2.1])) λo=>
    cond (!o)
     (some ((0:Int),(10:Int)))
     (cond (decide (d.2.2.2.1=(2:Int)))
      (aW (aZ d.2.2.1 d.2.2.2.2.1) λp=>
       some (p,(0:Int)))
      (aW (ahY (N+1) (d.2.2.1,(d.2.2.1,(d.2.2.2.1,(d.2.2.2.2.1,d.2.2.2.2.2))))) λq=>
       some (q.1,(0:Int)))))
   (cond (decide (d.1=(4:Int)))
    (aW (Tx (N+1) d.2.2.1) λs=>
     some (s,(0:Int)))
    (some ((0:Int),(1:Int)))))=some r/\(r.2=0\/r.2=10\/r.2=1/\¬(1<=a/\a<=4)):=λb m=>by
    rw[ob];cases b with
    |true=>
     simp only[awv];rw[M1 bv c _ d5,ob];by_cases h:∀w∈[u],0<=w/\w<(c.length:Int)
     .rw[awu h]
      simp only[awj,av8];have e:=h u d5;obtain⟨x,_,g⟩:=OE e.1 e.2;rw[cd];split
      .rw[g,ob];exact⟨_,rfl,.inl rfl⟩
      .obtain⟨r,f⟩:=adT (N:=N+1) bv c k a u v e
       rw[f,ob];exact⟨_,rfl,.inl rfl⟩
     .rw[awz h];exact⟨_,rfl,.inr (.inl rfl)⟩
    |false=>
     simp only[av8];rw[cd];split
     .obtain⟨r,f⟩:=adU (N:=N+1) bv c k
      rw[f,ob];exact⟨_,rfl,.inl rfl⟩
     next t=>have:=m rfl;exact⟨_,rfl,.inr (.inr ⟨rfl,bv⟩)⟩
  split
  .exact l true λh=>by cases h
  .exact l (decide (a=3)) λh=>⟨by assumption,axT h⟩
def WG{N:Nat}(E:Fu+20<=N)(h:GR b a)(l:lz)(G:l.length<=1000):∃r,CU N ((b:Int),a,l)=some r/\r.2.length<=1000/\(r.1=0->r.2.length=l.length)/\((∀d∈l,1<=d.1/\d.1<=4)->r.1=0\/r.1=10):=by
 obtain⟨N,rfl⟩:=sC N 2;have D:=bJ;have H:=h.len;have u:wV (b:Int) (bX a)=0:=by
  rw[OX h.lo h.hi,av3 λe j=>by
   obtain⟨t,C,rfl⟩:=awe.1 j;have:=h.tie t C;unfold dM at this;exact⟨⟨by show 0<=t.1;omega,by show t.1<_;omega⟩,by show 0<=t.2.1;omega,by show t.2.1<_;omega⟩]
 have w:(rI (b:Int) (bX a)).length<=1000:=by have:=h.hi;simp[rI];omega
 rw[ah3,adk,h.right bv,ob];simp only[awj,av8];rw[yb bv h,ob,JM bv _ _ (by simp[bX];omega),u,av3 rfl,ob,ob];simp only[awj,av8];generalize rI (b:Int) (bX a)=c at*;obtain⟨f,p,v⟩:=lp (F:=λm k (s:aX)=>Hz (N+1) m (l,((l.length:Nat):Int),(k:Int),c,s)) (n:=l.length) (Q:=λf=>(∃o,f=.inl o/\o.length=l.length)\/∃e,f=.inr e/\e≠0/\((∀d∈l,1<=d.1/\d.1<=4)->e=10)) (I:=λk s=>s.length=k) (λm k s y n=>by
  obtain⟨x,q⟩:=get_at (xs:=l) (i:=k) y;obtain⟨r,A,B⟩:=adV (N:=N+1) bv c w x.1 x.2.1 x.2.2;rw[Mw,eK bv,ba q,ob,A,ob,Mz];split
  .rw[cj bv d7,ob,bW bv]
   exact .inl ⟨_,by simp;omega,rfl⟩
  next c=>
   refine .inr ⟨_,rfl,.inr ⟨_,rfl,c,λg=>?_⟩⟩;rcases B with h|h|⟨_,h⟩
   .exact absurd h c
   .exact h
   .exact absurd (g x (awg q)) h) (λm s n=>⟨_,by rw[Mw,dF bv],.inl ⟨s,rfl,n⟩⟩) (m:=N+1) (i:=0) (s:=[]) bv bv d5
 rw[zQ]at p;rw[p,ob];rcases v with⟨o,rfl,z⟩|⟨e,rfl,j,g⟩
 .exact⟨_,rfl,by simp only;omega,λ_=>z,λ_=>.inl rfl⟩
 .exact⟨_,rfl,d5,λh=>absurd h j,λh=>.inr (g h)⟩
end
section
open Go Go.RowKit Go.Sort
abbrev SV:Type:=Int×Do bm×Int×Int
abbrev XV:Type:=Int×bh×lz
abbrev WV:Type:=Int×Int×Int×Int×bh
abbrev RV:Type:=Int×Int×aX
noncomputable def Gf(N:Nat)(s:SV)(x:XV)(w:WV):At (SV×RV):=
 aW (uk N s) λb=>cond b
  (aW (uo N (s.1,s.2.1,x.1,x.2.1,x.2.2,w)) λc=>cond (decide (c.2.1=0))
   (aW (k9 N (wZ (((c.2.2.2.1.length:Nat):Int)+((c.2.2.2.2.length:Nat):Int)),w.2.2)) λo=>cond (decide (o.2.1=0))
    (cond (decide (c.2.2.1=1))
     (aW (qN N (s.1,s.2.1,c.2.2.2.1)) λa=>cond (decide (a.2.1=0))
      (some ((a.2.2.1,a.2.2.2,wZ (s.2.2.1+1),wZ (s.2.2.2+wZ (c.1+o.1))),0,a.1,[]))
      (some (s,a.2.1,0,[])))
     (cond (decide (c.2.2.1=2))
      (aW (wL N (s.1,s.2.1,c.2.2.2.1)) λa=>cond (decide (a.1=0))
       (some ((a.2.1,a.2.2.1,wZ (s.2.2.1+1),wZ (s.2.2.2+wZ (c.1+o.1))),0,((c.2.2.2.1.length:Nat):Int),[]))
       (some (s,a.1,0,[])))
      (cond (decide (c.2.2.1=3))
       (aW (CU N (s.1,s.2.1,c.2.2.2.2)) λa=>cond (decide (a.1=0))
        (some ((s.1,s.2.1,wZ (s.2.2.1+1),wZ (s.2.2.2+wZ (c.1+o.1))),0,0,a.2))
        (some (s,a.1,0,[])))
       (some ((s.1,s.2.1,wZ (s.2.2.1+1),wZ (s.2.2.2+wZ (c.1+o.1))),0,0,[])))))
    (some (s,o.2.1,0,[])))
   (some (s,c.2.1,0,[])))
  (some (s,1,0,[]))
def StR(s:SV):Prop:=(0<=s.1/\GR s.1.toNat s.2.1)/\(0<=s.2.2.1/\s.2.2.1<=1099511627776)/\0<=s.2.2.2/\s.2.2.2<=1099511627776
def adW{N:Nat}(k:Fu+18<=N)(s:SV)(i:s.2.1.length<=100000):∃b,uk N s=some b/\(b=true↔StR s):=by
 obtain⟨N,rfl⟩:=sC N 2;obtain⟨n,j,d,l⟩:=s;obtain⟨b,g,f⟩:=ya (N:=N+1) bv n j i;have e:∀c:Int,RF (N+1) c=some (decide (0<=c/\c<=1099511627776)):=λc=>by
  rw[agm,cd];by_cases h:0<=c<;>simp[h]
 rw[agn,g,ob];unfold StR;simp only;cases b with
 |false=>exact⟨_,rfl,λh=>(by cases h),λh=>by have:=f.2 h.1;cases this⟩
 |true=>
  rw[awv,e,ob,cd];by_cases a:0<=d/\d<=1099511627776
  .rw[av3 a,e,ob]
   exact⟨_,rfl,λh=>⟨f.1 rfl,a,awX h⟩,λh=>awu h.2.2⟩
  .rw[av2 a];exact⟨_,rfl,λh=>(by cases h),λh=>absurd h.2.1 a⟩
structure TkR(n:Nat)(ts:List bm)(w:WV)(k:Int)(es:bh)(qs:lz)(M:Nat)(jl:List bm)(ch:Int)(an:aX):Prop where
 wr:WR k es qs
 vt:∀v∈MW es qs,v<(n:Int)
 len:jl.length<=400
 res:(k=3/\jl=ts/\ch=0/\CU (M+1) ((n:Int),ts,qs)=some (0,an))\/∃(t:Nat) (once:bh),t<=7000000/\FZ M (es,w)=some ((t:Int),0,once)/\once.length<=60/\(∀x∈once,l5 (n:Int) x)/\an=[]/\
  ((k=2/\(bX jl).Sublist (bX ts)/\(∀x∈bX jl,x∉once.map dQ)/\((∀e∈bX ts,e∉once.map dQ)->jl=ts/\ch=0))\/
   k=1/\(∀e∈once.map dQ,e.1<e.2->e∈bX jl)/\(∀e∈bX ts,e∈bX jl)/\((∀e∈once.map dQ,e.1<e.2->e∈bX ts)->jl=ts/\ch=0))
