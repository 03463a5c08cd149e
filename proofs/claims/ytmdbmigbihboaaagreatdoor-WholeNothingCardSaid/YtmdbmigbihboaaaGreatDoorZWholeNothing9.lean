/- part 9 -/
import Derived.Test.YtmdbmigbihboaaaGreatDoorZWholeNothing8
set_option linter.all false
noncomputable section
open Go Go.RowKit
set_option maxRecDepth 100000
namespace Go.Proofs.YtmdbmigbihboaaaGreatDoor
variable{a e:Nat}
section
open Go Go.RowKit MapKept
section
variable{P:Program}{Dk:Deferred->Prop}{w0:World}{T:TypeId->bs}{R:Type}{r:R}
def BR.am8{m:Nat->bU}{ρ ρ':Nm}(A:∀j i,m j=some i->∀p,ρ j=some p->ρ' i=some p){w w':World}{d f:Tr CV}{N:Nat}{b:bU}{wr E:Bool}(h:BR P ρ w a e (.ce d N b wr))(z:Ka m d f)(C:w'.heap[a]? =w.heap[a]?):BR P ρ' w' a e (.ce f N b E):=by
 obtain⟨t,D,o,h2,h3,q⟩:=h;refine⟨t,D,by rw[C];exact o,h2,λj c s=>?_,q⟩;obtain⟨k,l,g⟩:=z j c s;obtain⟨x,u,B,v,y⟩:=h3 j k l;exact⟨x,u,B,g.kr A v,by rw[g.one];exact y⟩
def Kc(bk:Tr Nat)(ρ:Nm):Nm:=λi=>(bk.get i).bind ρ
section
variable{h hs h2 h3:Tr cX}{n m n2 n3:Nat}{mp bk m3 b3:Tr Nat}{ρ ρ':Nm}{w w':World}
def Sn.fwd(q:Sn h true .lf 0 .lf .lf hs m mp bk)(u:HR P w0 ρ h.get n w):HR P w0 (Kc bk ρ) hs.get m w/\(∀j i,mp.get j=some i->∀p,ρ j=some p->Kc bk ρ i=some p)/\∀i x,hs.get i=some x->x.wr=false:=by
 have y:∀j i,mp.get j=some i->i<m/\bk.get i=some j/\∃c N e wr d,h.get j=some (.ce c N e wr)/\hs.get i=some (.ce d N e false)/\Ka mp.get c d:=λj i t=>by
  rcases q.nw j i t with g|⟨_,f,_,o,D⟩
  ·cases g
  ·exact⟨f,o,D⟩
 have z:∀j i,mp.get j=some i->∀p,ρ j=some p->Kc bk ρ i=some p:=λj i t p E=>by
  unfold Kc;rw[(y j i t).2.1];exact E
 have G:∀i x,hs.get i=some x->i<m:=λi x a=>by
  by_cases s:i<m
  ·exact s
  ·rw[q.dd i (by omega)]at a;cases a
 have one:∀i x,hs.get i=some x->∃j c N e wr d,bk.get i=some j/\h.get j=some (.ce c N e wr)/\x=.ce d N e false/\Ka mp.get c d:=λi x a=>by
  obtain⟨j,l,f,_⟩:=q.bn i (aql _) (G i x a);obtain⟨_,_,c,N,e,wr,d,A,B,C⟩:=y j i f;rw[B]at a;cases a;exact⟨j,c,N,e,wr,d,l,A,rfl,C⟩
 refine⟨⟨u.ext,λi x b v a k=>?_,λi x b v a k=>?_,λi J x M b K L a I k H F=>?_,λi s=>?_,λi s=>?_⟩,z,λi x a=>?_⟩
 ·obtain⟨j,c,N,e,wr,d,l,f,rfl,o⟩:=one i x a
  unfold Kc at k;rw[l]at k;exact(u.ob j _ b v f k).am8 z o rfl
 ·obtain⟨j,c,N,e,wr,d,l,f,rfl,o⟩:=one i x a
  unfold Kc at k;rw[l]at k;exact u.lo j _ b v f k
 ·obtain⟨j,c,N,e,wr,d,l,f,rfl,o⟩:=one i x a
  cases F
 ·unfold Kc
  rw[q.bo i (by omega)];rfl
 ·rw[q.dd i (by omega)];rfl
 ·obtain⟨j,c,N,e,wr,d,l,f,rfl,o⟩:=one i x a
  rfl
def Sn.bwd(K:Sn h true .lf 0 .lf .lf hs m mp bk)(s:HR P w0 ρ h.get n w)(B:KP P w0 (Kc bk ρ) hs.get m w ρ' h2.get n2 w')(E:Sn h2 false h n bk .lf h3 n3 m3 b3):
 ∃o,KP P w0 ρ h.get n w o h3.get n3 w'/\∀j i,m3.get j=some i->∀p,ρ' j=some p->o i=some p:=by
 obtain⟨hf,aa,a3⟩:=K.fwd s;have a1:∀b,aea (Kc bk ρ) hs.get b:=λb k x l c O=>by rw[a3 k x c]at O;cases O
 have bS:∀b,b<w.heap.size->w'.heap[b]? =w.heap[b]? :=λb y=>(B.fr b y (a1 b)).1;have a0:∀j i,bk.get j=some i->j<m/\i<n:=λj i L=>by
  have V:j<m:=by
   by_cases d:j<m
   ·exact d
   ·rw[K.bo j (by omega)]at L;cases L
  obtain⟨i',q,f,_⟩:=K.bn j (aql _) V;obtain rfl:=apZ (q.symm.trans L);rcases K.nw i' j f with g|⟨_,_,_,_,t,N,e,wr,u,F,_⟩
  ·cases g
  ·exact⟨V,s.lth F⟩
 have a6:=E.le;obtain⟨o,hρ⟩:∃o:Nm,o=λk=>if k<n then ρ k else Kc b3 ρ' k:=⟨_,rfl⟩
 have A:∀{k},k<n->o k=ρ k:=λ{k} a=>by rw[hρ];exact apR a
 have G:∀{k},n<=k->o k=Kc b3 ρ' k:=λ{k} a=>by rw[hρ];exact apQ (by omega)
 have le:Ab ρ o:=λk p a=>by rw[A (s.lt a)];exact a
 have D:∀{k},k<n->h3.get k=h.get k:=λ{k} a=>E.dd k (by omega);have tr:∀j i,m3.get j=some i->∀p,ρ' j=some p->o i=some p:=λj i L p M=>by
  rcases E.nw j i L with g|⟨q,f,C,v,_⟩
  ·obtain⟨F,S⟩:=a0 j i g
   rw[B.ro j F]at M;unfold Kc at M;rw[g]at M;rw[A S];exact M
  ·rw[G q]
   unfold Kc;rw[v];exact M
 have Q:∀k x,n<=k->h3.get k=some x->∃j t N e wr u,m<=j/\b3.get k=some j/\m3.get j=some k/\h2.get j=some (.ce t N e wr)/\x=.ce u N e wr/\Ka m3.get t u:=λk x a c=>by
  have a4:k<n3:=by
   by_cases d:k<n3
   ·exact d
   ·rw[E.dd k (by omega),s.CE k a]at c;cases c
  obtain⟨j,q,f,C⟩:=E.bn k a a4;have V:m<=j:=by
   by_cases d:j<m
   ·obtain⟨i',F,_⟩:=K.bn j (aql _) d
    rw[F]at C;cases C
   ·omega
  rcases E.nw j k f with g|⟨_,_,_,_,t,N,e,wr,u,F,S,e3⟩
  ·have:=(a0 j k g).2;omega
  ·rw[S]at c
   cases c;exact⟨j,t,N,e,wr,u,V,q,f,F,by cases wr<;>rfl,e3⟩
 have Z:∀k x b l,n<=k->h3.get k=some x->o k=some (b,l)->¬b<w.heap.size:=λk x b l a c y a5=>by
  obtain⟨j,t,N,e,wr,u,q,f,C,v,rfl,U⟩:=Q k x a c;rw[G a]at y;unfold Kc at y;rw[f]at y;exact(B.fr b a5 (a1 b)).2 j _ l q v y
 refine⟨o,⟨⟨B.hr.ext,λk x b l c a=>?_,λk x b l c a=>?_,λk I x Y b W X c H a z O=>?_,λk a=>?_,λk a=>?_⟩,a6,λk a=>A a,B.sz,λb y a9=>⟨bS b y,λk x l a c a2=>Z k x b l a c a2 y⟩,λk x a c=>⟨x,by rw[<-D a];exact c,rfl⟩,λk x a c _=>by rw[D a];exact c⟩,tr⟩
 ·by_cases d:k<n
  ·rw[A d]at a
   rw[D d]at c;have:=s.ob k x b l c a;exact this.mono le (bS b this.lt)
  ·obtain⟨j,t,N,e,wr,u,q,f,C,v,rfl,U⟩:=Q k x (by omega) c
   rw[G (by omega)]at a;unfold Kc at a;rw[f]at a;exact(B.hr.ob j _ b l v a).am8 tr U rfl
 ·by_cases d:k<n
  ·rw[A d]at a
   rw[D d]at c;exact s.lo k x b l c a
  ·obtain⟨j,t,N,e,wr,u,q,f,C,v,rfl,U⟩:=Q k x (by omega) c
   rw[G (by omega)]at a;unfold Kc at a;rw[f]at a;exact B.hr.lo j _ b l v a
 ·by_cases d:k<n
  ·by_cases J:I<n
   ·rw[A d]at a
    rw[D d]at c;rw[A J]at z;rw[D J]at H;exact s.inj k I x Y b W X c H a z O
   ·rw[A d]at a
    rw[D d]at c;exact absurd (s.ob k x b W c a).lt (Z I Y b X (by omega) H z)
  ·by_cases J:I<n
   ·rw[A J]at z
    rw[D J]at H;exact absurd (s.ob I Y b X H z).lt (Z k x b W (by omega) c a)
   ·obtain⟨j,t,N,e,wr,u,q,f,C,v,rfl,U⟩:=Q k x (by omega) c
    obtain⟨j',a7,N2,S,wr2,a8,f1,f2,f3,f4,rfl,f6⟩:=Q I Y (by omega) H;rw[G (by omega)]at a z;unfold Kc at a z;rw[f]at a;rw[f2]at z;have:=B.hr.inj j j' _ _ b W X v f4 a z O;subst this;exact apZ (C.symm.trans f3)
 ·rw[G (by omega)]
  unfold Kc;rw[E.bo k (by omega)];rfl
 ·rw[E.dd k (by omega)]
  exact s.CE k (by omega)
end
def MOk(P:Program)(w0:World)(M:Mem):Prop:=∀f a h n r b c,M f a h n=some (r,b,c)->FC P w0 f a h n r b c
def ag9{M:Mem}{l:KC (CV×Tr cX×Nat)}(D:MOk P w0 M)(E:gJ P w0 l):gJ P w0 (aka (R:=R) M l):=by
 intro f Y h n k r I;obtain⟨a,hs,m,mp,bk,o,_,⟨t,S⟩,K⟩:=Ah (RA 64) Sn.refl I;obtain⟨p,d,L⟩:=bA K;obtain⟨A,h3,n3,m3,b3,C,_,F,N⟩:=RA (src:=p.2.1) (fz:=false) (d0:=h) (n0:=n) (m0:=bk) (b0:=.lf) 64 _ _ _ _ _ _ _ Sn.refl L;have b:FC P w0 f a hs m p.1 p.2.1 p.2.2:=by
  cases g:M f a hs m with
  |some q=>
   rw[g]at d;cases d;exact D f a hs m p.1 p.2.1 p.2.2 g
  |none=>
   rw[g]at d;obtain⟨c,Z,n',b,J⟩:=E _ _ _ _ _ _ d;cases J;exact b
 refine⟨A,h3,n3,⟨b.1,λρ w z y x=>?_⟩,N⟩;obtain⟨H,U,_⟩:=o.fwd y;have Q:LR (KR (Kc bk ρ)) a z:=⟨x.1.trans t.symm,λj c u s V=>by
  have i:=(apV.1 s).1;rw[t]at i;exact(S j _ c (ap0 i) s).kr U (x.2 j _ u (ap0 i) V)⟩
 refine(b.2 _ w z H Q).mono λe w' ⟨v,ρ',G,O,W⟩=>?_;obtain⟨X,B,h2⟩:=o.bwd y O C;exact⟨v,X,G,B,F.kr h2 W⟩
def sK{E:O2}{M:Mem}(e:P.follows .mixedOrders=true)(d:gw P T)(c:∀b o u,GT b o u->w0.cell? ⟨b,o,none⟩=some u)(a:EOk P w0 E)(i:MOk P w0 M):∀(N:Nat) {R:Type},gJ P w0 (gQ T E M N (R:=R))
 |0,R=>λf g h n k r j=>by cases j
 |N+1,R=>λf g h n k r j=>by
  rcases dC (show bB (Nat.testBit E.pic f) (aka M (O3 T E N (gQ T E M N)) f g h n k) (O3 T E N (gQ T E M N) f g h n k)=some r from j)with⟨_,l⟩|⟨_,l⟩
  ·exact ag9 i (O8 e d c a (sK e d c a i N)) _ _ _ _ _ _ l
  ·exact O8 e d c a (sK e d c a i N) _ _ _ _ _ _ l
end
end
variable{k:FuncId}
section
open Go Go.RowKit MapKept
section
variable{P:Program}{Dk:Deferred->Prop}{w0:World}{T:TypeId->bs}{R:Type}{r:R}
def Tr.ofF{α:Type}:Nat->(Nat->α)->Nat->Tr α:=Nat.rec (motive:=λ_=>(Nat->α)->Nat->Tr α) (λ_ _=>.lf)
 (λ_ a u n=>bB (Nat.beq n 0) .lf (.nd (a (λp=>u (Nat.succ (Nat.mul 2 p))) (Nat.div n 2)) (some (u 0)) (a (λp=>u (Nat.succ (Nat.succ (Nat.mul 2 p)))) (Nat.div (Nat.sub n 1) 2))))
def Tr.Kd{α:Type}:∀{N n i:Nat} {u:Nat->α} {x:α},(Tr.ofF N u n).get i=some x->x=u i/\i<n
 |0,n,i,u,x,h=>by cases h
 |N+1,n,i,u,x,h=>by
  change(bB (Nat.beq n 0) Tr.lf (Tr.nd (Tr.ofF N (λp=>u (2*p+1)) (n/2)) (some (u 0)) (Tr.ofF N (λp=>u (2*p+2)) ((n - 1)/2)))).get i=_ at h;cases a:Nat.beq n 0 with
  |true=>rw[a]at h;cases h
  |false=>
   rw[a]at h;have f:=iV a;change(Tr.nd _ _ _).get i=_ at h;rw[Tr.iJ]at h;split at h
   ·rename_i b;cases h;subst b;exact⟨rfl,by omega⟩
   ·split at h
    ·rename_i d
     obtain⟨e,c⟩:=Tr.Kd h;exact⟨by rw[e];exact ap5 u (by omega),by omega⟩
    ·obtain⟨e,c⟩:=Tr.Kd h
     exact⟨by rw[e];exact ap5 u (by omega),by omega⟩
def Wz{x:FuncId->Bool}{y:KC R}(C:gw P T)(A:∀b o u,GT b o u->w0.cell? ⟨b,o,none⟩=some u)(B:jM Dk x)(D:gJ P w0 y){ops:bp}{k:KK R}:∀(l:bp) (i:Nat) {t:Tr CV} {h:Tr cX} {n:Nat},ops.drop i=l->YX T x y ops l k t h n=some r->
 ∃G z F,k G z F=some r/\∀ρ a f w Q,mJ ρ t a->HR P w0 ρ h.get n w->(∀g c d,mJ g G c->KP P w0 ρ h.get n w g z.get F d->Df Dk a c->Q .normal c f d)->wpOpsS P ops.toArray Q (List.range' i l.length) a f w
 |[],i,t,h,n,j,m=>⟨t,h,n,m,λρ a f w Q s q p=>p ρ a w s (.refl q) (Df.refl a)⟩
 |o::l,i,t,h,n,j,m=>by
  obtain⟨t1,h1,n1,W,M⟩:=Ft C A B D m;have J:ops.drop (i+1)=l:=by rw[<-arX,j];rfl
  have S:ops[i]? =some o:=by
   have:=ap5 (·[0]?) j;simpa using this
  obtain⟨t2,I,Z,N,V⟩:=Wz C A B D l (i+1) J M;refine⟨t2,I,Z,N,λρ a f w Q s q p=>?_⟩;rw[aqf,auA];unfold wpOpsS;have U:ops.toArray[i]? =some o:=by simpa using S
  simp only[U];have:=W.wp (P:=P) s q (next:=λc d=>wpOpsS P ops.toArray Q (List.range' (i+1) l.length) c f d) (Q:=λe c d=>Q e c f d) λg c d X E K=>V g c f d Q X E.hr λa1 H a0 Y O L=>p a1 H a0 Y (E.trans O) (K.trans L);split
  ·rename_i v
   rw[apR v]at this;unfold Oper.wp at this;split
   ·rename_i d e
    rw[e]at this;exact this.elim
   ·exact this
  ·rename_i v
   rw[apQ v]at this;exact this
def aeE(w:World):HR P w (λ_=>none) (Tr.lf:Tr cX).get 0 w:=
 ⟨Ext.refl w,λk x b m h _=>(by cases h),λk x b m h _=>(by cases h),λk a x d b m c h _ _ _ _=>(by cases h),λ_ _=>rfl,λ_ _=>rfl⟩
def O9(hm:P.follows .mixedOrders=true)(I:gw P T)(S:∀b o u,GT b o u->w0.cell? ⟨b,o,none⟩=some u){s:KC Nat}{N:Nat}(f:∀w,Ext w0 w->gJ P w s)
 {g:Func} {ts:iM} {id:Nat} {C:tZ} {o:Oper} {l:bp} {d:Tmp} {n:Code} (he:Enters P k) (hf:P.funcs[k]? =some g) (V:g.body=some (.seq (.region id C false) n)) (a8:C.toList=o::l) (ho:o.op=.call ⟨.builtin .recover, #[],ts⟩) (hg:o.guard=none) (X:o.dst=some d) (ad:g.results.toList=[])
 (ae:∀u:Nat->Value,(Tr.put (.v .nilIface) (Tr.ofF 64 (λi=>.v (u i)) g.ntmps) d λt=>YX T (λ_=>false) s (o::l) l (O1 T (λ_=>false) s N n (λ_ _ _=>some 0) (λ_ _ _ _=>none) (λ_ _ _=>some 0)) t .lf 0)=some 0):
 ∀cap,Fi P w0 {target:=.fn (.func k) cap,args:= #[]}:=by
 intro cap;refine⟨.func k,cap,k, #[]++cap,rfl,λw A=>⟨gz he _ w,?_⟩⟩;have H:∀b o u,GT b o u->w.cell? ⟨b,o,none⟩=some u:=λb o u h=>A.cell (S b o u h);refine callsD_of_wpS hf V λj m p=>?_;obtain⟨a,y⟩:∃a:Act,a={tmps:=(#[]++cap)++Array.replicate (g.ntmps - (#[]++cap).size) undef,defers:=[]}:=⟨_,rfl⟩;rw[<-y];obtain⟨t,a4,⟨x0,ak⟩,U⟩:=Tr.mv (ae λi=>a.tmps.getD i undef);have G:jM (λ_=>False) (λ_=>false):=λk h=>by cases h
 obtain⟨t1,h1,n1,a5,ac⟩:=Wz (Dk:=λ_=>False) (w0:=w) I H G (f w A) (ops:=o::l) l 1 rfl a4;obtain⟨x,t2,h2,n2,a6,W⟩:=O7 (Dk:=λ_=>False) (w0:=w) hm I H G (f w A) n a5;have B:x=.normal\/x=.ret:=by
  cases x with
  |normal=>exact .inl rfl
  |ret=>exact .inr rfl
  |_=>cases a6
 have af:g.ntmps<=a.tmps.size:=by rw[y];simp;omega
 have ai:mJ (λ_=>none) (Tr.ofF 64 (λi=>CV.v (a.tmps.getD i undef)) g.ntmps) a:=λi c f=>by
  obtain⟨rfl,z⟩:=Tr.Kd f;have J:i<a.tmps.size:=by omega
  refine⟨a.tmps[i],aqA J,?_⟩;rw[aq8,aqA J];exact .v
 have ah:mJ (λ_=>none) t (a.put o.dst .nilIface):=by
  rw[X];intro i c f;rw[U]at f;have Z:d<a.tmps.size:=by
   have a7:=(Tr.Kd ak).2;exact arV a7 af
  by_cases z:i=d
  ·subst z
   rw[apR rfl]at f;cases f;exact⟨.nilIface,by simp[Act.put,Z],.v⟩
  ·rw[apQ z]at f
   obtain⟨u,p,hk⟩:=ai i c f;exact⟨u,by simp only[Act.put];rw[atf (by omega)];exact p,hk⟩
 refine wpS_seq (wpS_region ?_);have a9:C=(o::l).toArray:=by rw[<-a8]
 rw[a9,show List.range (o::l).toArray.size=0::List.range' 1 l.length by rw[au6];simp[auA]];have ab:recoverD (j::m)=none:=by
  unfold recoverD;simp only[p]
 unfold wpOpsS;have aj:Region.wanted o (yielded (o::l).toArray a.tmps)=true:=by simp[Region.wanted,hg]
 have aa:(execOp a.eval o).run P w=.ok .recover w:=by simp[execOp,ho,resolve,invoke,builtin]
 simp only[arj,att,aj,aqs,aa,ab];refine ac (λ_=>none) _ (j::m) w _ ah (aeE w) λρ1 F L ag al M=>?_;show n.wpS P _ F (j::m) L;refine wpS_of_wp (W ρ1 F L _ ag al.hr λρ2 q E an am O=>?_);have Y:q.defers=[]:=by
  obtain⟨D,Q,e⟩:=M.trans O;have:D=[]:=arz.2 λx B=>Q x B;rw[e,this,put_defers,y];rfl
 have a3:q.defers=[]/\∃K,(j::m)={j with mode:=K}::m/\∃v,(results g q.tmps).run P E=.ok v E/\((∃v',Ending.returned v=.returned v')/\K=.returning/\Ext w E):=by
  refine⟨Y,.returning,by rw[<-p],_,Fw (us:=[]) (by rw[ad];simp),⟨_,rfl⟩,rfl,?_⟩;exact am.hr.ext
 rcases B with rfl|rfl<;>exact a3
end
end
section
open Go Go.RowKit MapKept
section
variable{P:Program}{Dk:Deferred->Prop}{w0:World}{T:TypeId->bs}{R:Type}{r:R}
def aeF:List CV->List CV->Bool
 |[],[]=>true
 |a::l,b::m=>bB (cEq a b) (aeF l m) false
 |_,_=>false
def hEq:Tr cX->Tr cX->Bool
 |.lf,.lf=>true
 |.nd l x r,.nd b a c=>bB (hEq l b) (bB (match x,a with
  |none,none=>true
  |x,a=>ag0 x a) (hEq r c) false) false
 |_,_=>false
def WB:∀{l m:List CV},aeF l m=true->l=m
 |[],[],_=>rfl
 |a::l,b::m,h=>by
  unfold aeF at h;cases c:cEq a b with
  |false=>rw[c]at h;cases h
  |true=>rw[c]at h;rw[aeA c,WB h]
 |[],_::_,h=>by cases h
 |_::_,[],h=>by cases h
def RC:∀{l m:Tr cX},hEq l m=true->l=m
 |.lf,.lf,_=>rfl
 |.nd l x r,.nd g i c,h=>by
  unfold hEq at h;cases a:hEq l g with
  |false=>rw[a]at h;cases h
  |true=>
   rw[a]at h;change bB _ (hEq r c) false=true at h;have f:∀b:Bool,bB b (hEq r c) false=true->b=true/\hEq r c=true:=λb h=>by
    cases b with
    |false=>cases h
    |true=>exact⟨rfl,h⟩
   obtain⟨d,e⟩:=f _ h;rw[RC a,RC e];split at d
   ·rfl
   ·rw[Wu d]
 |.lf,.nd _ _ _,h=>by cases h
 |.nd _ _ _,.lf,h=>by cases h
abbrev oO:=FuncId×(List CV×Tr cX×Nat)×(CV×Tr cX×Nat)
def jt(L:List oO):Mem:=λf b h n=>List.rec (motive:=λ_=>Option (CV×Tr cX×Nat)) none (λe _ a=>bB (Nat.beq e.1 f) (bB (Nat.beq e.2.1.2.2 n) (bB (aeF e.2.1.1 b) (bB (hEq e.2.1.2.1 h) (some e.2.2) a) a) a) a) L
def MOk.nil:MOk P w0 (jt []):=λf b h n r c d a=>by cases a
def MOk.cons{L:List oO}{e:oO}(s:MOk P w0 (jt L))(k:FC P w0 e.1 e.2.1.1 e.2.1.2.1 e.2.1.2.2 e.2.2.1 e.2.2.2.1 e.2.2.2.2):MOk P w0 (jt (e::L)):=λf c h n r i j a=>by
 have d:∀{b:Bool} {x y:Option (CV×Tr cX×Nat)} {z},bB b x y=some z->(b=true/\x=some z)\/y=some z:=λ{b x y z} h=>by
  cases b with
  |true=>exact .inl ⟨rfl,h⟩
  |false=>exact .inr h
 have g:jt L f c h n=some (r,i,j)->FC P w0 f c h n r i j:=s f c h n r i j;change bB (Nat.beq e.1 f) (bB (Nat.beq e.2.1.2.2 n) (bB (aeF e.2.1.1 c) (bB (hEq e.2.1.2.1 h) (some e.2.2) (jt L f c h n)) (jt L f c h n)) (jt L f c h n)) (jt L f c h n)=_ at a;rcases d a with⟨m,t⟩|a
 ·rcases d t with⟨o,u⟩|a
  ·rcases d u with⟨p,v⟩|a
   ·rcases d v with⟨q,w⟩|a
    ·obtain rfl:=ei m
     obtain rfl:=ei o;obtain rfl:=WB p;obtain rfl:=RC q;have l:=apZ w;rw[l]at k;exact k
    ·exact g a
   ·exact g a
  ·exact g a
 ·exact g a
def qb:CV->Tr cX->Nat->Option (CV×Tr cX×Nat):=λr h n=>some (r,h,n)
def er{E:O2}{M:Mem}(q:P.follows .mixedOrders=true)(j:gw P T)(g:∀b o u,GT b o u->w0.cell? ⟨b,o,none⟩=some u)(f:EOk P w0 E)(i:MOk P w0 M){d:List CV}{h:Tr cX}{p:CV×Tr cX×Nat}(m:gQ T E M a k d h e qb=some p):FC P w0 k d h e p.1 p.2.1 p.2.2:=by
 obtain⟨c,s,t,l,n⟩:=sK q j g f i a k d h e qb p m;cases n;exact l
def CG(T:TypeId->bs)(b:KC Nat)(N:Nat)(a:Func)(u:Nat->Value):bU:=match a.body with
 |some (.seq (.region _ e false) c)=>(match e.toList with
  |o::l=>(match o.op,o.guard,o.dst with
   |.call ⟨.builtin .recover,⟨[]⟩,_⟩,none,some d=>bB a.results.toList.isEmpty (Tr.put (.v .nilIface) (Tr.ofF 64 (λi=>.v (u i)) a.ntmps) d λt=>YX T (λ_=>false) b (o::l) l (O1 T (λ_=>false) b N c (λ_ _ _=>some 0) (λ_ _ _ _=>none) (λ_ _ _=>some 0)) t .lf 0) none
   |_,_,_=>none)
  |[]=>none)
 |_=>none
def yY(z:P.follows .mixedOrders=true)(t:gw P T)(s:∀b o u,GT b o u->w0.cell? ⟨b,o,none⟩=some u){f:KC Nat}(v:∀w,Ext w0 w->gJ P w f)
 {g:Func} (x:Enters P k) (y:P.funcs[k]? =some g) (e:∀u:Nat->Value,CG T f a g u=some 0):∀q,Fi P w0 {target:=.fn (.func k) q,args:= #[]}:=by
 have c:=e λ_=>undef;unfold CG at c e;split at c
 ·rename_i id C B i
  split at c
  ·rename_i o l p
   split at c
   ·rename_i D d n m j
    obtain⟨A,_⟩:=bg c;refine O9 (N:=a) z t s v x y i p n m j (by simpa using A) λu=>?_;have h:=e u;simp only[i,p,n,m,j]at h;exact(bg h).2
   ·cases c
  ·cases c
 ·cases c
def aeG(b:List Func)(m:Nat):Bool:=(List.range b.length).all λf=> !(Nat.testBit m f)||(match atL b f with
 |some a=> !(a.name== "runtime.NumGoroutine") && a.body.isSome
 |none=>false)
def kC(h:aeG P.funcs.toList a=true)(l:a<2^P.funcs.toList.length):∀f,Nat.testBit a f=true->Enters P f:=by
 intro f d;have j:f<P.funcs.toList.length:=by
  by_cases e:f<P.funcs.toList.length
  ·exact e
  ·rw[au7 (arV l (auy (by omega) (by omega)))]at d
   cases d
 have:=aqg.1 h f (aqR.2 j);rw[d]at this;simp only[ap9,atT]at this;rw[Rz]at this;split at this
 ·rename_i b k
  simp only[apS,aq1]at this;have i:P.funcs[f]? =some b:=by simpa using k
  refine⟨b,i,this.1,?_⟩;cases g:b.body with
  |none=>rw[g]at this;simp at this
  |some c=>rfl
 ·cases this
def ahW{b:List Func}{a i c:Nat}(e:P.funcs.toList=b)(h:aeG P.funcs.toList a=true)(g:a<2^P.funcs.toList.length)(d:jM (Fi P w0) λf=>Nat.testBit c f):EOk P w0 ⟨b,a,i,c⟩:=⟨e,kC h g,d⟩
end
end
variable{b:World}
abbrev vi(n:Int):CV:=.v (.int .i64 n)
abbrev vb(b:Bool):CV:=.v (.bool b)
abbrev vn:CV:=.v (.slice none 0 0)
noncomputable def tC(l:List CV):Tr CV:=Tr.ofF 64 (λi=>l.getD i vn) l.length
noncomputable def tI(l:aX):Tr CV:=tC (l.map vi)
noncomputable def wFs:List Func:=Tryz.prog.funcs.toList
def wE:O2:=⟨wFs,34996044971325627054180073056096100744902501561549560805511860125084370209373230094084804941151469564,431464458966078889682352881519593056286270676078757902265286202855456,40564819207303340848444258385920⟩
def wE0:O2:=⟨wFs,34996044971325627054180073056096100744902501561549560805511860125084370209373230094084804941151469564,431464458966078889682352881519593056286270676078757902265286202855456,0⟩
def Fx:oO:=(27,([(.sl 0 0 4 none),(.ag [(vi 8),(vi 3),(vi 2),(vi 3),(.sl 1 0 3 (some 3))])],(.nd (.nd .lf (some (.ce (tI [0,1,1,0,2,0]) 6 none false)) .lf) (some (.ce (tI [0,1,1,2,2,0,3,2]) 8 (some 2) false)) .lf),2),((.tu [(.sl 2 0 4 none),(vi 13),(vi 0)]),(.nd (.nd .lf (some (.ce (tI [0,1,1,0,2,0]) 6 none false)) .lf) (some (.ce (tI [0,1,1,2,2,0,3,2]) 8 (some 2) false)) (.nd .lf (some (.ce (tI [0,1,0,2,1,2,2,3]) 8 (some 2) true)) .lf)),3))
def FL:oO:=(27,([(.sl 0 0 1 none),(.ag [(vi 8),(vi 3),(vi 2),(vi 3),(.sl 1 0 3 (some 3))])],(.nd (.nd .lf (some (.ce (tI [0,1,1,0,2,0]) 6 none false)) .lf) (some (.ce (tI [1,0]) 2 (some 2) false)) .lf),2),((.tu [(.sl 2 0 1 none),(vi 11),(vi 0)]),(.nd (.nd .lf (some (.ce (tI [0,1,1,0,2,0]) 6 none false)) .lf) (some (.ce (tI [1,0]) 2 (some 2) false)) (.nd .lf (some (.ce (tI [0,1]) 2 (some 2) true)) .lf)),3))
def F1:oO:=(27,([(.sl 0 0 4 (some 4)),(.ag [(vi 8),(vi 3),(vi 2),(vi 3),(.sl 1 0 3 (some 3))])],(.nd (.nd .lf (some (.ce (tI [0,1,1,0,2,0]) 6 none false)) .lf) (some (.ce (tI [0,1,1,2,2,0,3,2]) 8 none false)) .lf),2),((.tu [(.sl 2 0 4 none),(vi 13),(vi 0)]),(.nd (.nd .lf (some (.ce (tI [0,1,1,0,2,0]) 6 none false)) .lf) (some (.ce (tI [0,1,1,2,2,0,3,2]) 8 none false)) (.nd .lf (some (.ce (tI [0,1,0,2,1,2,2,3]) 8 (some 2) true)) .lf)),3))
def H5:oO:=(30,([(vi 4),(.ag [(vi 2),(vi 3),(.sl 0 0 3 (some 3))])],(.nd .lf (some (.ce (tI [0,1,1,0,2,0]) 6 none false)) .lf),1),((.tu [(.sl 1 0 4 none),(vi 3),(vi 0)]),(.nd (.nd .lf (some (.ce (tI [2,3,0,1]) 4 (some 1) true)) .lf) (some (.ce (tI [0,1,1,0,2,0]) 6 none false)) .lf),2))
def Ke:oO:=(54,([(.ag [(vi 5),(.sl 0 0 4 none)])],(.nd .lf (some (.ce (tC [(vi 0),(vi 1),(vi 0),(vb true),(vi 0),(vi 2),(vi 0),(vb true),(vi 1),(vi 2),(vi 0),(vb false),(vi 2),(vi 3),(vi 0),(vb true)]) 16 (some 4) false)) .lf),1),((vb true),(.nd .lf (some (.ce (tC [(vi 0),(vi 1),(vi 0),(vb true),(vi 0),(vi 2),(vi 0),(vb true),(vi 1),(vi 2),(vi 0),(vb false),(vi 2),(vi 3),(vi 0),(vb true)]) 16 (some 4) false)) .lf),1))
def Kk:oO:=(54,([(.ag [(vi 5),(.sl 0 0 3 none)])],(.nd .lf (some (.ce (tC [(vi 0),(vi 2),(vi 0),(vb true),(vi 1),(vi 2),(vi 0),(vb false),(vi 2),(vi 3),(vi 0),(vb true)]) 12 (some 4) false)) .lf),1),((vb true),(.nd .lf (some (.ce (tC [(vi 0),(vi 2),(vi 0),(vb true),(vi 1),(vi 2),(vi 0),(vb false),(vi 2),(vi 3),(vi 0),(vb true)]) 12 (some 4) false)) .lf),1))
def O_:oO:=(54,([(.ag [(vi 5),(.sl 0 0 3 none)])],(.nd .lf (some (.ce (tC [(vi 0),(vi 2),(vi 0),(vb true),(vi 1),(vi 2),(vi 0),(vb true),(vi 2),(vi 3),(vi 0),(vb true)]) 12 (some 4) false)) .lf),1),((vb true),(.nd .lf (some (.ce (tC [(vi 0),(vi 2),(vi 0),(vb true),(vi 1),(vi 2),(vi 0),(vb true),(vi 2),(vi 3),(vi 0),(vb true)]) 12 (some 4) false)) .lf),1))
def Pj:oO:=(20,([(.ag [(vi 5),(.sl 0 0 3 none)]),(vi 0)],(.nd .lf (some (.ce (tC [(vi 0),(vi 2),(vi 0),(vb true),(vi 1),(vi 2),(vi 0),(vb true),(vi 2),(vi 3),(vi 0),(vb true)]) 12 (some 4) false)) .lf),1),((.tu [(.ag [(vi 5),(.sl 3 0 2 none)]),(vi 0)]),(.nd (.nd (.nd .lf (some (.ce (tC [(.sl 2 0 10 none),(.sl 1 0 1 (some 1))]) 2 (some 1) true)) .lf) (some (.ce (tI [4]) 1 none true)) .lf) (some (.ce (tC [(vi 0),(vi 2),(vi 0),(vb true),(vi 1),(vi 2),(vi 0),(vb true),(vi 2),(vi 3),(vi 0),(vb true)]) 12 (some 4) false)) (.nd .lf (some (.ce (tI [0,7,16,1,12,2,18,3,22,15]) 10 (some 1) true)) .lf)),4))
def RD:oO:=(5,([(.ag [(vi 5),(.sl 0 0 4 none),(vi 1),(vi 16)]),(.ag [(vi 2),(.sl 1 0 1 none),vn]),(.ag [(vi 8),(vi 3),(vi 2),(vi 3),(.sl 2 0 3 (some 3))])],(.nd (.nd .lf (some (.ce (tI [1,0]) 2 (some 2) false)) .lf) (some (.ce (tC [(vi 0),(vi 1),(vi 0),(vb true),(vi 0),(vi 2),(vi 0),(vb true),(vi 1),(vi 2),(vi 0),(vb false),(vi 2),(vi 3),(vi 0),(vb true)]) 16 (some 4) false)) (.nd .lf (some (.ce (tI [0,1,1,0,2,0]) 6 none false)) .lf)),3),((.tu [(.ag [(vi 5),(.sl 3 0 3 none),(vi 2),(vi 28)]),(.ag [(vi 0),(vi 1),vn])]),(.nd (.nd (.nd .lf (some (.ce (tC [(vi 0),(vi 2),(vi 0),(vb true),(vi 1),(vi 2),(vi 0),(vb true),(vi 2),(vi 3),(vi 0),(vb true)]) 12 (some 4) true)) .lf) (some (.ce (tI [1,0]) 2 (some 2) false)) .lf) (some (.ce (tC [(vi 0),(vi 1),(vi 0),(vb true),(vi 0),(vi 2),(vi 0),(vb true),(vi 1),(vi 2),(vi 0),(vb false),(vi 2),(vi 3),(vi 0),(vb true)]) 16 (some 4) false)) (.nd .lf (some (.ce (tI [0,1,1,0,2,0]) 6 none false)) .lf)),4))
def WC:oO:=(12,([(.ag [(vi 5),vn,(vi 0),(vi 0)]),(.sl 0 0 39 none),(.ag [(vi 8),(vi 3),(vi 2),(vi 3),(.sl 1 0 3 (some 3))])],(.nd (.nd .lf (some (.ce (tI [0,1,1,0,2,0]) 6 none false)) .lf) (some (.ce (tC [(.v (.int .u8 1)),(.v (.int .u8 0)),(.v (.int .u8 4)),(.v (.int .u8 0)),(.v (.int .u8 0)),(.v (.int .u8 0)),(.v (.int .u8 1)),(.v (.int .u8 0)),(.v (.int .u8 1)),(.v (.int .u8 0)),(.v (.int .u8 2)),(.v (.int .u8 0)),(.v (.int .u8 2)),(.v (.int .u8 0)),(.v (.int .u8 0)),(.v (.int .u8 0)),(.v (.int .u8 3)),(.v (.int .u8 0)),(.v (.int .u8 2)),(.v (.int .u8 2)),(.v (.int .u8 0)),(.v (.int .u8 1)),(.v (.int .u8 0)),(.v (.int .u8 1)),(.v (.int .u8 0)),(.v (.int .u8 0)),(.v (.int .u8 3)),(.v (.int .u8 0)),(.v (.int .u8 2)),(.v (.int .u8 3)),(.v (.int .u8 0)),(.v (.int .u8 3)),(.v (.int .u8 0)),(.v (.int .u8 0)),(.v (.int .u8 4)),(.v (.int .u8 0)),(.v (.int .u8 0)),(.v (.int .u8 0)),(.v (.int .u8 0))]) 39 (some 1) false)) .lf),2),((.tu [(.ag [(vi 5),(.sl 2 0 3 none),(vi 3),(vi 29)]),(.sl 4 0 3 none),(vi 0)]),(.nd (.nd (.nd .lf (some (.ce (tI [4,2]) 2 (some 1) true)) .lf) (some (.ce (tI [0,1,1,0,2,0]) 6 none false)) .lf) (some (.ce (tC [(.v (.int .u8 1)),(.v (.int .u8 0)),(.v (.int .u8 4)),(.v (.int .u8 0)),(.v (.int .u8 0)),(.v (.int .u8 0)),(.v (.int .u8 1)),(.v (.int .u8 0)),(.v (.int .u8 1)),(.v (.int .u8 0)),(.v (.int .u8 2)),(.v (.int .u8 0)),(.v (.int .u8 2)),(.v (.int .u8 0)),(.v (.int .u8 0)),(.v (.int .u8 0)),(.v (.int .u8 3)),(.v (.int .u8 0)),(.v (.int .u8 2)),(.v (.int .u8 2)),(.v (.int .u8 0)),(.v (.int .u8 1)),(.v (.int .u8 0)),(.v (.int .u8 1)),(.v (.int .u8 0)),(.v (.int .u8 0)),(.v (.int .u8 3)),(.v (.int .u8 0)),(.v (.int .u8 2)),(.v (.int .u8 3)),(.v (.int .u8 0)),(.v (.int .u8 3)),(.v (.int .u8 0)),(.v (.int .u8 0)),(.v (.int .u8 4)),(.v (.int .u8 0)),(.v (.int .u8 0)),(.v (.int .u8 0)),(.v (.int .u8 0))]) 39 (some 1) false)) (.nd (.nd .lf (some (.ce (tC [(vi 0),(vi 4),vn,(vi 0),(vi 1),vn,(vi 0),(vi 0),(.sl 3 0 2 none)]) 9 (some 3) true)) .lf) (some (.ce (tC [(vi 0),(vi 2),(vi 0),(vb true),(vi 1),(vi 2),(vi 0),(vb true),(vi 2),(vi 3),(vi 0),(vb true)]) 12 (some 4) true)) .lf)),5))
def Ai:oO:=(34,([(.ag [(vi 5),(.sl 0 0 3 none)])],(.nd .lf (some (.ce (tC [(vi 0),(vi 2),(vi 0),(vb true),(vi 1),(vi 2),(vi 0),(vb true),(vi 2),(vi 3),(vi 0),(vb true)]) 12 (some 4) false)) .lf),1),((vb true),(.nd .lf (some (.ce (tC [(vi 0),(vi 2),(vi 0),(vb true),(vi 1),(vi 2),(vi 0),(vb true),(vi 2),(vi 3),(vi 0),(vb true)]) 12 (some 4) false)) .lf),1))
def BL:oO:=(15,([(.ag [(vi 5),(.sl 0 0 3 none),(vi 3),(vi 29)]),(.sl 1 0 4 (some 4))],(.nd (.nd .lf (some (.ce (tC [(.v (.int .u32 1)),(.v (.int .u32 2)),(.v (.int .u32 4)),(.v (.int .u32 8))]) 4 none false)) .lf) (some (.ce (tC [(vi 0),(vi 2),(vi 0),(vb true),(vi 1),(vi 2),(vi 0),(vb true),(vi 2),(vi 3),(vi 0),(vb true)]) 12 (some 4) false)) .lf),2),((.tu [(.sl 19 0 2 none),(vi 0)]),(.nd (.nd (.nd (.nd (.nd .lf (some (.ce (tI [5]) 1 (some 1) true)) .lf) (some (.ce (tI [1]) 1 (some 1) true)) .lf) (some (.ce (tI [1,4,1,2,1,3,3,4,3,4]) 10 (some 1) true)) (.nd (.nd .lf (some (.ce (tC [(.sl 6 0 10 none),(.sl 3 0 10 none),(.sl 18 0 10 (some 10)),(.sl 2 0 1 none),(.sl 7 0 1 none),(.sl 5 0 1 (some 1))]) 6 (some 3) true)) .lf) (some (.ce (tI [0,1,1,1]) 4 (some 1) true)) .lf)) (some (.ce (tC [(.v (.int .u32 1)),(.v (.int .u32 2)),(.v (.int .u32 4)),(.v (.int .u32 8))]) 4 none false)) (.nd (.nd (.nd .lf (some (.ce (tI [7,7,7]) 3 (some 1) true)) .lf) (some (.ce (tI [4,5]) 2 (some 1) true)) .lf) (some (.ce (tC [(.sl 4 0 1 none)]) 1 none true)) (.nd .lf (some (.ce (tI [1]) 1 (some 1) true)) .lf))) (some (.ce (tC [(vi 0),(vi 2),(vi 0),(vb true),(vi 1),(vi 2),(vi 0),(vb true),(vi 2),(vi 3),(vi 0),(vb true)]) 12 (some 4) false)) (.nd (.nd (.nd (.nd .lf (some (.ce (tI [3]) 1 (some 1) true)) .lf) (some (.ce (tI [8,8,8,9]) 4 (some 1) true)) .lf) (some (.ce (tI [0]) 1 (some 1) true)) (.nd .lf (some (.ce (tI [6,6,6]) 3 (some 1) true)) .lf)) (some (.ce (tI [4]) 1 (some 1) true)) (.nd (.nd (.nd .lf (some (.ce (tC [(.sl 13 0 1 none),(.sl 10 0 4 none),(.sl 16 0 1 none),(.sl 9 0 2 none),(.sl 15 0 1 none),(.sl 12 0 3 none),(.sl 17 0 3 none),(.sl 8 0 4 none),(.sl 14 0 3 none),(.sl 11 0 4 none)]) 10 none true)) .lf) (some (.ce (tI [2,3,5,7]) 4 (some 1) true)) .lf) (some (.ce (tI [0,7,16,1,12,2,18,3,22,15]) 10 (some 1) true)) (.nd .lf (some (.ce (tI [9,9,9]) 3 (some 1) true)) .lf)))),20))
def Fy:oO:=(16,([(.ag [(.sl 0 0 10 none),(.sl 1 0 10 none),(.sl 12 0 10 (some 10))]),(.sl 13 0 10 (some 10))],(.nd (.nd (.nd (.nd .lf (some (.ce (tI [1]) 1 (some 1) false)) .lf) (some (.ce (tI [4,5]) 2 (some 1) false)) (.nd .lf (some (.ce (tI [7,7,7]) 3 (some 1) false)) .lf)) (some (.ce (tI [1,4,1,2,1,3,3,4,3,4]) 10 (some 1) false)) (.nd (.nd .lf (some (.ce (tI [5]) 1 (some 1) false)) .lf) (some (.ce (tI [0,1,1,1]) 4 (some 1) false)) (.nd .lf (some (.ce (tI [0,0,0,0,0,0,0,0,0,0]) 10 none false)) .lf))) (some (.ce (tI [0,7,16,1,12,2,18,3,22,15]) 10 (some 1) false)) (.nd (.nd (.nd .lf (some (.ce (tI [9,9,9]) 3 (some 1) false)) .lf) (some (.ce (tI [2,3,5,7]) 4 (some 1) false)) (.nd .lf (some (.ce (tC [(.sl 7 0 1 none),(.sl 4 0 4 none),(.sl 10 0 1 none),(.sl 3 0 2 none),(.sl 9 0 1 none),(.sl 6 0 3 none),(.sl 11 0 3 none),(.sl 2 0 4 none),(.sl 8 0 3 none),(.sl 5 0 4 none)]) 10 none false)) .lf)) (some (.ce (tI [8,8,8,9]) 4 (some 1) false)) (.nd (.nd .lf (some (.ce (tI [3]) 1 (some 1) false)) .lf) (some (.ce (tI [6,6,6]) 3 (some 1) false)) .lf))),14),((.tu [(.sl 24 0 10 (some 10)),(vi 0)]),(.nd (.nd (.nd (.nd (.nd .lf (some (.ce (tI [0,0]) 2 (some 1) true)) .lf) (some (.ce (tI [1]) 1 (some 1) false)) (.nd .lf (some (.ce (tI [0,0,0]) 3 (some 1) true)) .lf)) (some (.ce (tI [4,5]) 2 (some 1) false)) (.nd (.nd .lf (some (.ce (tI [0]) 1 (some 1) true)) .lf) (some (.ce (tI [7,7,7]) 3 (some 1) false)) .lf)) (some (.ce (tI [1,4,1,2,1,3,3,4,3,4]) 10 (some 1) false)) (.nd (.nd (.nd .lf (some (.ce (tI [0,0,0,0]) 4 (some 1) true)) .lf) (some (.ce (tI [5]) 1 (some 1) false)) .lf) (some (.ce (tI [0,1,1,1]) 4 (some 1) false)) (.nd (.nd .lf (some (.ce (tI [0]) 1 (some 1) true)) .lf) (some (.ce (tI [0,0,0,0,0,0,0,0,0,0]) 10 none false)) .lf))) (some (.ce (tI [0,7,16,1,12,2,18,3,22,15]) 10 (some 1) false)) (.nd (.nd (.nd (.nd .lf (some (.ce (tI [0,0,0,0]) 4 (some 1) true)) .lf) (some (.ce (tI [9,9,9]) 3 (some 1) false)) (.nd .lf (some (.ce (tC [(.sl 19 0 1 none),(.sl 16 0 4 none),(.sl 22 0 1 none),(.sl 15 0 2 none),(.sl 21 0 1 none),(.sl 18 0 3 none),(.sl 23 0 3 none),(.sl 14 0 4 none),(.sl 20 0 3 none),(.sl 17 0 4 none)]) 10 none true)) .lf)) (some (.ce (tI [2,3,5,7]) 4 (some 1) false)) (.nd (.nd .lf (some (.ce (tI [0,0,0]) 3 (some 1) true)) .lf) (some (.ce (tC [(.sl 7 0 1 none),(.sl 4 0 4 none),(.sl 10 0 1 none),(.sl 3 0 2 none),(.sl 9 0 1 none),(.sl 6 0 3 none),(.sl 11 0 3 none),(.sl 2 0 4 none),(.sl 8 0 3 none),(.sl 5 0 4 none)]) 10 none false)) .lf)) (some (.ce (tI [8,8,8,9]) 4 (some 1) false)) (.nd (.nd (.nd .lf (some (.ce (tI [0,0,0]) 3 (some 1) true)) .lf) (some (.ce (tI [3]) 1 (some 1) false)) .lf) (some (.ce (tI [6,6,6]) 3 (some 1) false)) (.nd (.nd .lf (some (.ce (tI [0]) 1 (some 1) true)) .lf) (some (.ce (tI [0,0,0,0]) 4 (some 1) true)) .lf)))),25))
def F2:oO:=(18,([(.ag [(.sl 0 0 10 none),(.sl 1 0 10 none),(.sl 12 0 10 (some 10))]),(.sl 23 0 10 (some 10))],(.nd (.nd (.nd (.nd (.nd .lf (some (.ce (tI [0,0,0,0]) 4 (some 1) false)) .lf) (some (.ce (tI [1]) 1 (some 1) false)) (.nd .lf (some (.ce (tC [(.sl 18 0 1 none),(.sl 15 0 4 none),(.sl 21 0 1 none),(.sl 14 0 2 none),(.sl 20 0 1 none),(.sl 17 0 3 none),(.sl 22 0 3 none),(.sl 13 0 4 none),(.sl 19 0 3 none),(.sl 16 0 4 none)]) 10 none false)) .lf)) (some (.ce (tI [4,5]) 2 (some 1) false)) (.nd (.nd .lf (some (.ce (tI [0,0,0]) 3 (some 1) false)) .lf) (some (.ce (tI [7,7,7]) 3 (some 1) false)) .lf)) (some (.ce (tI [1,4,1,2,1,3,3,4,3,4]) 10 (some 1) false)) (.nd (.nd (.nd .lf (some (.ce (tI [0,0,0]) 3 (some 1) false)) .lf) (some (.ce (tI [5]) 1 (some 1) false)) .lf) (some (.ce (tI [0,1,1,1]) 4 (some 1) false)) (.nd (.nd .lf (some (.ce (tI [0]) 1 (some 1) false)) .lf) (some (.ce (tI [0,0,0,0]) 4 (some 1) false)) .lf))) (some (.ce (tI [0,7,16,1,12,2,18,3,22,15]) 10 (some 1) false)) (.nd (.nd (.nd (.nd .lf (some (.ce (tI [0,0,0,0]) 4 (some 1) false)) .lf) (some (.ce (tI [9,9,9]) 3 (some 1) false)) .lf) (some (.ce (tI [2,3,5,7]) 4 (some 1) false)) (.nd (.nd .lf (some (.ce (tI [0]) 1 (some 1) false)) .lf) (some (.ce (tC [(.sl 7 0 1 none),(.sl 4 0 4 none),(.sl 10 0 1 none),(.sl 3 0 2 none),(.sl 9 0 1 none),(.sl 6 0 3 none),(.sl 11 0 3 none),(.sl 2 0 4 none),(.sl 8 0 3 none),(.sl 5 0 4 none)]) 10 none false)) .lf)) (some (.ce (tI [8,8,8,9]) 4 (some 1) false)) (.nd (.nd (.nd .lf (some (.ce (tI [0]) 1 (some 1) false)) .lf) (some (.ce (tI [3]) 1 (some 1) false)) .lf) (some (.ce (tI [6,6,6]) 3 (some 1) false)) (.nd (.nd .lf (some (.ce (tI [0,0,0]) 3 (some 1) false)) .lf) (some (.ce (tI [0,0]) 2 (some 1) false)) .lf)))),24),((.tu [(vi 0),(vi 0)]),(.nd (.nd (.nd (.nd (.nd .lf (some (.ce (tI [0,0,0,0]) 4 (some 1) false)) .lf) (some (.ce (tI [1]) 1 (some 1) false)) (.nd .lf (some (.ce (tC [(.sl 18 0 1 none),(.sl 15 0 4 none),(.sl 21 0 1 none),(.sl 14 0 2 none),(.sl 20 0 1 none),(.sl 17 0 3 none),(.sl 22 0 3 none),(.sl 13 0 4 none),(.sl 19 0 3 none),(.sl 16 0 4 none)]) 10 none false)) .lf)) (some (.ce (tI [4,5]) 2 (some 1) false)) (.nd (.nd .lf (some (.ce (tI [0,0,0]) 3 (some 1) false)) .lf) (some (.ce (tI [7,7,7]) 3 (some 1) false)) .lf)) (some (.ce (tI [1,4,1,2,1,3,3,4,3,4]) 10 (some 1) false)) (.nd (.nd (.nd .lf (some (.ce (tI [0,0,0]) 3 (some 1) false)) .lf) (some (.ce (tI [5]) 1 (some 1) false)) .lf) (some (.ce (tI [0,1,1,1]) 4 (some 1) false)) (.nd (.nd .lf (some (.ce (tI [0]) 1 (some 1) false)) .lf) (some (.ce (tI [0,0,0,0]) 4 (some 1) false)) .lf))) (some (.ce (tI [0,7,16,1,12,2,18,3,22,15]) 10 (some 1) false)) (.nd (.nd (.nd (.nd .lf (some (.ce (tI [0,0,0,0]) 4 (some 1) false)) .lf) (some (.ce (tI [9,9,9]) 3 (some 1) false)) .lf) (some (.ce (tI [2,3,5,7]) 4 (some 1) false)) (.nd (.nd .lf (some (.ce (tI [0]) 1 (some 1) false)) .lf) (some (.ce (tC [(.sl 7 0 1 none),(.sl 4 0 4 none),(.sl 10 0 1 none),(.sl 3 0 2 none),(.sl 9 0 1 none),(.sl 6 0 3 none),(.sl 11 0 3 none),(.sl 2 0 4 none),(.sl 8 0 3 none),(.sl 5 0 4 none)]) 10 none false)) .lf)) (some (.ce (tI [8,8,8,9]) 4 (some 1) false)) (.nd (.nd (.nd .lf (some (.ce (tI [0]) 1 (some 1) false)) .lf) (some (.ce (tI [3]) 1 (some 1) false)) .lf) (some (.ce (tI [6,6,6]) 3 (some 1) false)) (.nd (.nd .lf (some (.ce (tI [0,0,0]) 3 (some 1) false)) .lf) (some (.ce (tI [0,0]) 2 (some 1) false)) .lf)))),24))
def Kf:oO:=(21,([(.ag [(vi 5),(.sl 2 0 2 none)]),(vi 3)],(.nd (.nd .lf (some (.ce (tI [0,7,16,1,12,2,18,3,22,15]) 10 (some 1) false)) .lf) (some (.ce (tI [4]) 1 none false)) (.nd .lf (some (.ce (tC [(.sl 1 0 10 none),(.sl 0 0 1 (some 1))]) 2 (some 1) false)) .lf)),3),((.tu [(vi 4),(vi 0)]),(.nd (.nd .lf (some (.ce (tI [0,7,16,1,12,2,18,3,22,15]) 10 (some 1) false)) .lf) (some (.ce (tI [4]) 1 none false)) (.nd .lf (some (.ce (tC [(.sl 1 0 10 none),(.sl 0 0 1 (some 1))]) 2 (some 1) false)) .lf)),3))
def Pa:oO:=(28,([(.ag [(vi 5),(.sl 0 0 3 none)]),(.sl 1 0 1 (some 1))],(.nd (.nd .lf (some (.ce (tI [1,0]) 2 none false)) .lf) (some (.ce (tC [(vi 0),(vi 2),(vi 0),(vb true),(vi 1),(vi 2),(vi 0),(vb true),(vi 2),(vi 3),(vi 0),(vb true)]) 12 (some 4) false)) .lf),2),((.tu [(.ag [(vi 5),(.sl 2 0 4 none)]),(vi 1),(vi 0)]),(.nd (.nd .lf (some (.ce (tI [1,0]) 2 none false)) .lf) (some (.ce (tC [(vi 0),(vi 2),(vi 0),(vb true),(vi 1),(vi 2),(vi 0),(vb true),(vi 2),(vi 3),(vi 0),(vb true)]) 12 (some 4) false)) (.nd .lf (some (.ce (tC [(vi 0),(vi 1),(vi 0),(vb false),(vi 0),(vi 2),(vi 0),(vb true),(vi 1),(vi 2),(vi 0),(vb true),(vi 2),(vi 3),(vi 0),(vb true)]) 16 (some 4) true)) .lf)),3))
def RE:oO:=(29,([(.ag [(vi 5),(.sl 0 0 4 none)]),(.sl 1 0 1 (some 1))],(.nd (.nd .lf (some (.ce (tI [1,0]) 2 none false)) .lf) (some (.ce (tC [(vi 0),(vi 1),(vi 0),(vb false),(vi 0),(vi 2),(vi 0),(vb true),(vi 1),(vi 2),(vi 0),(vb true),(vi 2),(vi 3),(vi 0),(vb true)]) 16 (some 4) false)) .lf),2),((.tu [(.ag [(vi 5),(.sl 2 0 3 none)]),(.sl 3 0 1 none),(vi 0)]),(.nd (.nd (.nd .lf (some (.ce (tC [(vb false),(vb false),(vi 0),(vi 0),(vi 0)]) 5 (some 5) true)) .lf) (some (.ce (tI [1,0]) 2 none false)) .lf) (some (.ce (tC [(vi 0),(vi 1),(vi 0),(vb false),(vi 0),(vi 2),(vi 0),(vb true),(vi 1),(vi 2),(vi 0),(vb true),(vi 2),(vi 3),(vi 0),(vb true)]) 16 (some 4) false)) (.nd .lf (some (.ce (tC [(vi 0),(vi 2),(vi 0),(vb true),(vi 1),(vi 2),(vi 0),(vb true),(vi 2),(vi 3),(vi 0),(vb true)]) 12 (some 4) true)) .lf)),4))
def yZ:aeG Tryz.prog.funcs.toList 34996044971325627054180073056096100744902501561549560805511860125084370209373230094084804941151469564=true:=by kernel_rfl
def y0:(34996044971325627054180073056096100744902501561549560805511860125084370209373230094084804941151469564:Nat)<2^Tryz.prog.funcs.toList.length:=aqK (by kernel_rfl)
def am9:Func:=(atL wFs 39).getD default
def ag_:Tryz.prog.funcs[39]? =some am9:=by kernel_rfl
def aoT u:CG T (gQ T wE0 (jt []) 100) 100 am9 u=some 0:=by kernel_rfl
def ahX:Func:=(atL wFs 105).getD default
def aeH:Tryz.prog.funcs[105]? =some ahX:=by kernel_rfl
def am_ u:CG T (gQ T wE0 (jt []) 100) 100 ahX u=some 0:=by kernel_rfl
def ake(w:World):EOk Tryz.prog w wE0:=ahW rfl yZ y0 λf h=>by
 have:(Nat.testBit 0 f)=true:=h;simp at this
def ahY(d:∀a o u,GT a o u->b.cell? ⟨a,o,none⟩=some u):EOk Tryz.prog b wE:=ahW rfl yZ y0 λf h e=>by
 have i:∀w,Ext b w->gJ Tryz.prog w (gQ T wE0 (jt []) 100 (R:=Nat)):=λw l=>sK mixed vP (λa o u h=>l.cell (d a o u h)) (ake w) MOk.nil 100;have j:f=39\/f=105:=by
  have c:Nat.testBit (2^39+2^105) f=true:=h;have k:f<128:=by
   by_cases g:f<128
   ·exact g
   ·rw[au7 (arV (by decide:2^39+2^105<2^128) (auy (by decide) (asq g)))]at c
    cases c
  have m:∀f,f<128->Nat.testBit (2^39+2^105) f=true->f=39\/f=105:=by decide
  exact m f k c
 rcases j with rfl|rfl
 ·exact yY mixed vP d i (kC yZ y0 39 (by decide)) ag_ aoT e
 ·exact yY mixed vP d i (kC yZ y0 105 (by decide)) aeH am_ e
variable{j:List AV}{g:Value}
noncomputable def qD:bH:=[(4294967296,3),(4294967297,6),(4294967298,7),(4294967299,4),(4294967300,5)]
abbrev AK1:Type:=(EV×EV×EV×EV×EV)×Option ea×Option ea×Option ea×Option ea×Option ea
abbrev AK2:Type:=EV×EV×Option ea×Option ea
noncomputable def aK:Exit->cL->Option (Sum AK1 AK2)
 |.normal,E=>some (.inl ((cW E.t 3,cW E.t 4,cW E.t 5,cW E.t 6,cW E.t 7),bC E.h 3,bC E.h 4,bC E.h 5,bC E.h 6,bC E.h 7))
 |.ret,E=>some (.inr (cW E.t 6,cW E.t 7,bC E.h 6,bC E.h 7))
 |_,_=>none
def anc N n d c st k j m f i g P l:px N (Sum AK1 AK2) (pq [0]) (pE n d c st k j m f i g P l) (λE=>uf T (Sw mi N) N (pq [1,0]) .z E (Sum AK1 AK2) aK)=
 aW (qt N (n,d,c,st)) λb=>cond (!b)
  (some (.inr (.pt 6 0,.pt 7 0,some (.box 26 (gS n d c st)),some (.box 35 [.sc j1 1,.sc j1 0,.nil]))))
  (some (.inl ((.pt 3 0,.pt 4 0,.pt 5 0,.pt 6 0,.pt 7 0),some (.box 26 (gS n d c st)),some (.box 30 [.sc j1 k,.sc cy j,.sc pv m]),some (.box 42 [.sc j1 f,.sc j1 i,.sc j1 g,.sc j1 P,.sc cy l]),some (.box 26 zS),some (.box 35 zR)))):=by kernel_rfl
noncomputable def aeI(b c:Nat)(d f:List EV):cL:=⟨30,[(6,.pt b 0),(7,.pt c 0)],[(b,some (.box 26 d)),(c,some (.box 35 f))]⟩
def ane n d b st e c z:zx T (aeI 6 7 (gS n d b st) [.sc j1 e,.sc j1 c,z]) Tryz.f5.results.toList=some [.ag (gS n d b st),.ag [.sc j1 e,.sc j1 c,z]]:=by kernel_rfl
def ahZ n d b st e c z:zx T (aeI 4294967297 4294967298 (gS n d b st) [.sc j1 e,.sc j1 c,z]) Tryz.f5.results.toList=some [.ag (gS n d b st),.ag [.sc j1 e,.sc j1 c,z]]:=by kernel_rfl
section
variable{P:Program}{B:Bs}{Rd:bE}{e:Env}{h h2:Hp}{w:World}{st:St}{a:Act}
def SR.less(d:SR B Rd e h w)(g:∀k ob,a_ h2 k=some ob->a_ h k=some ob):SR B Rd e h2 w/\∀b o u,bO B Rd e h w b o u->bO B Rd e h2 w b o u:=by
 have i:∀b o u,bO B Rd e h w b o u->bO B Rd e h2 w b o u:=λb o u ⟨m,h2,n⟩=>⟨m,h2,λk ob c f=>n k ob (g k ob c) f⟩;exact⟨⟨d.ext,d.jO,λk ob c=>(d.ob k ob (g k ob c)).mono i,λk ob b c f=>d.base k ob b (g k ob c) f,λk j ob l b c q f p=>d.inj k j ob l b (g k ob c) (g j l q) f p,d.t_⟩,i⟩
def akf{f:Func}(k:Ga B Rd e st a w)(m:CZ P st f.results.toList=some j):∃v,(results f a.tmps).run P w=.ok v w/\VR (bO B Rd e st.h w) (some e) (KA j) v:=by
 obtain⟨d,n,b⟩:=BP (P:=P) k _ _ m;have l:(f.results.mapM (k_ a.tmps)).run P w=.ok d.toArray w:=by
  rw[at0];simp only[asT,n];rfl
 rw[va];simp only[ap6,l,ap7,ap8];refine⟨_,rfl,?_⟩
 match j,d,b with
 |[],[],b=>exact .tu [] rfl (by simp)
 |[c],[u],b=>simpa[KA]using b.2 0 c u rfl rfl
 |c::g::j,u::i::d,b=>
  have:¬(u::i::d).toArray.size=1:=by simp
  rw[dif_neg this];exact .tu _ b.1 b.2
 |[],u::d,b=>have:=b.1;simp at this
 |[c],[],b=>have:=b.1;simp at this
 |[c],u::i::d,b=>have:=b.1;simp at this
 |c::g::j,[],b=>have:=b.1;simp at this
 |c::g::j,[u],b=>have:=b.1;simp at this
end
noncomputable def Y8(n:Int)(d:List ca)(b st e c:Int)(z:EV):EV:=.tu [.ag (gS n d b st),.ag [.sc j1 e,.sc j1 c,z]]
def aha{Rd:bE}{E:Option Env}(h:VR Rd E (enc .nil) g):VR Rd E (enc (.sc j6 [])) g:=by
 change VR Rd E (.sl true 0 []) g at h;cases h with
 |sl d m f c k b h2 i j=>
  have l:d=[]:=by simpa using c
  exact .sl (rows:=[]) [] (by simp) (by simp) rfl (by simp) b h2 (λh=>by cases h) (by simp)
def ah0{Rd:bE}{E:Option Env}{n:Int}{m:List ca}{k st e c:Int}(h:VR Rd E (enc (Y8 n m k st e c .nil)) g):VR Rd E (enc (Y8 n m k st e c (.sc j6 []))) g:=by
 obtain⟨o,rfl,l⟩:=h.CJ (cs:=bX [.ag (gS n m k st),.ag [.sc j1 e,.sc j1 c,.nil]]);refine .tu o l.1 λj x u b d=>?_
 match j with
 |0=>exact l.2 0 x u b d
 |1=>
  have b:enc (.ag [.sc j1 e,.sc j1 c,.sc j6 []])=x:=apZ b;subst b;obtain⟨p,rfl,f⟩:=(l.2 1 (enc (.ag [.sc j1 e,.sc j1 c,.nil])) u rfl d).e9 (cs:=bX [.sc j1 e,.sc j1 c,.nil]);refine .ag p f.1 λi x u b d=>?_
  match i with
  |0=>exact f.2 0 x u b d
  |1=>exact f.2 1 x u b d
  |2=>
   have b:enc (.sc j6 [])=x:=apZ b;subst b;exact aha (f.2 2 (enc .nil) u rfl d)
  |i+3=>cases b
 |j+2=>cases b
def anf(n:Int)(f:List ca)(d st e c:Int)(b:aX):(enc (Y8 n f d st e c (.sc j6 b))).gp (λ_=>true)=true:=by rfl
def RF{B:Bs}{Rd:bE}{e:Env}{H:Hp}{w:World}{tm:eb}{c d:Nat}{f g:List EV}{r:List EV}(z:SR B Rd e H w)(A:tm.size=30)
 (y:zx T (aeI c d f g) Tryz.f5.results.toList=some r) (s:VR (bO B Rd e H w) (some e) (.pt c 0) (tm.getD 6 undef)) (t:VR (bO B Rd e H w) (some e) (.pt d 0) (tm.getD 7 undef))
 (o:a_ H c=some (b_ (.box 26 f))) (p:a_ H d=some (b_ (.box 35 g))):
 ∃v,(results Tryz.f5 tm).run Tryz.prog w=.ok v w/\VR (bO B Rd e [] w) (some e) (KA (bX r)) v:=by
 have x:∀k ob,a_ (bz (aeI c d f g).h) k=some ob->a_ H k=some ob:=λk ob b=>by
  change a_ [(c,some (b_ (.box 26 f))),(d,some (b_ (.box 35 g)))] k=some ob at b;by_cases j:k=c
  ·subst j;rw[bf]at b;rw[o];exact b
  ·rw[bc j]at b
   by_cases l:k=d
   ·subst l;rw[bf]at b;rw[p];exact b
   ·rw[bc l]at b;cases b
 obtain⟨n,m⟩:=z.less x;have u:Ga B Rd e (bm (aeI c d f g)) ⟨tm,B.df⟩ w:=⟨⟨A,by show(30:Nat)<=1000000;decide⟩,rfl,n,λi=>by
  change VR _ _ (bG [(6,.pt c 0),(7,.pt d 0)] i) (tm.getD i undef);by_cases j:i=6
  ·subst j;exact s.mono m
  ·by_cases l:i=7
   ·subst l;exact t.mono m
   ·simp only[bG,j,l,aqN];exact .un⟩
 obtain⟨v,q,h2⟩:=akf (P:=Tryz.prog) u (BX vP y);exact⟨v,q,h2.mono (n.less (h2:=[]) λk ob b=>by cases b).2⟩
variable{d:Env}{i:SV×RV}
abbrev TkT(s:SV)(x:XV)(w:WV):TA:=(x.1,x.2.1,x.2.2,w.1,w.2.1,w.2.2.1,w.2.2.2.1,w.2.2.2.2,s.1,s.2.1,s.2.2.1,s.2.2.2,0,0,[])
def RG{s:SV}{x:XV}{w:WV}(h:qG (a+1) s x w=some i):
 (qt (a+1) s=some false/\i=(s,1,0,[]))\/(qt (a+1) s=some true/\
  ((∃m,m≠0/\Hu (a+1) (TkT s x w)=some m/\i=(s,m,0,[]))\/zU (a+2) (TkT s x w)=some (i.1.1,i.1.2.1,i.1.2.2.1,i.1.2.2.2,i.2.1,i.2.2.1,i.2.2.2))):=by
 obtain⟨n,l,B,G⟩:=s;obtain⟨k,C,F⟩:=x;obtain⟨z,A,g,P,y⟩:=w;unfold qG at h;cases v:qt (a+1) (n,l,B,G)with
 |none=>rw[v]at h;cases h
 |some b=>
  rw[v]at h;cases b with
  |false=>exact .inl ⟨rfl,(apZ h).symm⟩
  |true=>
   refine .inr ⟨rfl,?_⟩;have f:dP (a+1) 0=some ():=by rw[qw];rfl
   unfold TkT;rw[Yl];unfold Hu;simp only[aW,aqh]at h⊢;generalize oC (a+1) (n,l,k,C,F,z,A,g,P,y)=D at h⊢;cases D with
   |none=>cases h
   |some c=>
    simp only at h⊢;by_cases p:c.2.1=0
    ·rw[p]at h⊢
     simp only[aq0,aqh,ap9,apW,f]at h⊢;generalize kj (a+1) (IntKind.wrap .i64 (((c.2.2.2.1.length:Nat):Int)+((c.2.2.2.2.length:Nat):Int)),g,P,y)=E at h⊢;cases E with
     |none=>cases h
     |some o=>
      simp only at h⊢;by_cases q:o.2.1=0
      ·rw[q]at h⊢
       simp only[aq0,aqh,ap9,apW,f]at h⊢;by_cases r:c.2.2.1=1
       ·simp only[r,aq0,aqh]at h⊢
        generalize mg (a+1) (n,l,c.2.2.2.1)=j at h⊢;cases j with
        |none=>cases h
        |some d=>
         simp only at h⊢;by_cases e:d.2.1=0
         ·rw[e]at h⊢
          simp only[aq0,aqh,f]at h⊢;cases h;exact .inr rfl
         ·simp only[aqn e,apW]at h
          cases h;exact .inl ⟨_,e,rfl,rfl⟩
       ·simp only[aqn r,apW]at h⊢
        by_cases t:c.2.2.1=2
        ·simp only[t,aq0,aqh]at h⊢
         generalize pM (a+1) (n,l,c.2.2.2.1)=j at h⊢;cases j with
         |none=>cases h
         |some d=>
          simp only at h⊢;by_cases e:d.1=0
          ·rw[e]at h⊢
           simp only[aq0,aqh,f]at h⊢;cases h;exact .inr rfl
          ·simp only[aqn e,apW]at h
           cases h;exact .inl ⟨_,e,rfl,rfl⟩
        ·simp only[aqn t,apW]at h⊢
         by_cases u:c.2.2.1=3
         ·simp only[u,aq0,aqh]at h⊢
          generalize uW (a+1) (n,l,c.2.2.2.2)=j at h⊢;cases j with
          |none=>cases h
          |some d=>
           simp only at h⊢;by_cases e:d.1=0
           ·rw[e]at h⊢
            simp only[aq0,aqh,f]at h⊢;cases h;exact .inr rfl
           ·simp only[aqn e,apW]at h
            cases h;exact .inl ⟨_,e,rfl,rfl⟩
         ·simp only[aqn u,apW]at h⊢
          cases h;exact .inr rfl
      ·simp only[aqn q,apW,aq5,aqh]at h⊢
       cases h;exact .inl ⟨_,q,rfl,rfl⟩
    ·simp only[aqn p,apW,aq5,aqh]at h⊢
     cases h;exact .inl ⟨_,p,rfl,rfl⟩
def akg(h:ua qD a=some e):(a=4294967296/\e=3)\/(a=4294967297/\e=6)\/(a=4294967298/\e=7)\/(a=4294967299/\e=4)\/(a=4294967300/\e=5):=by
 have:=f_ h;unfold qD at this;simpa using this
def ah1:Kh 1000 qD=true:=by decide
def sL{Rd:bE}{t:TypeId}(h:OR Rd d b a (.box t j)):d.cM a=0:=h.1
def vL{Rd:bE}(h:VR Rd (some d) (.pt a e) g):∃b,d.bS a=some b/\g=.pointer (some ⟨b,e,none⟩):=by
 cases h with
 |pt h=>exact⟨_,h,rfl⟩
def Kg:Enters Tryz.prog 39:=⟨Tryz.f39,Tryz.func39,by kernel_rfl,by kernel_rfl⟩
def anh(w:World)(c:∀b o u,GT b o u->w.cell? ⟨b,o,none⟩=some u)(a:eb):Fi Tryz.prog w {target:=.fn (.func 39) a,args:= #[]}:=
 (ahY c).idle _ (by decide) a
noncomputable abbrev qB(e:Env)(w:World)(D:Deferred):Bs:=(cB qD 1000 e w).yp [D]
abbrev Y9(B:Bs)(Rd:bE)(e:Env)(h:Hp)(w:World):bE:=cRd qD 1000 B Rd e h w
section
variable{B:Bs}{Rd:bE}{e e2:Env}{h H:Hp}{w w':World}{D:Deferred}
def ani(t:SR B Rd e h w)(s:Handed qD e h)(v:SR (qB e w D) (Y9 B Rd e h w) e2 H w'){n:Int}{p:List ca}{c m i d:Int}{a:aX}
 (x:VR (bO (qB e w D) (Y9 B Rd e h w) e2 [] w') (some e2) (enc (Y8 n p c m i d (.sc j6 a))) g):∃f,SR B Rd f [] w'/\VR (bO B Rd f [] w') (some f) (enc (Y8 n p c m i d (.sc j6 a))) g:=by
 obtain⟨j1,j2,j3,j4⟩:=SR.eE t s ah1 (SR.N0 v.nil) rfl;obtain⟨y,z⟩:=j1.less (h2:=[]) λk ob r=>by cases r
 exact⟨_,y,((x.mono λb o u q=>z b o u (j3 b o u q))).FN rfl (λ_=>true) (anf n p c m i d a) (λj l=>by cases l) (λj l=>by cases l)⟩
end
def aoU{B:Bs}{Rd:bE}{e:Env}{h:Hp}{w:World}(a:SR B Rd e h w){q r s t u:TypeId}{j k l m n:List AV}
 (b:a_ h 3=some (.box q j)) (d:a_ h 4=some (.box r k)) (f:a_ h 5=some (.box s l)) (g:a_ h 6=some (.box t m)) (i:a_ h 7=some (.box u n)):Handed qD e h:=λp c o=>by
 rcases akg o with⟨_,rfl⟩|⟨_,rfl⟩|⟨_,rfl⟩|⟨_,rfl⟩|⟨_,rfl⟩
 ·exact⟨⟨_,b⟩,sL (a.ob _ _ b)⟩
 ·exact⟨⟨_,g⟩,sL (a.ob _ _ g)⟩
 ·exact⟨⟨_,i⟩,sL (a.ob _ _ i)⟩
 ·exact⟨⟨_,d⟩,sL (a.ob _ _ d)⟩
 ·exact⟨⟨_,f⟩,sL (a.ob _ _ f)⟩
def aoV{e:Env}{h:Hp}{w:World}(n:Int)(o:List ca)(f m k:Int)(i:bh)(l:ju)(b d g P:Int)(j:bh)
 (v:a_ h 3=some (b_ (.box 26 (gS n o f m)))) (x:a_ h 4=some (b_ (.box 30 [.sc j1 k,.sc cy i,.sc pv l]))) (y:a_ h 5=some (b_ (.box 42 [.sc j1 b,.sc j1 d,.sc j1 g,.sc j1 P,.sc cy j])))
 (z:a_ h 6=some (b_ (.box 26 zS))) (A:a_ h 7=some (b_ (.box 35 zR))):
 ∀p ob,a_ (bz (qH n o f m k i l b d g P j)) p=some ob->∃c u,ua qD p=some c/\a_ h c=some u/\∀Rd,OR Rd e w c u->OR Rd e w c (ob.ie (fQ qD 1000)):=by
 intro p ob t;have a:a_ [(4294967296,some (b_ (.box 26 (gS n o f m)))),(4294967297,some (b_ (.box 26 zS))),(4294967298,some (b_ (.box 35 zR))),(4294967299,some (b_ (.box 30 [.sc j1 k,.sc cy i,.sc pv l]))),(4294967300,some (b_ (.box 42 [.sc j1 b,.sc j1 d,.sc j1 g,.sc j1 P,.sc cy j])))] p=some ob:=t;clear t;by_cases e0:p=4294967296
 ·subst e0;rw[bf]at a;cases a;exact⟨3,_,rfl,v,λ_ h=>h⟩
 rw[bc e0]at a;by_cases q:p=4294967297
 ·subst q;rw[bf]at a;cases a;exact⟨6,_,rfl,z,λ_ h=>h⟩
 rw[bc q]at a;by_cases e2:p=4294967298
 ·subst e2;rw[bf]at a;cases a;exact⟨7,_,rfl,A,λ_ h=>h⟩
 rw[bc e2]at a;by_cases r:p=4294967299
 ·subst r;rw[bf]at a;cases a;exact⟨4,_,rfl,x,λ_ h=>h⟩
 rw[bc r]at a;by_cases s:p=4294967300
 ·subst s;rw[bf]at a;cases a;exact⟨5,_,rfl,y,λ_ h=>h⟩
 rw[bc s]at a;cases a
def ahb{B:Bs}{Rd:bE}{e:Env}{t:List (Nat×AV)}{h:Hp}{w:World}{a:Act}{D:Deferred}(q:Ga (B.yp [D]) Rd e ⟨30,t,h⟩ a w)(n:Int)(A:List ca)(l z k:Int)(m:bh)(v:ju)(f j g P:Int)(s:bh)
 (E:Handed qD e h) (C:∀p ob,a_ (bz (qH n A l z k m v f j g P s)) p=some ob->∃c r,ua qD p=some c/\a_ h c=some r/\∀Rd,OR Rd e w c r->OR Rd e w c (ob.ie (fQ qD 1000)))
 (S:bG t 3=.pt 3 0) (U:bG t 4=.pt 4 0) (V:bG t 5=.pt 5 0) (W:bG t 6=.pt 6 0) (X:bG t 7=.pt 7 0):
 Ga (qB e w D) (Y9 (B.yp [D]) Rd e h w) (e.pi qD 1000) (bm (qE n A l z k m v f j g P s)) a w:=by
 have Q:=q.sr.nt E ah1 C;have L:∀b o u,bO (B.yp [D]) Rd e h w b o u->bO (cB qD 1000 e w) (Y9 (B.yp [D]) Rd e h w) (e.pi qD 1000) (bz (qH n A l z k m v f j g P s)) w b o u:=λb o u N=>N.nt E λp ob O=>by
  obtain⟨c,r,x,y,_⟩:=C p ob O;exact⟨c,x,r,y⟩
 have d:∀i p c,bG t i=.pt c 0->fQ qD 1000 p=c->VR (bO (qB e w D) (Y9 (B.yp [D]) Rd e h w) (e.pi qD 1000) (bz (qH n A l z k m v f j g P s)) w) (some (e.pi qD 1000)) (.pt p 0) (a.tmps.getD i undef):=λi p c R M=>by
  have:=q.tr i;change VR _ _ (bG t i) _ at this;rw[R,<-M]at this;exact(this.nU (fQ qD 1000) (e':=e.pi qD 1000) (λ_=>rfl) (λ_=>rfl) rfl (c:=.pt p 0) rfl).mono L
 refine⟨q.n,q.d,SR.yp Q [D],λi=>?_⟩;change VR _ _ (bG [(3,.pt 4294967296 0),(4,.pt 4294967299 0),(5,.pt 4294967300 0),(6,.pt 4294967297 0),(7,.pt 4294967298 0)] i) _;by_cases F:i=3
 ·subst F;exact d 3 _ _ S rfl
 by_cases G:i=4
 ·subst G;exact d 4 _ _ U rfl
 by_cases I:i=5
 ·subst I;exact d 5 _ _ V rfl
 by_cases J:i=6
 ·subst J;exact d 6 _ _ W rfl
 by_cases K:i=7
 ·subst K;exact d 7 _ _ X rfl
 simp only[bG,F,G,I,J,K,aqN];exact .un
variable{h:Hp}
section
abbrev akh(B:Bs)(Rd:bE)(r:EV):Ending->World->Prop:=λx b=>∃v a,x=.returned v/\SR B Rd a [] b/\VR (bO B Rd a [] b) (some a) (enc r) v
def anj{s:SV}{x:XV}{w:WV}(hR:qt (a+1) s=some true)
 (f:(∃q,q≠0/\Hu (a+1) (TkT s x w)=some q/\i=(s,q,0,[]))\/zU (a+2) (TkT s x w)=some (i.1.1,i.1.2.1,i.1.2.2.1,i.1.2.2.2,i.2.1,i.2.2.1,i.2.2.2))
 {B:Bs} {Rd:bE} {t:List (Nat×AV)} {g:Act} {D:Deferred} {u3 u6 u7:Value} (a1:D={target:=.fn (.func 39) #[u3,u6,u7],args:= #[]})
 (P:Ga (B.yp [D]) Rd d ⟨30,t,h⟩ g b) (hH:Handed qD d h) (hm:∀p ob,a_ (bz (qH s.1 s.2.1 s.2.2.1 s.2.2.2 x.1 x.2.1 x.2.2 w.1 w.2.1 w.2.2.1 w.2.2.2.1 w.2.2.2.2)) p=some ob->∃c a4,ua qD p=some c/\a_ h c=some a4/\∀Rd,OR Rd d b c a4->OR Rd d b c (ob.ie (fQ qD 1000)))
 (t3:bG t 3=.pt 3 0) (t4:bG t 4=.pt 4 0) (t5:bG t 5=.pt 5 0) (t6:bG t 6=.pt 6 0) (t7:bG t 7=.pt 7 0)
 (v3:VR (λ_ _ _=>True) (some d) (.pt 3 0) u3) (v6:VR (λ_ _ _=>True) (some d) (.pt 6 0) u6) (v7:VR (λ_ _ _=>True) (some d) (.pt 7 0) u7):
 (Code.seq (pq [1,1,1,0]) (.seq (pq [1,1,1,1,0]) qy)).wp Tryz.prog (bodyPostD Tryz.prog Tryz.f5 (akh B Rd (Y8 i.1.1 i.1.2.1 i.1.2.2.1 i.1.2.2.2 i.2.1 i.2.2.1 (.sc j6 i.2.2.2)))) g b:=by
 have a2:=ahb P s.1 s.2.1 s.2.2.1 s.2.2.2 x.1 x.2.1 x.2.2 w.1 w.2.1 w.2.2.1 w.2.2.2.1 w.2.2.2.2 hH hm t3 t4 t5 t6 t7;have ad:∀e o u,GT e o u->bO (B.yp [D]) Rd d h b e o u:=λe o u R=>P.sr.CM R;have a0:∀{E:Env} {H:Hp} {J:World} {q ch:Int} {n:Int} {ts:List ca} {bt st:Int} {an:aX} {v:Value},SR (qB d b D) (Y9 (B.yp [D]) Rd d h b) E H J->VR (bO (qB d b D) (Y9 (B.yp [D]) Rd d h b) E [] J) (some E) (enc (Y8 n ts bt st q ch (.sc j6 an))) v->akh B Rd (Y8 n ts bt st q ch (.sc j6 an)) (.returned v) J:=λab F=>by
  obtain⟨E,k1,k2⟩:=ani (B:=B.yp [D]) P.sr hH ab F;exact⟨_,E,rfl,k1.N0,k2⟩
 have I:∀{A G:Env} {H6 K:Hp} {r w7:World} {k:Nat} {u:Value},SR (qB d b D) (Y9 (B.yp [D]) Rd d h b) A H6 r->SR (qB d b D) (Y9 (B.yp [D]) Rd d h b) G K w7->4294967296<=k->VR (bO (qB d b D) (Y9 (B.yp [D]) Rd d h b) A H6 r) (some A) (.pt k 0) u->VR (bO (qB d b D) (Y9 (B.yp [D]) Rd d h b) G K w7) (some G) (.pt k 0) u:=λh6 h7 m F=>by
  obtain⟨e,N,rfl⟩:=vL F;exact .pt (by rw[(h7.t_ _ m).1,<-(h6.t_ _ m).1];exact N)
 rcases f with⟨q,a7,hE,rfl⟩|hM
 ·refine agd s.1 s.2.1 s.2.2.1 s.2.2.2 x.1 x.2.1 x.2.2 w.1 w.2.1 w.2.2.1 w.2.2.2.1 w.2.2.2.2 hE a7 _ _ _ _ _ _ a2 λex s6 S A z r l=>?_
  obtain⟨rfl,g0,L,M,X,Y,Q⟩:=S;show Leaves _ _ _ _ z.defers (.panicking [{v:=mG q,recovered:=false}]) r;have C:z.defers=[D]:=l.d;rw[C,a1];have a3:=(l.sr.less (h2:=bz (gH s.1 s.2.1 s.2.2.1 s.2.2.2 zS zR)) λk ob m=>by
   change a_ [(4294967296,some (b_ (.box 26 (gS s.1 s.2.1 s.2.2.1 s.2.2.2)))),(4294967297,some (b_ (.box 26 zS))),(4294967298,some (b_ (.box 35 zR)))] k=some ob at m;by_cases e0:k=4294967296
   ·subst e0;rw[bf]at m;rw[g0];exact m
   rw[bc e0]at m;by_cases e1:k=4294967297
   ·subst e1;rw[bf]at m;rw[L];exact m
   rw[bc e1]at m;by_cases e2:k=4294967298
   ·subst e2;rw[bf]at m;rw[M];exact m
   rw[bc e2]at m;cases m).1
  have W:∀{p c:Nat} {u:Value} {a5:bE},4294967296<=p->fQ qD 1000 p=c->VR (λ_ _ _=>True) (some d) (.pt c 0) u->VR a5 (some A) (.pt p 0) u:=λm O F=>by
   obtain⟨e,N,rfl⟩:=vL F;refine .pt ?_;rw[(a3.t_ _ m).1];show d.bS (fQ qD 1000 _)=_;rw[O];exact N
  have aa:LR (VR (bO (qB d b D) (Y9 (B.yp [D]) Rd d h b) A (bz (gH s.1 s.2.1 s.2.2.1 s.2.2.2 zS zR)) r) (some A)) (bX gAv) [u3,u6,u7]:=
   LR.cons (W (by decide) rfl v3) (LR.cons (W (by decide) rfl v6) (LR.cons (W (by decide) rfl v7) LR.nil))
  refine leaves_cons (by intro f;cases f) (gz (Kg) _ _) ?_;have O:=Yn q s.1 s.2.1 s.2.2.1 s.2.2.2 _ _ _ _ _ a3 aa;refine O.mono λex u' J hx=>?_;obtain⟨⟨v,rfl⟩,rfl,G,K,hK,y⟩:=hx;obtain⟨Z,U,V⟩:=RF (tm:=z.tmps) y (l.n.1.trans Q) (ahZ s.1 s.2.1 s.2.2.1 s.2.2.2 q 0 .nil) (I l.sr y (by decide) (by have:=l.tr 6;rw[X]at this;exact this)) (I l.sr y (by decide) (by have:=l.tr 7;rw[Y]at this;exact this)) hK.1 hK.2;exact⟨Z,U,a0 y (ah0 V)⟩
 ·refine ajF s.1 s.2.1 s.2.2.1 s.2.2.2 x.1 x.2.1 x.2.2 w.1 w.2.1 w.2.2.1 w.2.2.2.1 w.2.2.2.2 hM _ _ _ _ _ _ a2 λex s6 S A z r l=>?_
  obtain⟨a8,L,M,X,Y,Q⟩:=S;have a9:Leaves Tryz.prog Tryz.f5 z.tmps (akh B Rd (Y8 i.1.1 i.1.2.1 i.1.2.2.1 i.1.2.2.2 i.2.1 i.2.2.1 (.sc j6 i.2.2.2))) z.defers .returning r:=by
   have C:z.defers=[D]:=l.d;rw[C];refine sJ (w0:=r) [D] r (Ext.refl _) (λj C=>?_) λw7 ac=>?_
   ·rw[aqe]at C
    subst C;rw[a1];exact anh r (λe o u R=>(l.sr.CM R).1) _
   ·have y:=(l.sr.later ac).1
    obtain⟨Z,U,V⟩:=RF (tm:=z.tmps) y (l.n.1.trans Q) (ahZ i.1.1 i.1.2.1 i.1.2.2.1 i.1.2.2.2 i.2.1 i.2.2.1 (.sc j6 i.2.2.2)) (I l.sr y (by decide) (by have:=l.tr 6;rw[X]at this;exact this)) (I l.sr y (by decide) (by have:=l.tr 7;rw[Y]at this;exact this)) L M;exact⟨Z,U,a0 y V⟩
  rcases a8 with rfl|rfl<;>exact a9
def ank{s:SV}{x:XV}{w:WV}(h:qG (a+1) s x w=some i):Bw Tryz.prog 5 [] (bX (pAv s.1 s.2.1 s.2.2.1 s.2.2.2 x.1 x.2.1 x.2.2 w.1 w.2.1 w.2.2.1 w.2.2.2.1 w.2.2.2.2)) [] (enc (Y8 i.1.1 i.1.2.1 i.1.2.2.1 i.1.2.2.2 i.2.1 i.2.2.1 (.sc j6 i.2.2.2))):=by
 refine⟨⟨Tryz.f5,Tryz.func5,by kernel_rfl,by kernel_rfl⟩,λB Rd e w0 vs a5 hv=>aug (c:=pb) Tryz.func5 (by kernel_rfl) ?_⟩;have C:=zF mi (a+1);have U:Av (pq [0])=true:=by kernel_rfl
 have V:Av (pq [1,0])=true:=by kernel_rfl
 have K:=Ga.enter (fn:=Tryz.f5) (B:=B.yp []) (H0:=[]) (vs:=vs) rfl (by show _<=30;rw[show(bX (pAv s.1 s.2.1 s.2.2.1 s.2.2.2 x.1 x.2.1 x.2.2 w.1 w.2.1 w.2.2.1 w.2.2.2.1 w.2.2.2.2)).length=3 from rfl];decide) (by show(30:Nat)<=1000000;decide) (a5.yp []) hv;have hE:(⟨Tryz.f5.ntmps,qU 0 (bX (pAv s.1 s.2.1 s.2.2.1 s.2.2.2 x.1 x.2.1 x.2.2 w.1 w.2.1 w.2.2.1 w.2.2.2.1 w.2.2.2.2)),[]⟩:St)=bm (pE s.1 s.2.1 s.2.2.1 s.2.2.2 x.1 x.2.1 x.2.2 w.1 w.2.1 w.2.2.1 w.2.2.2.1 w.2.2.2.2):=by
  unfold bm pE;simp only[rk];rfl
 rw[hE]at K;have t:=anc (a+1) s.1 s.2.1 s.2.2.1 s.2.2.2 x.1 x.2.1 x.2.2 w.1 w.2.1 w.2.2.1 w.2.2.2.1 w.2.2.2.2;have a4:(s.1,s.2.1,s.2.2.1,s.2.2.2)=s:=rfl;rw[a4]at t;rw[amv];rcases RG h with⟨A,rfl⟩|⟨A,h2⟩
 ·rw[A]at t
  refine arS (TC.ex C U t _ _ _ _ _ _ K λp a6 q e1 a1 w1 J=>?_);obtain⟨G,rfl,L,g⟩:=q;cases p with
  |normal=>
   refine arS (TC.ex (N:=a+1) (pl:=.z) (E:=G) (R:=Sum AK1 AK2) (k:=aK) C V g _ _ _ _ _ _ J λp a7 q I n w2 m=>?_);obtain⟨d,rfl,M,j⟩:=q;cases p with
   |ret=>
    have f:=Sum.inr.inj (apZ j);have D:cW d.t 6=_:=ap5 (λz=>z.1) f;have F:cW d.t 7=_:=ap5 (λz=>z.2.1) f;have u:bC d.h 6=_:=ap5 (λz=>z.2.2.1) f;have y:bC d.h 7=_:=ap5 (λz=>z.2.2.2) f;show Leaves _ _ _ _ n.defers .returning w2;rw[show n.defers=[]from m.d];obtain⟨v,v1,v2⟩:=RF (tm:=n.tmps) m.sr (m.n.1.trans (M.trans L)) (ane s.1 s.2.1 s.2.2.1 s.2.2.2 1 0 .nil)
     (by have:=m.tr 6;rw[show bG (bm d).t 6=_ from cH _ _,D]at this;exact this) (by have:=m.tr 7;rw[show bG (bm d).t 7=_ from cH _ _,F]at this;exact this)
     ((da _ _).trans (by rw[u];rfl)) ((da _ _).trans (by rw[y];rfl))
    exact⟨v,v1,v,I,rfl,m.sr.N0.nil,ah0 v2⟩
   |normal=>cases j
   |exit b=>cases j
   |goto l=>cases j
   |panic H=>cases j
   |outgrown=>cases j
  |exit b=>cases g
  |goto l=>cases g
  |ret=>cases g
  |panic H=>cases g
  |outgrown=>cases g
 ·rw[A]at t
  refine arS (TC.ex C U t _ _ _ _ _ _ K λp a6 q e1 a1 w1 J=>?_);obtain⟨G,rfl,L,g⟩:=q;cases p with
  |normal=>
   refine arS (TC.ex (N:=a+1) (pl:=.z) (E:=G) (R:=Sum AK1 AK2) (k:=aK) C V g _ _ _ _ _ _ J λp a7 q I n w2 m=>?_);obtain⟨d,rfl,M,j⟩:=q;cases p with
   |normal=>
    have f:=Sum.inl.inj (apZ j);have q3:cW d.t 3=_:=ap5 (λz=>z.1.1) f;have q4:cW d.t 4=_:=ap5 (λz=>z.1.2.1) f;have q5:cW d.t 5=_:=ap5 (λz=>z.1.2.2.1) f;have D:cW d.t 6=_:=ap5 (λz=>z.1.2.2.2.1) f;have F:cW d.t 7=_:=ap5 (λz=>z.1.2.2.2.2) f;have N:bC d.h 3=_:=ap5 (λz=>z.2.1) f;have O:bC d.h 4=_:=ap5 (λz=>z.2.2.1) f;have P:bC d.h 5=_:=ap5 (λz=>z.2.2.2.1) f;have u:bC d.h 6=_:=ap5 (λz=>z.2.2.2.2.1) f;have y:bC d.h 7=_:=ap5 (λz=>z.2.2.2.2.2) f;have S:d.n=30:=M.trans L;obtain⟨En,o,r⟩:=d;simp only at S q3 q4 q5 D F N O P u y;subst S;obtain⟨id,aa,ab,p1,p2,a8,a9,tt,a0⟩:=agb;rw[a0];refine arS (Ym rfl m (by show 14<30;decide) λa3 Q=>?_);have w3:bG (gu o) 3=.pt 3 0:=(cH _ _).trans (by rw[q3];rfl);have w4:bG (gu o) 4=.pt 4 0:=(cH _ _).trans (by rw[q4];rfl);have w5:bG (gu o) 5=.pt 5 0:=(cH _ _).trans (by rw[q5];rfl);have w6:bG (gu o) 6=.pt 6 0:=(cH _ _).trans (by rw[D];rfl);have w7:bG (gu o) 7=.pt 7 0:=(cH _ _).trans (by rw[F];rfl);have W:a_ (bz r) 3=some (b_ (.box 26 (gS s.1 s.2.1 s.2.2.1 s.2.2.2))):=(da _ _).trans (by rw[N];rfl);have X:a_ (bz r) 4=some (b_ (.box 30 [.sc j1 x.1,.sc cy x.2.1,.sc pv x.2.2])):=(da _ _).trans (by rw[O];rfl);have Y:a_ (bz r) 5=some (b_ (.box 42 [.sc j1 w.1,.sc j1 w.2.1,.sc j1 w.2.2.1,.sc j1 w.2.2.2.1,.sc cy w.2.2.2.2])):=(da _ _).trans (by rw[P];rfl);have Z:a_ (bz r) 6=some (b_ (.box 26 zS)):=(da _ _).trans (by rw[u];rfl);have o7:a_ (bz r) 7=some (b_ (.box 35 zR)):=(da _ _).trans (by rw[y];rfl);have vt:∀b k,bG (gu o) b=.pt k 0->VR (λ_ _ _=>True) (some I) (.pt k 0) (n.tmps.getD b undef):=λb k hk=>by
     have:=m.tr b;rw[show bG (bm ⟨30,o,r⟩).t b=_ from hk]at this;exact this.mono λ_ _ _ _=>trivial
    refine anj (B:=B) (u3:=n.tmps.getD 3 undef) (u6:=n.tmps.getD 6 undef) (u7:=n.tmps.getD 7 undef) A h2 ?_ Q (aoU Q.sr W X Y Z o7) (aoV s.1 s.2.1 s.2.2.1 s.2.2.2 x.1 x.2.1 x.2.2 w.1 w.2.1 w.2.2.1 w.2.2.2.1 w.2.2.2.2 W X Y Z o7) w3 w4 w5 w6 w7 (vt 3 3 w3) (vt 6 6 w6) (vt 7 7 w7);simp[Act.eval]
   |ret=>cases j
   |exit b=>cases j
   |goto l=>cases j
   |panic H=>cases j
   |outgrown=>cases j
  |exit b=>cases g
  |goto l=>cases g
  |ret=>cases g
  |panic H=>cases g
  |outgrown=>cases g
noncomputable def jN:Nat->ky [j1,c5,j1,j1,j1,cy,pv,j1,j1,j1,j1,cy]->Option (Int×List ca×Int×Int×Int×Int×aX):=λN (n,e,a,d,k,b,c,w)=>(qG (N+1) (n,e,a,d) (k,b,c) w).map λy=>(y.1.1,y.1.2.1,y.1.2.2.1,y.1.2.2.2,y.2.1,y.2.2.1,y.2.2.2)
noncomputable def y5:CO:=⟨λN=>⟨5,[.ag [.h j1,.h c5,.h j1,.h j1],.ag [.h j1,.h cy,.h pv],.ag [.h j1,.h j1,.h j1,.h j1,.h cy]],[],[j1,c5,j1,j1,j1,cy,pv,j1,j1,j1,j1,cy],Int×List ca×Int×Int×Int×Int×aX,jN N,λy _ k=>k (Y8 y.1 y.2.1 y.2.2.1 y.2.2.2.1 y.2.2.2.2.1 y.2.2.2.2.2.1 (.sc j6 y.2.2.2.2.2.2)) [],false,false⟩,λN=>by
 refine⟨λ_=>rfl,λx y i=>⟨Y8 y.1 y.2.1 y.2.2.1 y.2.2.2.1 y.2.2.2.2.1 y.2.2.2.2.2.1 (.sc j6 y.2.2.2.2.2.2),[],λR k=>rfl,λ_=>rfl,λh=>(by cases h),?_⟩⟩;obtain⟨n,o,c,m,k,d,l,a,b,g,P,j⟩:=x;obtain⟨p,e,f⟩:=aqo.1 (show(qG (N+1) (n,o,c,m) (k,d,l) (a,b,g,P,j)).map _=some y from i);subst f;exact ank e⟩
