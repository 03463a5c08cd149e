/- part 6 -/
import Derived.Test.YtillffjlojlhoaaGreatDoorZWholeSound5
set_option linter.all false
noncomputable section
open Go Go.RowKit
open IntKind (wrap)
set_option maxRecDepth 100000
namespace Go.Proofs.YtillffjlojlhoaaGreatDoor
variable{i:Type}
noncomputable def oG:Do CO:=[aq9,lS]
noncomputable def pO:bq:=match pq [1,1,1,1,0]with
 |.region _ a _=>a.toList
 |_=>[]
def pq5:∃id,pq [1,1,1,1,0]=.region id pO.toArray false:=⟨_,rfl⟩
noncomputable def pAv(n:Int)(i:Do bm)(c h k:Int)(d:bh)(f:lz)(a b g P:Int)(e:bh):Do EV:=
 [.ag (gS n i c h),.ag [.sc j1 k,.sc iw d,.sc Gy f],.ag [.sc j1 a,.sc j1 b,.sc j1 g,.sc j1 P,.sc iw e]]
noncomputable def pE(n:Int)(i:Do bm)(c h k:Int)(d:bh)(f:lz)(a b g P:Int)(e:bh):cY:=⟨30,K0 0 (pAv n i c h k d f a b g P e),[]⟩
noncomputable abbrev px(N:Nat)(R:Type):=λ(c:Code) (E:cY) (f:cY->At R)=>yF T (XP oG N) N c .z E R (kGo f)
noncomputable def pD(E:cY):cY:=⟨E.n,(14,.cl (.func 42) [] [dj E.t 3,dj E.t 6,dj E.t 7])::E.t,E.h⟩
noncomputable def pC(N:Nat)(E:cY)(f:cY->At i):At i:=px N i (pq [0]) E λE=>px N i (pq [1,0]) E λE=>px N i (pq [1,1,1,0]) (pD E) λE=>Gt T (XP oG N) pO (pO.take 3) E f
def p1 N n i c h k d f a b g P e:px N Nat (pq [0]) (pE n i c h k d f a b g P e) (λE=>some E.n)=some 30:=ci
def p2 N n d a c k h j e f g P i:px N Nat (pq [0]) (pE n d a c k h j e f g P i) (λE=>px N Nat (pq [1,0]) E λE=>some E.n)=aW (uk N (n,d,a,c)) λb=>cond (!b) none (some 30):=ci
def p3 N n d a c k h j e f g P i:pC N (pE n d a c k h j e f g P i) (λE=>some E.n)=aW (uk N (n,d,a,c)) λb=>cond (!b) none (some 30):=ci
def p4 N n d a c k h j e f g P i:pC N (pE n d a c k h j e f g P i) (λE=>aW (afH (lS.c N) 21 (bH E.h) [dj E.t 18,dj E.t 19,dj E.t 20]) λp=>some p.1)=aW (uk N (n,d,a,c)) λb=>cond (!b) none (some (k,h,j,e,f,g,P,i,n,d,a,c,0,0,([]:aX))):=ci
noncomputable def qT:Do (Nat×EV):=[(3,.pt 4294967296 0),(4,.pt 4294967299 0),(5,.pt 4294967300 0),(6,.pt 4294967297 0),(7,.pt 4294967298 0)]
noncomputable def qH(n:Int)(i:Do bm)(c h k:Int)(d:bh)(f:lz)(a b g P:Int)(e:bh):fv:=
 gH n i c h zS zR++[(4294967299,some (.box 48 [.sc j1 k,.sc iw d,.sc Gy f])),(4294967300,some (.box 27 [.sc j1 a,.sc j1 b,.sc j1 g,.sc j1 P,.sc iw e]))]
noncomputable def qE(n:Int)(i:Do bm)(c h k:Int)(d:bh)(f:lz)(a b g P:Int)(e:bh):cY:=⟨30,qT,qH n i c h k d f a b g P e⟩
abbrev QR:Type:=TA×a_×bu×At eD×At eD×At eD×EV×EV×Nat
noncomputable def qC(N:Nat)(E:cY)(f:cY->At i):At i:=px N i (pq [1,1,1,0]) E λE=>Gt T (XP oG N) pO (pO.take 3) E f
def asa N n c a b k f i d e g P h:qC N (qE n c a b k f i d e g P h) (λE=>aW (afH (lS.c N) 21 (bH E.h) [dj E.t 18,dj E.t 19,dj E.t 20]) λp=>some ((p.1,p.2.1,p.2.2,bH E.h 4294967296,bH E.h 4294967297,bH E.h 4294967298,dj E.t 6,dj E.t 7,E.n):QR))=
 some ((k,f,i,d,e,g,P,h,n,c,a,b,0,0,([]:aX)),[],[(4294967296,17)],some (.box 34 (gS n c a b)),some (.box 34 zS),some (.box 42 zR),.pt 4294967297 0,.pt 4294967298 0,30):=ci
variable{A:Int}{a:Nat}
section
variable{P:Fd}{T:EQ->bz}{CT:Do kS}(hp:Place P T CT)
include hp in
def TL.Gt{f l2:bq}{g:IR->St->Prop}:∀{l:bq} {E:cY} {R:Type} {k:cY->At R} {r:R},_root_.Go.Proofs.YtillffjlojlhoaaGreatDoor.Gt T CT f l E k=some r->(∀c,k c=some r->TL P f.toArray l2 (br c) g)->TL P f.toArray (l++l2) (br E) g
 |[],E,R,k,r,h,d=>d E h
 |o::l,E,R,k,r,h,d=>by
  simp only[_root_.Go.Proofs.YtillffjlojlhoaaGreatDoor.Gt]at h;refine TL.cons λu n=>?_;have a:=ae7 hp h;intro t j e m w next Q p q
  refine a t j e m w next Q p λi s=>q i (n i ?_)
  obtain⟨c,rfl,b⟩:=s;exact TL.Gt b d
end
def asb(o:Oper):Prop:=∃(c:EQ) (p:String) (a:dY) (b:jP),o=⟨some 21,.call ⟨.value (.func 43), #[.tmp 18,.tmp 19,.tmp 20],b⟩,c,p,a,none⟩
def asd:∃o,pO=pO.take 3++[o]/\asb o:=⟨_,rfl,_,_,_,_,rfl⟩
noncomputable def qy:Code:=pq [1,1,1,1,1]
def ao4{H:Hp}{o:eD}(i:22000+1000<=a)(h:bc H a=some (cA o))(f:Ob.lB (oY (1000*(21+1))) (cA o)=cA o):bc (qo [(4294967296,17)]++iR (oY (1000*(21+1))) (bF (h8 (λ_=>none) [])++H)) a=some (cA o):=by
 have e:bF (h8 (λ_=>none) [])=[]:=rfl;rw[e,awL,eP];have c:(qo [(4294967296,17)]).any (λp=>p.1==a)=false:=by simp[qo];omega
 rw[c,xE,h];have d:oY (1000*(21+1)) a=false:=by
  cases b:oY (1000*(21+1)) a with
  |false=>rfl
  |true=>
   unfold oY at b;have g:=awd (aA0.1 b).2;omega
 rw[d];simp[f]
def alm(n:Int)(j:Do bm)(e i k:Int)(t:bh)(y:lz)(m r g P:Int)(w:bh)(h:Mx (a+1) (k,t,y,m,r,g,P,w,n,j,e,i,0,0,[])=some A)(R:A≠0):
 TC Tryz.prog (.seq (pq [1,1,1,0]) (.seq (pq [1,1,1,1,0]) qy)) (br (qE n j e i k t y m r g P w)) λx s=>x=.panic [{v:=o4 A,recovered:=false}]/\bc s.h 4294967296=some (cA (.box 34 (gS n j e i)))/\bc s.h 4294967297=some (cA (.box 34 zS))/\bc s.h 4294967298=some (cA (.box 42 zR))/\bO s.t 6=.pt 4294967297 0/\bO s.t 7=.pt 4294967298 0/\s.n=30:=by
 have hp:=Ej oG (a+1);have C:=asa (a+1) n j e i k t y m r g P w;unfold qC px at C;have V:Fp (pq [1,1,1,0])=true:=ci
 generalize Y:((k,t,y,m,r,g,P,w,n,j,e,i,(0:Int),(0:Int),([]:aX)),([]:a_),[((4294967296:Nat),(17:Nat))],some (eD.box 34 (gS n j e i)),some (eD.box 34 zS),some (eD.box 42 zR),EV.pt 4294967297 0,EV.pt 4294967298 0,30)=rr at C;refine TC.V_ hp V C λF hn U=>?_;obtain⟨id,hid⟩:=pq5;rw[hid];refine TC.seq (TC.region ?_);obtain⟨o,W,ty,p,G,tt,rfl⟩:=asd
 suffices X:∀l,l=pO->TL Tryz.prog pO.toArray l (br F) (P0 (λa0=>TC Tryz.prog qy a0 _) _)from X _ rfl
 intro l E;rw[W]at E;subst E;refine TL.Gt hp U λb u=>?_;refine TL.last rfl ?_;cases B:afH (lS.c (a+1)) 21 (bH b.h) [dj b.t 18,dj b.t 19,dj b.t 20]with
 |none=>rw[B]at u;cases u
 |some q=>
  obtain⟨x,gs,D⟩:=q;rw[B]at u;have c:=av_ (u.trans (awh some Y.symm));have Z:x=(k,t,y,m,r,g,P,w,n,j,e,i,(0:Int),(0:Int),([]:aX)):=awh (λz=>z.1) c;have S:gs=[]:=awh (λz=>z.2.1) c;have Q:D=[(4294967296,17)]:=awh (λz=>z.2.2.1) c;have H:bH b.h 4294967296=_:=awh (λz=>z.2.2.2.1) c;have I:bH b.h 4294967297=_:=awh (λz=>z.2.2.2.2.1) c;have J:bH b.h 4294967298=_:=awh (λz=>z.2.2.2.2.2.1) c;have K:dj b.t 6=_:=awh (λz=>z.2.2.2.2.2.2.1) c;have L:dj b.t 7=_:=awh (λz=>z.2.2.2.2.2.2.2.1) c;have M:b.n=30:=awh (λz=>z.2.2.2.2.2.2.2.2) c;clear u c;subst S;subst Q;refine SP.ctr B (by rw[Z];exact ah6 h R) ?_ (λk _=>dw _ _) ?_
  .have O:=PF.func (P:=Tryz.prog) (st:=br b) (d:=21) (f:=43) (args:= #[.tmp 18,.tmp 19,.tmp 20]) (ts:=tt) (ty:=ty) (pos:=p) (af:=G) (gd:=none)
   have N:([.tmp 18,.tmp 19,.tmp 20]:o_).map (br b).ev=cw [dj b.t 18,dj b.t 19,dj b.t 20]:=by
    simp only[awo,axd,cw,St.ev];rw[show(br b).t=hP b.t from rfl,cU,cU,cU]
   rw[<-N];exact O
  .exact⟨rfl,ao4 d6 ((dw _ _).trans (by rw[H];rfl)) rfl,ao4 d6 ((dw _ _).trans (by rw[I];rfl)) rfl,ao4 d6 ((dw _ _).trans (by rw[J];rfl)) rfl,(nR _ _ _).trans ((awh _ ((cU _ _).trans (awh enc K))).trans rfl),(nR _ _ _).trans ((awh _ ((cU _ _).trans (awh enc L))).trans rfl),M⟩
abbrev GR6:Type:=At eD×At eD×EV×EV
noncomputable def gK6:IR->cY->At GR6
 |.normal,E=>some (bH E.h 4294967297,bH E.h 4294967298,dj E.t 6,dj E.t 7)
 |.ret,E=>some (bH E.h 4294967297,bH E.h 4294967298,dj E.t 6,dj E.t 7)
 |_,_=>none
def ase N n i c h k d f a b g P e:px N GR6 (pq [1,1,1,0]) (qE n i c h k d f a b g P e) (λE=>px N GR6 (pq [1,1,1,1,0]) E λE=>yF T (XP oG N) N qy .z E GR6 gK6)=
 aW (ED N (k,d,f,a,b,g,P,e,n,i,c,h,0,0,([]:aX))) λ(y:Int×Do bm×Int×Int×Int×Int×aX)=>some (some (.box 34 (gS y.1 y.2.1 y.2.2.1 y.2.2.2.1)),some (.box 42 [.sc j1 y.2.2.2.2.1,.sc j1 y.2.2.2.2.2.1,.sc j6 y.2.2.2.2.2.2]),.pt 4294967297 0,.pt 4294967298 0):=ci
def ao5(n:Int)(t:Do bm)(j r k:Int)(m:bh)(q:lz)(e f g P:Int)(p:bh){y:Int×Do bm×Int×Int×Int×Int×aX}(h:ED a (k,m,q,e,f,g,P,p,n,t,j,r,0,0,[])=some y):
 TC Tryz.prog (.seq (pq [1,1,1,0]) (.seq (pq [1,1,1,1,0]) qy)) (br (qE n t j r k m q e f g P p)) λx s=>(x=.normal\/x=.ret)/\bc s.h 4294967297=some (cA (.box 34 (gS y.1 y.2.1 y.2.2.1 y.2.2.2.1)))/\bc s.h 4294967298=some (cA (.box 42 [.sc j1 y.2.2.2.2.1,.sc j1 y.2.2.2.2.2.1,.sc j6 y.2.2.2.2.2.2]))/\bO s.t 6=.pt 4294967297 0/\bO s.t 7=.pt 4294967298 0/\s.n=30:=by
 have u:=Ej oG a;have d:=ase a n t j r k m q e f g P p;rw[h]at d;simp only[aW]at d;have N:Fp (pq [1,1,1,0])=true:=ci
 have O:Fp (pq [1,1,1,1,0])=true:=ci
 have Q:Fp qy=true:=ci
 generalize J:((some (eD.box 34 (gS y.1 y.2.1 y.2.2.1 y.2.2.2.1)),some (eD.box 42 [.sc j1 y.2.2.2.2.1,.sc j1 y.2.2.2.2.2.1,.sc j6 y.2.2.2.2.2.2]),EV.pt 4294967297 0,EV.pt 4294967298 0):GR6)=A at d;unfold px at d;have I:yF T (XP oG a) a (pq [1,1,1,0]) .z (qE n t j r k m q e f g P p) GR6 (kGo λE=>yF T (XP oG a) a (pq [1,1,1,1,0]) .z E GR6 (kGo λE=>yF T (XP oG a) a qy .z E GR6 gK6))=some A:=d;refine TC.V_ u N I λR K G=>TC.V_ u O G λS L H=>(TC.ex u Q H).mono λx s w=>?_;obtain⟨b,rfl,M,c⟩:=w;have v:(x=.normal\/x=.ret)/\(bH b.h 4294967297,bH b.h 4294967298,dj b.t 6,dj b.t 7)=A:=by
  cases x with
  |normal=>exact⟨.inl rfl,av_ c⟩
  |ret=>exact⟨.inr rfl,av_ c⟩
  |_=>cases c
 obtain⟨w,v⟩:=v;have o:=v.trans J.symm;have B:bH b.h 4294967297=_:=awh (λz=>z.1) o;have C:bH b.h 4294967298=_:=awh (λz=>z.2.1) o;have D:dj b.t 6=_:=awh (λz=>z.2.2.1) o;have F:dj b.t 7=_:=awh (λz=>z.2.2.2) o;exact⟨w,(dw _ _).trans (by rw[B];rfl),(dw _ _).trans (by rw[C];rfl),(cU _ _).trans (by rw[D];rfl),(cU _ _).trans (by rw[F];rfl),M.trans (L.trans K)⟩
variable{d:Int}
def Fu:Nat:=18446744073709551616
def bJ:Fu=18446744073709551616:=rfl
def My:maxLen=9223372036854775807:=rfl
def cd{p:Prop} [Decidable p](x y:i):cond (decide p) x y=if p then x else y:=by
 by_cases h:p<;>simp[h]
def Mz{p:Prop} [Decidable p](x y:i):cond (!(decide p)) x y=if p then y else x:=by
 by_cases h:p<;>simp[h]
def cb(b:In)(x y:i):cond b x y=if b=true then x else y:=by cases b<;>rfl
def ob{α β:Type}(x:α)(f:α->At β):aW (some x) f=f x:=rfl
def gw{x:Int}(a: -9223372036854775808<=x)(b:x<=9223372036854775807):wZ x=x:=by
 simp[wZ,wrap,IntKind.bits,IntKind.signed];omega
def bW(h:a<9223372036854775807):wZ ((a:Int)+1)=((a+1:Nat):Int):=by
 rw[gw bv bv];omega
def wu8(a:0<=d)(b:d<=255):wrap .u8 d=d:=by
 simp[wZ,wrap,IntKind.bits,IntKind.signed];omega
def auA(a:0<=d)(b:d<=4294967295):wrap .u32 d=d:=by
 simp[wZ,wrap,IntKind.bits,IntKind.signed];omega
def ba{α:Type}{a:Do α}{i:Nat}{x:α}(h:a[i]? =some x):aZ a (i:Int)=some x:=by
 simp[aZ,h]
def ao6{b:Do i}{x:i}(h:b[a]? =some x)(c:d=a):aZ b d=some x:=by
 subst c;exact ba h
def get_at{α:Type}{xs:Do α}{i:Nat}(h:i<xs.length):∃x,xs[i]? =some x:=⟨_,awf h⟩
def OE{α:Type}{a:Do α}(c:0<=d)(h:d<a.length):∃x,a[d.toNat]? =some x/\aZ a d=some x:=by
 obtain⟨x,b⟩:=get_at (xs:=a) (i:=d.toNat) bv;exact⟨x,b,ao6 b bv⟩
def cN{b:Do i}{x:i}(h:b[a]? =some x):b.drop a=x::b.drop (a+1):=by
 obtain⟨d,c⟩:=av7.1 h;rw[<-c];exact List.drop_eq_getElem_cons d
def bZ{b:Do i}{x:i}(h:b[a]? =some x):b.take (a+1)=b.take a++[x]:=by
 rw[List.take_add_one,h];rfl
def OF{a:Do i}(b:0<=d)(c:d<=A)(e:A<=a.length):kj a d A=some ((a.take A.toNat).drop d.toNat):=by
 simp[kj,b,c,e]
def wN{a:Do i}(b:0<=d)(c:d<=a.length):kj a 0 d=some (a.take d.toNat):=by
 rw[OF bv b c];rfl
def wO{a:Do i}(b:0<=d)(c:d<=a.length):kj a d ((a.length:Nat):Int)=some (a.drop d.toNat):=by
 rw[OF b c bv];simp
def ah8(a:Do i):Qm a 0 ((a.length:Nat):Int) ((a.length:Nat):Int)=some a:=by
 simp[Qm]
def cj{b ys:Do i}(c:a<=1000)(h:b.length+ys.length<=100000000000):eG a b ys=some (b++ys):=by
 unfold eG;rw[av3];refine⟨?_,by rw[My];omega⟩
 calc (b.length+ys.length)*a<=100000000000*1000:=axC h c
  _<=140737488355328:=d6
def oH(c:a<=1000)(b:0<=d)(h:d<=100000000000):vh d a=some d.toNat:=by
 unfold vh;rw[av3];refine⟨b,?_,by rw[My];omega⟩
 calc a*d.toNat<=1000*100000000000:=axC c bv
  _<=140737488355328:=d6
def Wb(h:A≠0):Va d A=some (d.tmod A):=by simp[Va,h]
def OG(h:A≠0):Vb d A=some (d.tdiv A):=by simp[Vb,h]
def JC(a b:Nat):Int.tmod (a:Int) (b:Int)=((a % b:Nat):Int):=by
 rw[Int.tmod_eq_emod_of_nonneg bv];omega
def wP(a b:Nat):Int.tdiv (a:Int) (b:Int)=((a/b:Nat):Int):=by
 rw[Int.tdiv_eq_ediv_of_nonneg bv];omega
variable{u:Int×Int}{C c m:Nat}{B e:Nat->Nat}{s:bu}{n:bh}{g:bP}{j k t:a_}{b o:aX}
def pA:∀(g:bh) (c d v:Int),bN (.i .i64) (d_ (.i .i64) g c v) d=if c=d then some v else bN (.i .i64) g d
 |[],c,d,v=>by
  by_cases h:c=d
  .subst h;simp[d_,bN,jE]
  .have b:jE (.i .i64) c d=false:=by simp[jE,h]
   simp[d_,bN,b,h]
 |(x,y)::g,c,d,v=>by
  rw[d_];by_cases h:x=c
  .subst h
   by_cases a:x=d
   .subst a;simp[jE,bN]
   .have b:jE (.i .i64) x d=false:=by simp[jE,a]
    have f:jE (.i .i64) x x=true:=by simp[jE]
    simp[bN,b,f,a]
  .have b:jE (.i .i64) x c=false:=by simp[jE,h]
   simp only[b,av8,bN];by_cases a:x=d
   .subst a
    have f:jE (.i .i64) x x=true:=by simp[jE]
    rw[f,av2 (λe=>h e.symm)];rfl
   .have f:jE (.i .i64) x d=false:=by simp[jE,a]
    rw[f];simp only[av8];exact pA g c d v
def CY:∀(a:bh) (c v:Int),(d_ (.i .i64) a c v).length=a.length+if(bN (.i .i64) a c).isSome then 0 else 1
 |[],c,v=>by simp[d_,bN]
 |(x,y)::a,c,v=>by
  rw[d_,bN];by_cases h:x=c
  .subst h
   have d:jE (.i .i64) x x=true:=by simp[jE]
   simp[d]
  .have b:jE (.i .i64) x c=false:=by simp[jE,h]
   simp only[b,av8,aws,CY a c v];omega
def Gz(l:aX):Prop:=∀t∈l,0<=t/\t<=10000
def fH(l:aX):Prop:=l.length<=1000/\Gz l/\l.Nodup
instance(l:aX):Decidable (Gz l):=by unfold Gz;exact inferInstance
instance(l:aX):Decidable (fH l):=by unfold fH;exact inferInstance
def aln(N:Nat)(a:Fu<=N)(t:Int):X7 N t=some (decide (¬(0<=t/\t<=10000))):=by
 obtain⟨N,rfl⟩:∃n,N=n+1:=⟨N - 1,by have:=bJ;omega⟩;rw[afW,cd];by_cases h:t<0
 .rw[av3 h]
  have:¬(0<=t/\t<=10000):=bv
  simp[this]
 .rw[av2 h]
  congr 1;simp only[axL];omega
def MA(N:Nat)(f:Fu<=N)(l:aX)(n:l.length<=9223372036854775807):∀(k i m:Nat),i+k=l.length->k<m->
 ∃j:Nat,G1 N m (l,((l.length:Nat):Int),(i:Int))=some (if Gz (l.drop i)then .inl ()else .inr (j:Int))
 |k,i,0,c,d=>by omega
 |0,i,m+1,c,d=>by
  refine⟨0,?_⟩;rw[LK,dF bv,awZ bv,av3 (by intro t h;cases h)]
 |k+1,i,m+1,c,d=>by
  obtain⟨x,g⟩:=get_at (xs:=l) (i:=i) bv;obtain⟨j,o⟩:=MA N f l n k (i+1) m bv bv;rw[LK,eK bv,ba g,ob,aln N f x,ob,cd,bW bv,o,cN g];by_cases h:0<=x/\x<=10000
  .refine⟨j,?_⟩
   rw[av2 (λe=>e h)];have:Gz (x::l.drop (i+1))↔Gz (l.drop (i+1)):=⟨λe t a=>e t (by simp[a]),λe t a=>by
    rcases awr.1 a with rfl|a
    .exact h
    .exact e t a⟩
   by_cases b:Gz (l.drop (i+1))
   .rw[av3 b,av3 (this.2 b)]
   .rw[av2 b,av2 (λe=>b (this.1 e))]
  .refine⟨i,?_⟩
   rw[av3 h,av2 (λe=>h (e x d5))]
def alo(N:Nat)(c:Fu+2<=N)(l:aX)(b:l.length<=9223372036854775807):Ya N l=some (!decide (Gz l)):=by
 obtain⟨N,rfl⟩:=sC N 2;rw[afZ,afY];obtain⟨j,h⟩:=MA N bv l b l.length 0 N bv (by have:=bJ;omega);rw[show((0:Int)=((0:Nat):Int))from rfl,h,awW];by_cases a:Gz l<;>simp[ob,a]
structure Met(l:aX)(met:bh):Prop where
 mem:∀c,(bN (.i .i64) met c).isSome=decide (c∈l)
 le:met.length<=l.length
 eq:met.length=l.length↔l.Nodup
def alp:Met [] []:=⟨λc=>rfl,d5,d5⟩
def alq(h:Met b n)(x v:Int):Met (b++[x]) (d_ (.i .i64) n x v):=by
 refine⟨λc=>?_,?_,?_⟩
 .rw[pA]
  by_cases g:x=c
  .subst g;simp
  .rw[av2 g,h.mem c]
   have l:¬c=x:=λe=>g e.symm;simp[l]
 .rw[CY]
  have:=h.le;simp only[awl,aye];split<;>omega
 .rw[CY,h.mem x]
  have m:=h.le;have i:=h.eq;simp only[awl,aye];by_cases f:x∈b
  .simp only[f,axk,awG]
   constructor
   .intro e;omega
   .intro e
    rw[awR]at e;exact absurd rfl (e.2.2 x f x d5)
  .simp only[f,decide_false,axE,aw1]
   constructor
   .intro e
    rw[awR];refine⟨i.1 bv,d5,λa k d j=>?_⟩;simp at j;subst j;rintro rfl;exact f k
   .intro e
    rw[awR]at e;have:=i.2 e.1;omega
def MB(N:Nat)(l c:aX)(h:l.length<=9223372036854775807):∀(k i m:Nat) (a:bh),i+k=l.length->k<m->Met (l.take i) a->
 ∃g,G2 N m (c,l,((l.length:Nat):Int),(i:Int),a)=some (c,g)/\Met l g
 |k,i,0,a,d,e,b=>by omega
 |0,i,m+1,a,d,e,b=>by
  rw[LL,dF bv];rw[awA bv]at b;exact⟨a,rfl,b⟩
 |k+1,i,m+1,a,d,e,b=>by
  obtain⟨x,f⟩:=get_at (xs:=l) (i:=i) bv;rw[LL,eK bv,ba f,ob,bW bv];refine MB N l c h k (i+1) m _ bv bv ?_;rw[bZ f];exact alq b x _
def OH(N:Nat)(d:Fu+1<=N)(l:aX)(c:l.length<=9223372036854775807):Ye N l=some (decide l.Nodup):=by
 obtain⟨N,rfl⟩:=sC N 1;obtain⟨f,a,b⟩:=MB N l l c l.length 0 N [] bv (by have:=bJ;omega) alp;rw[af0,show((0:Int)=((0:Nat):Int))from rfl,a,ob];congr 1;rw[axL];have:=b.eq;constructor
 .intro e;simp only at e;exact this.1 bv
 .intro e;have:=this.2 e;simp only;omega
def OI(N:Nat)(e:Fu+3<=N)(l:aX)(c:l.length<=9223372036854775807):Em N l=some (decide (fH l)):=by
 obtain⟨N,rfl⟩:=sC N 1;rw[aco,cd];by_cases d:1000<l.length
 .rw[av3 bv]
  have:¬fH l:=λh=>by have:=h.1;omega
  simp[this]
 rw[av2 bv,alo N bv l c,ob,OH N bv l c];by_cases a:Gz l
 .by_cases b:l.Nodup
  .have:fH l:=⟨bv,a,b⟩
   simp[a,b,this,ob]
  .have:¬fH l:=λh=>b h.2.2
   simp[a,b,this,ob]
 .have:¬fH l:=λh=>a h.2.1
  simp[a,this,ob]
def asf(l:aX):Prop:=Gz l/\l.Nodup
instance(l:aX):Decidable (asf l):=by unfold asf;exact inferInstance
def ix:aX->Int->Nat
 |[],_=>0
 |x::l,v=>if x=v then 0 else ix l v+1
def GA(l:aX)(p:Nat):aX:=l.drop p++l.take p
def eJ(l:aX)(v:Int):aX:=GA l (ix l v)
def ah9:∀{l:aX} {v:Int},v∈l->ix l v<l.length
 |x::l,v,h=>by
  rw[ix];by_cases c:x=v
  .rw[av3 c];simp
  .rw[av2 c]
   have:=ah9 (l:=l) (v:=v) ((awr.1 h).resolve_left λe=>c e.symm);simp;omega
def aaN:∀{a:aX} (b:aX) {v:Int},v∉a->ix (a++b) v=a.length+ix b v
 |[],b,v,h=>by simp
 |x::a,b,v,h=>by
  rw[axh,ix,av2 (λe=>h (by simp[e])),aaN b (λe=>h (by simp[e]))];simp;omega
def ao7{v:Int}(h:v∉b):ix (b++v::o) v=b.length:=by
 rw[aaN _ h,ix,av3 rfl,axv]
def CZ:∀{l:aX} {v:Int},v∈l->∃u t,l=u++v::t/\v∉u/\ix l v=u.length
 |x::l,v,h=>by
  by_cases c:x=v
  .exact⟨[],l,by rw[c];rfl,d5,by rw[ix,av3 c];rfl⟩
  .obtain⟨u,t,a,b,d⟩:=CZ ((awr.1 h).resolve_left λe=>c e.symm)
   exact⟨x::u,t,by rw[a];rfl,by simp[b,show¬v=x fromλe=>c e.symm],by rw[ix,av2 c,d];rfl⟩
def am5:∀{l:aX},l.Nodup->∀{i:Nat} {v:Int},l[i]? =some v->ix l v=i
 |[],_,i,v,h=>by simp at h
 |x::l,a,0,v,h=>by
  simp at h;rw[ix,av3 h]
 |x::l,a,i+1,v,h=>by
  have b:v∈l:=awg (by simpa using h);rw[ix,av2 (λe:x=v=>(axc.1 a).1 (by rw[e];exact b)),am5 (axc.1 a).2 (by simpa using h)]
def OJ(l:aX)(p:Nat):(GA l p).length=l.length:=by simp[GA];omega
def C0(l:aX)(p:Nat):(GA l p).Perm l:=by
 unfold GA;have:= @azb Int (l.drop p) (l.take p);rwa[axw]at this
def aaO:d∈GA b a↔d∈b:=(C0 b a).mem_iff
def adp:(GA b a).Nodup↔b.Nodup:=(C0 b a).nodup_iff
def TB:fH (GA b a)↔fH b:=by
 unfold fH Gz;rw[OJ,adp];simp only[aaO]
def alr(A B:aX):GA (A++B) A.length=B++A:=by simp[GA]
def rH{u t:aX}{v:Int}(h:v∉u):eJ (u++v::t) v=v::t++u:=by
 rw[eJ,ao7 h,alr]
def Wc{A B:aX}{v:Int}(e:(A++B).Nodup)(f:v∈A++B):eJ (A++B) v=eJ (B++A) v:=by
 have d:=awR.1 e;by_cases h:v∈A
 .obtain⟨u,t,rfl,a,_⟩:=CZ h
  have b:v∉B:=λc=>d.2.2 v h v c rfl;rw[show u++v::t++B=u++v::(t++B) by simp,rH a,show B++(u++v::t)=(B++u)++v::t by simp,rH (by simp[a,b])];simp
 .have b:v∈B:=by simpa[h]using f
  obtain⟨u,t,rfl,a,_⟩:=CZ b;rw[show A++(u++v::t)=(A++u)++v::t by simp,rH (by simp[a,h]),show u++v::t++A=u++v::(t++A) by simp,rH a];simp
def adq{l:aX}(b:l.Nodup)(c:d∈l):eJ (GA l a) d=eJ l d:=by
 have e:l=l.take a++l.drop a:=(axw a l).symm;unfold GA;rw[<-Wc (by rw[<-e];exact b) (by rw[<-e];exact c),<-e]
def Wd:fH (eJ b d)↔fH b:=TB
def MC(l:aX)(v:Int):(eJ l v).length=l.length:=OJ _ _
def MD:A∈eJ b d↔A∈b:=aaO
def wQ(h:d∈b):(eJ b d)[0]? =some d:=by
 obtain⟨u,t,rfl,a,_⟩:=CZ h;rw[rH a];rfl
def o6:aX->Int
 |[]=>0
 |[x]=>x
 |x::y::l=>if x<=o6 (y::l)then x else o6 (y::l)
def pB:∀{l:aX},l≠[]->o6 l∈l/\∀y∈l,o6 l<=y
 |[],h=>absurd rfl h
 |[x],_=>by simp[o6]
 |x::y::l,_=>by
  obtain⟨d,b⟩:=pB (l:=y::l) d5;rw[o6];by_cases c:x<=o6 (y::l)
  .rw[av3 c]
   refine⟨d5,λz a=>?_⟩;rcases awr.1 a with rfl|a
   .exact axx _
   .exact Int.le_trans c (b z a)
  .rw[av2 c]
   refine⟨aw5 _ d,λz a=>?_⟩;rcases awr.1 a with rfl|a
   .omega
   .exact b z a
def EE(a:d∈b)(c:∀y∈b,d<=y):o6 b=d:=by
 obtain⟨e,f⟩:=pB (List.ne_nil_of_mem a);exact Int.le_antisymm (f d a) (c _ e)
def adr(h:b.Perm o):o6 b=o6 o:=by
 by_cases c:o=[]
 .subst c;rw[h.eq_nil]
 .obtain⟨a,d⟩:=pB c
  exact EE (h.mem_iff.2 a) λy e=>d y (h.mem_iff.1 e)
def dA(l:aX):aX:=if fH l/\l≠[]then eJ l (o6 l)else []
def gx(h:fH b)(a:b≠[]):dA b=eJ b (o6 b):=av3 ⟨h,a⟩
def ads(h:fH b):dA (GA b a)=dA b:=by
 by_cases c:b=[]
 .subst c;simp[GA]
 .have d:GA b a≠[]:=λe=>c (by have:=OJ b a;rw[e]at this;exact aw6 this.symm)
  rw[gx h c,gx (TB.2 h) d,adr (C0 b a),adq h.2.2 (pB c).1]
def TD(h:fH b):dA (dA b)=dA b:=by
 by_cases c:b=[]
 .subst c;rfl
 .rw[gx h c]
  exact(ads h).trans (gx h c)
def We(h:fH b):fH (dA b):=by
 by_cases c:b=[]
 .subst c;simpa[dA]using h
 .rw[gx h c];exact Wd.2 h
def OK(l:aX)(x:Int):In×aX:=if fH l/\x∈l then(true,eJ l x)else(false,[])
def ixI(l:aX)(v:Int):Int:=if v∈l then(ix l v:Int)else -1
def HA(h:d∈b):ixI b d=(ix b d:Int):=av3 h
def OL(h:d∉b):ixI b d= -1:=av2 h
def ah_:(0<=ixI b d)↔d∈b:=by
 by_cases h:d∈b
 .rw[HA h];simp[h]
 .rw[OL h];simp[h]
def JD(N:Nat)(l:aX)(v:Int)(f:l.length<=9223372036854775807):∀(k i m:Nat),i+k=l.length->k<m->
 G5 N m (l,v,((l.length:Nat):Int),(i:Int))=some (if v∈l.drop i then .inr ((i+ix (l.drop i) v:Nat):Int)else .inl ())
 |k,i,0,b,a=>by omega
 |0,i,m+1,b,a=>by
  rw[LQ,dF bv,awZ bv];simp
 |k+1,i,m+1,b,a=>by
  obtain⟨x,c⟩:=get_at (xs:=l) (i:=i) bv;rw[LQ,eK bv,ba c,ob,cd,bW bv,cN c];by_cases h:v=x
  .subst h
   rw[av3 rfl,av3 d5,ix,av3 rfl];rfl
  .have d:ix (x::l.drop (i+1)) v=ix (l.drop (i+1)) v+1:=by rw[ix,av2 (λe:x=v=>h e.symm)]
   rw[av2 h,JD N l v f k (i+1) m bv bv,d];by_cases a:v∈l.drop (i+1)
   .rw[av3 a,av3 (by simp[a])];congr 3;omega
   .rw[av2 a,av2 (by simp[h,a])]
def JE(N:Nat)(b:Fu+1<=N)(l:aX)(v:Int)(a:l.length<=9223372036854775807):LP N (l,v)=some (ixI l v):=by
 obtain⟨N,rfl⟩:=sC N 1;have h:=JD N l v a l.length 0 N bv (by have:=bJ;omega);rw[awW,awB]at h;rw[af8,show((0:Int)=((0:Nat):Int))from rfl,h,ob,ixI];by_cases c:v∈l
 .rw[av3 c,av3 c]
 .rw[av2 c,av2 c]
def has_eq(N:Nat)(b:Fu+2<=N)(l:aX)(v:Int)(a:l.length<=9223372036854775807):IP N (l,v)=some (decide (v∈l)):=by
 obtain⟨N,rfl⟩:=sC N 1;rw[af9,JE N bv l v a,ob];congr 1;exact axL.2 ah_
def TE(N:Nat)(l:aX)(o:l.length<=1000):∀(k i m:Nat) (a:Int),i+k=l.length->k<m->a∈l->(∀(j:Nat) y,j<i->l[j]? =some y->a<=y)->
 G3 N m (l,a,(i:Int))=some (o6 l)
 |k,i,0,a,h,n,c,d=>by omega
 |0,i,m+1,a,h,n,c,d=>by
  rw[LM,dF bv];congr 1;refine(EE c λy b=>?_).symm;obtain⟨j,f⟩:=ayM b;exact d j y (by have:=(av7.1 f).1;omega) f
 |k+1,i,m+1,a,h,n,c,d=>by
  obtain⟨x,g⟩:=get_at (xs:=l) (i:=i) bv;rw[LM,eK bv,ba g,ob,bW bv];refine TE N l o k (i+1) m _ bv bv ?_ λj y f b=>?_
  .split
   .exact awg g
   .exact c
  .by_cases e:j=i
   .subst e
    rw[g]at b;cases b;split<;>omega
   .have:=d j y bv b
    split<;>omega
def min_eq(N:Nat)(f:Fu+1<=N)(l:aX)(d:l.length<=1000)(c:l≠[]):Rh N l=some (o6 l):=by
 obtain⟨N,rfl⟩:=sC N 1;have e:=axV.2 c;obtain⟨x,a⟩:=get_at (xs:=l) (i:=0) e;rw[af1,dF bv,show((0:Int)=((0:Nat):Int))from rfl,ba a,ob,show((1:Int)=((1:Nat):Int))from rfl,TE N l d (l.length - 1) 1 N x bv (by have:=bJ;omega) (awg a) (λj y g b=>by
  have:j=0:=bv
  subst this;rw[a]at b;cases b;exact axx _),ob]
structure Cl(n:Nat)(l:bu)(c:Nat->Nat):Prop where
 le:∀v,v<n->c v<=v
 fix:∀v,v<n->c (c v)=c v
 ed:∀e∈l,c e.1=c e.2
 uni:∀f:Nat->Nat,(∀e∈l,f e.1=f e.2)->∀v,v<n->f (c v)=f v
def Cl.uniq{l m:bu}(h:Cl a l e)(k:Cl a m B)(f:∀b,b∈l↔b∈m):∀v,v<a->e v=B v:=λv c=>by
 have g:e (B v)=e v:=k.uni e (λb d=>h.ed b ((f b).2 d)) v c;have i:B (e v)=B v:=h.uni B (λb d=>k.ed b ((f b).1 d)) v c;have j:=h.le (B v) (aAr (k.le v c) c);have n:=k.le (e v) (aAr (h.le v c) c);omega
def Cl.nil(n:Nat):Cl n [] id:=⟨λv _=>av5 v,λ_ _=>rfl,(λe h=>by cases h),λ_ _ _ _=>rfl⟩
def jn(c:Nat->Nat)(u v:Nat):Nat->Nat:=λx=>if c x=max (c u) (c v)then min (c u) (c v)else c x
def aaP(h:e a=e c):jn e a c=e:=by
 funext x;unfold jn;rw[h];split
 next b=>omega
 .rfl
def Cl.jn{n:Nat}{l:bu}{c:Nat->Nat}(h:Cl n l c){u v:Nat}(i:u<n)(j:v<n):Cl n (l++[(u,v)]) (jn c u v):=by
 have p:=h.fix u i;have r:=h.fix v j;have o:c (min (c u) (c v))=min (c u) (c v):=by
  rcases ayf (c u) (c v)with q|q
  .rw[axj q];exact p
  .rw[ayv q];exact r
 refine⟨λx d=>?_,λx d=>?_,λe a=>?_,λf k x d=>?_⟩
 .have:=h.le x d
  unfold Proofs.YtillffjlojlhoaaGreatDoor.jn;split<;>omega
 .have:=h.fix x d
  by_cases q:c x=max (c u) (c v)
  .have g:Proofs.YtillffjlojlhoaaGreatDoor.jn c u v x=min (c u) (c v):=av3 q
   rw[g];unfold Proofs.YtillffjlojlhoaaGreatDoor.jn;rw[o];split<;>rfl
  .have g:Proofs.YtillffjlojlhoaaGreatDoor.jn c u v x=c x:=av2 q
   rw[g];unfold Proofs.YtillffjlojlhoaaGreatDoor.jn;rw[this,av2 q]
 .rcases awc.1 a with a|a
  .unfold Proofs.YtillffjlojlhoaaGreatDoor.jn;rw[h.ed e a]
  .simp only[awq]at a
   subst a;have:∀y,(c y=c u\/c y=c v)->Proofs.YtillffjlojlhoaaGreatDoor.jn c u v y=min (c u) (c v):=λy t=>by
    unfold Proofs.YtillffjlojlhoaaGreatDoor.jn;split
    .rfl
    .omega
   rw[this u (.inl rfl),this v (.inr rfl)]
 .have b:=h.uni f (λe a=>k e (by simp[a]))
  have m:f u=f v:=k (u,v) d5;have s:f (min (c u) (c v))=f (max (c u) (c v)):=by
   rcases ayf (c u) (c v)with q|q
   .rw[axj q,azA q,b u i,b v j,m]
   .rw[ayv q,azB q,b u i,b v j,m]
  unfold Proofs.YtillffjlojlhoaaGreatDoor.jn;split
  next q=>rw[s,<-q,b x d]
  .exact b x d
def JF(n:Nat)(c:Nat->Nat):Nat:=((List.range n).filter λv=>c v==v).length
def ME(p:Nat->In)(M:Nat):∀n,((List.range n).filter λx=>p x && x !=M).length+(if M<n/\p M=true then 1 else 0)=((List.range n).filter p).length
 |0=>by simp
 |n+1=>by
  have g:=ME p M n;rw[azc,axs,axs,awl,awl];by_cases q:n=M
  .subst q
   rw[av2 bv]at g;cases f:p n<;>simp[f]<;>omega
  .have c:(n !=M)=true:=by simpa using q
   have d:(M<n+1/\p M=true)↔(M<n/\p M=true):=by constructor<;>(rintro⟨a,b⟩;exact⟨bv,b⟩)
   have e:([n].filter λx=>p x && x !=M)=[n].filter p:=by simp[axa,c]
   rw[e];simp only[d];omega
def JG{p q:Nat->In}(h:∀x,x<a->p x=q x):(List.range a).filter p=(List.range a).filter q:=
 aAs λx b=>h x (awE.1 b)
def adt(h:∀v,v<a->e v=B v):JF a e=JF a B:=by
 unfold JF;rw[JG λx b=>by rw[h x b]]
def ao8(h:Cl a s e)(j:c<a)(l:m<a):JF a (jn e c m)+(if e c=e m then 0 else 1)=JF a e:=by
 by_cases q:e c=e m
 .rw[av3 q,aaP q];rfl
 rw[av2 q];have f:=h.fix c j;have g:=h.fix m l;have t:=h.le c j;have u:=h.le m l;have i:e (max (e c) (e m))=max (e c) (e m):=by
  rcases ayf (e c) (e m)with k|k
  .rw[azA k];exact g
  .rw[azB k];exact f
 have n:e (min (e c) (e m))=min (e c) (e m):=by
  rcases ayf (e c) (e m)with k|k
  .rw[axj k];exact f
  .rw[ayv k];exact g
 have:=ME (λm=>e m==m) (max (e c) (e m)) a;rw[av3 ⟨bv,by simpa using i⟩]at this;unfold JF;rw[<-this];congr 2;refine JG λx r=>?_;have p:min (e c) (e m)<max (e c) (e m):=bv
 unfold jn;by_cases k:e x=max (e c) (e m)
 .rw[av3 k]
  have:¬(min (e c) (e m)=x):=λb=>by rw[<-b,n]at k;omega
  by_cases d:x=max (e c) (e m)
  .simp[d];omega
  .have o:¬max (e c) (e m)=x:=λb=>d b.symm
   rw[k,aA1.2 this,aA1.2 o];rfl
 .rw[av2 k]
  by_cases d:x=max (e c) (e m)
  .exact absurd (by rw[d];exact i) k
  .simp[d]
def ao9(n:Nat):JF n id=n:=by
 unfold JF;rw[azd.2 (λx _=>by simp)];exact azC
def jH(l:bu):Nat->Nat:=l.foldl (λc e=>jn c e.1 e.2) id
def wR(l:bu)(e:Nat×Nat):jH (l++[e])=jn (jH l) e.1 e.2:=by simp[jH]
def fe(n:Nat)(l:bu):Prop:=∀e∈l,e.1<n/\e.2<n
def aaQ{p:Do i->Prop}(a:p [])(b:∀l x,p l->p (l++[x]))(l:Do i):p l:=by
 have:∀m:Do i,p m.reverse:=λm=>by
  induction m with
  |nil=>exact a
  |cons x m c=>rw[List.reverse_cons];exact b _ _ c
 have h:=this l.reverse;rwa[List.reverse_reverse]at h
def fe.app{l m:bu}:fe a (l++m)↔fe a l/\fe a m:=by
 unfold fe;constructor
 .exactλh=>⟨λe b=>h e (by simp[b]),λe b=>h e (by simp[b])⟩
 .rintro⟨h,k⟩ e b
  rcases awc.1 b with b|b
  .exact h e b
  .exact k e b
def qP:∀(l:bu),fe a l->Cl a l (jH l):=by
 refine aaQ (λ_=>Cl.nil a) λl x d h=>?_;have b:=fe.app.1 h;have c:=b.2 x d5;rw[wR];exact(d b.1).jn c.1 c.2
def jI(l:bu)(e:Nat×Nat):In:=jH l e.1 !=jH l e.2
def ff(p:bu):bu->bw
 |[]=>[]
 |e::l=>jI p e::ff (p++[e]) l
def cQ(p:bu):bu->bu
 |[]=>[]
 |e::l=>if jI p e then e::cQ (p++[e]) l else cQ (p++[e]) l
def wS(l:bu):bu:=cQ [] l
def uu(x:Nat×Nat):∀(l p:bu),cQ p (l++[x])=cQ p l++(if jI (p++l) x then [x]else [])
 |[],p=>by
  simp only[awL,cQ,awN]
 |e::l,p=>by
  have a:=uu x l (p++[e]);simp only[axh,cQ,a,awx,axn];split<;>rfl
def TF(l:bu)(x:Nat×Nat):wS (l++[x])=wS l++(if jI l x then [x]else []):=by
 simp[wS,uu]
def C1{x:Nat×Nat}(h:fe a (s++[x])):JF a (jH (s++[x]))+(if jI s x then 1 else 0)=JF a (jH s):=by
 have b:=fe.app.1 h;have c:=b.2 x d5;have:=ao8 (qP s b.1) c.1 c.2;rw[wR,<-this];unfold jI;by_cases q:jH s x.1=jH s x.2
 .simp[q]
 .simp[q]
def Ab{n:Nat}:∀(l:bu),fe n l->JF n (jH l)+(wS l).length=n:=by
 refine aaQ (λ_=>by simp[jH,wS,cQ,ao9]) λl x b h=>?_;have c:=b (fe.app.1 h).1;have a:=C1 h;rw[TF,awl];by_cases q:jI l x=true
 .rw[av3 q]at a⊢;simp;omega
 .rw[av2 q]at a⊢;simp;omega
def ao_(l:bu)(h:fe a l):a<=JF a (jH l)+l.length:=by
 have b:=Ab l h;have c:∀l p:bu,(cQ p l).length<=l.length:=λl=>by
  induction l with
  |nil=>intro p;exact av5 _
  |cons e l d=>
   intro p;have:=d (p++[e]);rw[cQ];split
   .simp;omega
   .simp;omega
 have:=c l [];unfold wS at b;omega
def TG{l m:bu}(h:fe a l)(b:∀e,e∈l↔e∈m):JF a (jH l)=JF a (jH m):=
 adt ((qP l h).uniq (qP m λe c=>h e ((b e).2 c)) b)
def rtf(p:Nat->Nat):Nat->Nat->Nat
 |0,v=>v
 |k+1,v=>if p v=v then v else rtf p k (p v)
def root(p:Nat->Nat)(v:Nat):Nat:=rtf p v v
def th{p:Nat->Nat}(a:∀v,p v<=v):∀(k v:Nat),v<=k->rtf p k v=root p v
 |0,v,h=>by
  have:v=0:=bv
  subst this;rfl
 |k+1,v,h=>by
  unfold root;cases v with
  |zero=>
   have:p 0=0:=by have:=a 0;omega
   simp only[rtf,av3 this]
  |succ v=>
   rw[rtf,rtf];by_cases c:p (v+1)=v+1
   .rw[av3 c,av3 c]
   .have b:=a (v+1)
    rw[av2 c,av2 c,th a k _ bv,th a v _ bv]
def iy(a:∀v,e v<=v)(v:Nat):root e v=if e v=v then v else root e (e v):=by
 rw[<-th a (v+1) v bv,rtf];split
 .rfl
 next c=>have b:=a v;exact th a v _ bv
def wT(a:∀v,e v<=v)(v:Nat):root e (e v)=root e v:=by
 rw[iy a v];split
 next c=>rw[c,iy a v,av3 c]
 .rfl
def C2(a:∀v,e v<=v):∀v,e (root e v)=root e v:=λv=>by
 induction v using Nat.strongRecOn with
 |_ v b=>
  rw[iy a v];split
  .assumption
  next c=>have d:=a v;exact b _ bv
def C3(a:∀v,e v<=v):∀v,root e v<=v:=λv=>by
 induction v using Nat.strongRecOn with
 |_ v b=>
  rw[iy a v];have d:=a v;split
  .exact av5 _
  next c=>have:=b (e v) bv;omega
def lT(b:∀a,e a<=a)(h:e a=a):root e a=a:=by rw[iy b,av3 h]
def cR(p:Nat->Nat)(a b:Nat):Nat->Nat:=λx=>if x=a then b else p x
def adu(b:∀v,e v<=v)(v x:Nat):root (cR e v (e (e v))) x=root e x:=by
 have h:∀y,cR e v (e (e v)) y<=y:=λy=>by
  unfold cR;split
  next c=>subst c;exact awH (b _) (b _)
  .exact b y
 induction x using Nat.strongRecOn with
 |_ x f=>
  rw[iy h x];by_cases c:x=v
  .subst c
   have a:cR e x (e (e x)) x=e (e x):=av3 rfl;rw[a];split
   next c=>have d:=b x;have g:=b (e x);exact(lT b bv).symm
   next c=>have d:=b x;have g:=b (e x);rw[f _ bv,wT b,wT b]
  .have a:cR e v (e (e v)) x=e x:=av2 c
   rw[a,iy b x];split
   .rfl
   .have d:=b x
    exact f _ bv
def adv(d:∀v,e v<=v)(j:e m=m)(h:e a=a)(i:m<=a)(x:Nat):root (cR e a m) x=if root e x=a then m else root e x:=by
 have f:∀y,cR e a m y<=y:=λy=>by
  unfold cR;split
  next c=>subst c;exact i
  .exact d y
 induction x using Nat.strongRecOn with
 |_ x k=>
  rw[iy f x];by_cases c:x=a
  .subst c
   have b:cR e x m x=m:=av3 rfl;rw[b,lT d h,av3 rfl];split
   next c=>exact c.symm
   next c=>refine lT f ?_;unfold cR;rw[av2 c,j]
  .have b:cR e a m x=e x:=av2 c
   rw[b];split
   next g=>rw[lT d g,av2 c]
   .have l:=d x
    rw[k _ bv,wT d]
def par(s:aX)(v:Nat):Nat:=(s.getD v 0).toNat
structure MF(n:Nat)(s:aX)(c:Nat->Nat):Prop where
 len:s.length=n
 at_:∀i,i<n->∃w:Nat,s[i]? =some (w:Int)/\w<=i
 cls:∀x,x<n->root (par s) x=c x
def MF.Wf(h:MF a b e)(v:Nat):par b v<=v:=by
 unfold par;by_cases d:v<a
 .obtain⟨w,c,f⟩:=h.at_ v d
  simp only[axr,c,az6];omega
 .rw[axr,awO (by have:=h.len;omega)];simp
def MF.nth(h:MF a b e)(f:c<a):aZ b (c:Int)=some ((par b c:Nat):Int):=by
 obtain⟨w,d,g⟩:=h.at_ c f;rw[ba d];unfold par;simp[axr,d]
def C4(f:a<b.length):par (b.set a (c:Int))=cR (par b) a c:=by
 funext x;unfold par cR;simp only[axr,aw0];by_cases d:a=x
 .subst d;simp[f]
 .rw[av2 d,av2 (λe=>d e.symm)]
def MF.set{c c':Nat->Nat}(h:MF a b c){v w:Nat}(d:v<a)(g:w<=v)(e:∀x,x<a->root (cR (par b) v w) x=c' x):MF a (b.set v (w:Int)) c':=by
 refine⟨by rw[axf];exact h.len,λi f=>?_,λx j=>by rw[C4 (by rw[h.len];exact d)];exact e x j⟩;rw[aw0];by_cases q:v=i
 .subst q
  rw[av3 rfl,av3 (by rw[h.len];exact d)];exact⟨w,rfl,g⟩
 .rw[av2 q]
  exact h.at_ i f
def JH(N:Nat){n:Nat}:∀(m v:Nat) (s:aX) {c:Nat->Nat},v<m->v<n->MF n s c->
 ∃f,Hr N m ((v:Int),s)=some (((c v:Nat):Int),f)/\MF n f c/\∀j,j<n->par s j=c j->par f j=c j
 |0,v,s,c,h,_,_=>absurd h bv
 |m+1,v,s,c,w,d,a=>by
  rw[ada];simp only[a.nth d,ob,Mz];have b:=a.Wf;have z:=b v;by_cases q:((par s v:Nat):Int)=(v:Int)
  .rw[av3 q]
   have l:par s v=v:=bv
   refine⟨s,?_,a,λj _ h=>h⟩;rw[<-a.cls v d,lT b l]
  .rw[av2 q]
   have l:¬par s v=v:=λe=>q (by rw[e]);have y:=b (par s v);simp only[a.nth (show par s v<n by omega),ob,av9];have k:MF n (s.set v ((par s (par s v):Nat):Int)) c:=a.set d bv λx u=>by rw[adu b,a.cls x u]
   have g:par (s.set v ((par s (par s v):Nat):Int))=cR (par s) v (par s (par s v)):=C4 (by rw[a.len];exact d);have o:par (s.set v ((par s (par s v):Nat):Int)) v=par s (par s v):=by rw[g];exact av3 rfl
   simp only[k.nth d,ob,o];obtain⟨f,p,r,t⟩:=JH N m (par s (par s v)) _ bv bv k;refine⟨f,?_,r,λj i h=>t j i ?_⟩
   .rw[p]
    have:c (par s (par s v))=c v:=by rw[<-a.cls _ bv,wT b,wT b,a.cls _ d]
    rw[this]
   .rw[g]
    unfold cR;split
    next e=>subst e;rw[h,<-a.cls j i,C2 b]
    .exact h
def JI{N:Nat}(i:Fu+1<=N)(m:a<=1000)(l:c<a)(k:MF a b e):∃d,Mn N ((c:Int),b)=some (((e c:Nat):Int),d)/\MF a d e/\∀j,j<a->par b j=e j->par d j=e j:=by
 obtain⟨M,rfl⟩:=sC N 1;obtain⟨d,f,g,h⟩:=JH M M c b (by rw[bJ]at i;omega) l k;exact⟨d,by rw[ahp,f];rfl,g,h⟩
def join_eq(E:Fu+2<=a)(o:c<=1000)(h:m<c)(i:C<c)(y:MF c b e):
 ∃p,Z9 a ((m:Int),(C:Int),b)=some (e m !=e C,p)/\MF c p (jn e m C):=by
 obtain⟨M,rfl⟩:=sC a 1;obtain⟨F,s,A,_⟩:=JI (N:=M) bv o h y;obtain⟨g,t,d,_⟩:=JI (N:=M) bv o i A;have f:=d.Wf;have B:e m<=m:=by rw[<-d.cls m h];exact C3 f m
 have D:e C<=C:=by rw[<-d.cls C i];exact C3 f C
 have j:par g (e m)=e m:=by rw[<-d.cls m h];exact C2 f m
 have l:par g (e C)=e C:=by rw[<-d.cls C i];exact C2 f C
 have r:(if((e C:Nat):Int)>((e m:Nat):Int)then((e C:Nat):Int)else((e m:Nat):Int))=((max (e m) (e C):Nat):Int):=by
  split<;>omega
 have em:(if((e C:Nat):Int)<((e m:Nat):Int)then((e C:Nat):Int)else((e m:Nat):Int))=((min (e m) (e C):Nat):Int):=by
  split<;>omega
 have n:max (e m) (e C)<c:=bv
 rw[ahq];simp only[s,t,ob,r,em,d.nth n,av9];refine⟨_,?_,d.set (w:=min (e m) (e C)) n bv (c':=jn e m C) λx z=>?_⟩
 .congr 2
  by_cases q:e m=e C
  .simp[q]
  .have:¬((e m:Nat):Int)=((e C:Nat):Int):=bv
   simp[q,this]
 .have u:par g (max (e m) (e C))=max (e m) (e C):=by
   rcases ayf (e m) (e C)with k|k
   .rw[azA k];exact l
   .rw[azB k];exact j
  have v:par g (min (e m) (e C))=min (e m) (e C):=by
   rcases ayf (e m) (e C)with k|k
   .rw[axj k];exact j
   .rw[ayv k];exact l
  rw[adv f v u bv,d.cls x z];rfl
def JJ(N:Nat){n:Nat}(e:n<=1000):∀(m i:Nat) (s:aX),n - i<m->i<=n->s.length=n->(∀j,j<i->s[j]? =some (j:Int))->
 ∃a,CG N m ((n:Int),(i:Int),s)=some a/\a.length=n/\∀j,j<n->a[j]? =some (j:Int)
 |0,i,s,h,_,_,_=>absurd h bv
 |m+1,i,s,l,g,b,c=>by
  rw[V7,cd];by_cases q:i<n
  .rw[av3 bv]
   obtain⟨x,f⟩:=get_at (xs:=s) (i:=i) bv;simp only[ba f,ob,bW (show i<9223372036854775807 by omega),av9];refine JJ N e m (i+1) _ bv bv (by rw[axf];exact b) λj d=>?_;rw[aw0];by_cases k:i=j
   .subst k;rw[av3 rfl,av3 bv]
   .rw[av2 k];exact c j bv
  .rw[av2 bv]
   exact⟨s,rfl,b,λj d=>c j bv⟩
def TH{N:Nat}(d:Fu+1<=N){n:Nat}(f:n<=1000):∃s,Js N (n:Int)=some s/\MF n s id:=by
 obtain⟨N,rfl⟩:=sC N 1;rw[ac_,oH bv bv bv,ob];simp only[av9,ay_];obtain⟨s,b,c,a⟩:=JJ N f N 0 (List.replicate n 0) (by rw[bJ]at d;omega) bv d5 (λj l=>by omega);refine⟨s,?_,c,λi e=>⟨i,a i e,av5 _⟩,λx k=>?_⟩
 .rw[show((0:Nat):Int)=0 from rfl]at b
  rw[b];rfl
 .have g:∀v,par s v<=v:=λv=>by
   unfold par;by_cases h:v<n
   .simp[axr,a v h]
   .rw[axr,awO bv];simp
  refine lT g ?_;unfold par;simp[axr,a x k]
def MG(e:Nat×Nat):Int×Int:=((e.1:Int),(e.2:Int))
def jd(e:Int×Int):Nat×Nat:=(e.1.toNat,e.2.toNat)
def l5(n:Int)(e:Int×Int):Prop:=(0<=e.1/\e.1<n)/\0<=e.2/\e.2<n
instance(n:Int)(e:Int×Int):Decidable (l5 n e):=inferInstanceAs (Decidable (_/\_))
def am6(h:l5 d u):MG (jd u)=u:=by
 obtain⟨a,b⟩:=u;have c:=h.1.1;have e:=h.2.1;simp only at c e;exact axz (azm c) (azm e)
def l5.nat(h:l5 (a:Int) u):(jd u).1<a/\(jd u).2<a:=by
 have b:=h.1;have c:=h.2;exact⟨by unfold jd;omega,by unfold jd;omega⟩
def JK(N:Nat)(d:Fu+2<=N){n:Nat}(e:n<=1000){l:bu}(t:l.length<=100000)(c:fe n l):∀(m i:Nat) (s:aX) (a:bw),l.length - i<m->i<=l.length->a.length=i->MF n s (jH (l.take i))->
 ∃k,Hs N m (l.map MG,(l.length:Int),(i:Int),s,a)=some (a++ff (l.take i) (l.drop i),k)/\MF n k (jH l)
 |0,i,s,a,h,_,_,_=>absurd h bv
 |m+1,i,s,a,B,A,u,f=>by
  rw[adb,cd];by_cases q:i<l.length
  .rw[av3 bv]
   obtain⟨x,b⟩:=get_at (xs:=l) (i:=i) q;have g:=c x (awg b);have v:(l.map MG)[i]? =some (MG x):=by rw[awp,b];rfl
   obtain⟨y,p,j⟩:=join_eq d e g.1 g.2 f;have o:jn (jH (l.take i)) x.1 x.2=jH (l.take (i+1)):=by rw[bZ b,wR]
   rw[o]at j;rw[ba v,ob];simp only[MG,p,ob];rw[cj bv d7,ob,bW bv];obtain⟨z,r,w⟩:=JK N d e t c m (i+1) y (a++[jH (l.take i) x.1 !=jH (l.take i) x.2]) bv bv (by simp[u]) j;refine⟨z,?_,w⟩;rw[r,cN b,ff,bZ b];simp[jI]
  .rw[av2 bv]
   refine⟨s,?_,?_⟩
   .rw[awZ bv];simp[ff]
   .rwa[awA bv]at f
def TI{N:Nat}(f:Fu+4<=N){n:Nat}(h:n<=1000){l:bu}(g:l.length<=100000)(e:fe n l)(i:MF n b id):
 ∃a,Tb N (l.map MG,b)=some (ff [] l,a)/\MF n a (jH l):=by
 obtain⟨M,rfl⟩:=sC N 2;obtain⟨a,c,d⟩:=JK M bv h g e M 0 b [] (by rw[bJ]at f;omega) bv rfl i;refine⟨a,?_,d⟩;rw[aht,ahs,awa,zQ.symm,c];rfl
def JL(N:Nat)(n:Int)(l:bh)(p:l.length<=9223372036854775807):∀(m i:Nat),l.length - i<m->i<=l.length->
 CE N m (n,l,(l.length:Int),(i:Int))=some (if∀e∈l.drop i,l5 n e then .inl ()else .inr 10)
 |0,i,h,_=>absurd h bv
 |m+1,i,s,r=>by
  rw[V6,cd];by_cases q:i<l.length
  .rw[av3 bv]
   obtain⟨x,g⟩:=get_at (xs:=l) (i:=i) q;obtain⟨a,b⟩:=x;rw[ba g,ob,cN g,cd,cd,bW bv,JL N n l p m (i+1) bv bv];simp only;by_cases c:l5 n (a,b)
   .have k:=c.1
    have o:=c.2;simp only at k o;rw[av2 (by split<;>omega),av2 (by split<;>omega)];by_cases d:∀e∈l.drop (i+1),l5 n e
    .rw[av3 d,av3 (ayN.2 ⟨c,d⟩)]
    .rw[av2 d,av2 (λh=>d (ayN.1 h).2)]
   .have:¬((0<=a/\a<n)/\0<=b/\b<n):=c
    rw[av2 (λh=>c (ayN.1 h).1)];by_cases f:(if b<a then b else a)<0
    .rw[av3 f]
    .rw[av2 f]
     by_cases j:n<=(if b>a then b else a)
     .rw[av3 j]
     .exfalso
      refine this ?_;split at f<;>split at j<;>omega
  .rw[av2 bv,awZ bv,av3 d5]
def wV(n:Int)(l:bh):Int:=if n<1\/64<n then 1 else if∀e∈l,l5 n e then 0 else 10
def TJ(g:Fu+1<=a)(n:Int)(l:bh)(h:l.length<=9223372036854775807):Jr a (n,l)=some (wV n l):=by
 obtain⟨M,rfl⟩:=sC a 1;have f:=JL M n l h M 0 (by rw[bJ]at g;omega) bv;rw[ac7,cd,cd,zQ.symm,f,ob,awW];unfold wV;by_cases c:n<1
 .rw[av3 c,av3 (.inl c)]
 .rw[av2 c]
  by_cases d:64<n
  .rw[av3 d,av3 (.inr d)]
  .rw[av2 d,av2 (show¬(n<1\/64<n) by omega)]
   by_cases b:∀e∈l,l5 n e
   .rw[av3 b,av3 b];rfl
   .rw[av2 b,av2 b]
def adw(b:∀v,e v<=v)(v x:Nat):root (cR e v (root e v)) x=root e x:=by
 have g:∀y,cR e v (root e v) y<=y:=λy=>by
  unfold cR;split
  next c=>subst c;exact C3 b _
  .exact b y
 induction x using Nat.strongRecOn with
 |_ x d=>
  rw[iy g x];by_cases c:x=v
  .subst c
   have a:cR e x (root e x) x=root e x:=av3 rfl;rw[a];split
   next c=>exact c.symm
   next c=>have f:=C3 b x;rw[d _ bv,lT b (C2 b x)]
  .have a:cR e v (root e v) x=e x:=av2 c
   rw[a,iy b x];split
   .rfl
   .have f:=b x
    exact d _ bv
def C5(N:Nat)(f:Fu+1<=N){n:Nat}(l:n<=1000){c:Nat->Nat}:∀(m i:Nat) (s:aX),n - i<m->i<=n->MF n s c->(∀j,j<i->par s j=c j)->
 Hy N m ((n:Int),(i:Int),s)=some ((List.range n).map λv=>((c v:Nat):Int))
 |0,i,s,h,_,_,_=>absurd h bv
 |m+1,i,s,B,z,d,g=>by
  rw[adj,cd];by_cases q:i<n
  .rw[av3 bv]
   obtain⟨p,b,a,t⟩:=JI f l q d;rw[b,ob];simp only[a.nth q,ob,av9];rw[bW bv];have o:=a.Wf;have u:c i<=i:=by rw[<-a.cls i q];exact C3 o i
   have r:par (p.set i ((c i:Nat):Int))=cR (par p) i (c i):=C4 (by rw[a.len];exact q);refine C5 N f l m (i+1) _ bv bv (a.set q u λx y=>?_) λj A=>?_
   .rw[<-a.cls i q,adw o,a.cls x y]
   .rw[r]
    unfold cR;split
    next e=>rw[e]
    .exact t j bv (g j bv)
  .rw[av2 bv]
   congr 1;refine axA λj=>?_;rw[awp];by_cases k:j<n
   .obtain⟨w,b,_⟩:=d.at_ j k
    have:=g j bv;unfold par at this;rw[axr,b]at this;simp at this;rw[b,axJ k,this];rfl
   .rw[awO (by have:=d.len;omega),awO d7]
    rfl
def rI(n:Int)(l:bh):aX:=(List.range n.toNat).map λv=>((jH (l.map jd) v:Nat):Int)
def OM(h:∀e∈n,l5 d e):n=(n.map jd).map MG:=by
 rw[axe];exact(ayc n).symm.trans (aw3 λe a=>(am6 (h e a)).symm)
def ti{n:Int}{l:bh}(a:0<=n)(h:∀e∈l,l5 n e):fe n.toNat (l.map jd):=λe b=>by
 obtain⟨x,c,rfl⟩:=awe.1 b;have:=h x c;have e0:((n.toNat:Nat):Int)=n:=azm a;exact l5.nat (by rw[e0];exact this)
def Ad(n:Int)(l:bh):(wV n l=1/\(n<1\/64<n))\/(wV n l=10/\(1<=n/\n<=64)/\¬∀e∈l,l5 n e)\/(wV n l=0/\(1<=n/\n<=64)/\∀e∈l,l5 n e):=by
 unfold wV;by_cases b:n<1\/64<n
 .exact .inl ⟨av3 b,b⟩
 .rw[av2 b]
  by_cases a:∀e∈l,l5 n e
  .exact .inr (.inr ⟨av3 a,bv,a⟩)
  .exact .inr (.inl ⟨av2 a,bv,a⟩)
def JM(g:Fu+5<=a)(n:Int)(l:bh)(i:l.length<=100000):Ts a (n,l)=some (wV n l,if wV n l=0 then rI n l else []):=by
 obtain⟨M,rfl⟩:=sC a 1;rw[ahM,TJ bv n l bv,ob,Mz];rcases Ad n l with⟨h,_⟩|⟨h,_⟩|⟨h,o,d⟩
 .rw[h];rfl
 .rw[h];rfl
 .rw[h,av3 rfl,av3 rfl]
  obtain⟨k,rfl⟩:=nN n;obtain⟨q,e,f⟩:=TH (N:=M) bv (n:=k) bv;obtain⟨m,b,c⟩:=TI (N:=M) bv (n:=k) bv (l:=l.map jd) (by simpa using i) (ti bv d) f;rw[<-OM d]at b;rw[e,ob,b,ob];simp only[c.len];rw[zQ.symm,C5 M bv bv M 0 m (by rw[bJ]at g;omega) bv c (λj p=>by omega)];rfl
def K1:Nat->aX->Nat
 |_,[]=>0
 |i,x::l=>(if x=(i:Int)then 1 else 0)+K1 (i+1) l
def JN(c:Nat->Nat):∀(k i:Nat),K1 i ((List.range' i k).map λv=>((c v:Nat):Int))=((List.range' i k).filter λv=>c v==v).length
 |0,i=>rfl
 |k+1,i=>by
  rw[azD,awo,K1,JN c k (i+1),axa];by_cases q:c i=i
  .rw[av3 bv,av3 (by simpa using q)];simp;omega
  .rw[av2 bv,av2 (by simpa using q)];omega
def TM(n:Int)(l:bh):K1 0 (rI n l)=JF n.toNat (jH (l.map jd)):=by
 unfold rI JF;rw[aAt,JN]
abbrev Tk:=Nat×Nat
def lG:a_->Tk->At a_
 |[],_=>none
 |[u],t=>if t.1=u then(if t.2=u then some [u]else some [t.2,u])else none
 |u::w::r,t=>if t.1=u then(if t.2=u then some (u::w::r)else if t.2=w then some (w::r)else some (t.2::u::w::r))else none
def run:a_->Do Tk->At a_
 |s,[]=>some s
 |s,t::l=>match lG s t with
  |some z=>run z l
  |none=>none
def e_{t:Tk}{l:Do Tk}:run j (t::l)=some k↔∃y,lG j t=some y/\run y l=some k:=by
 rw[run];cases h:lG j t with
 |_=>simp
def lU:∀{l m:Do Tk} {s z:a_},run s (l++m)=some z↔∃y,run s l=some y/\run y m=some z
 |[],m,s,z=>by simp[run]
 |t::l,m,s,z=>by
  rw[axh,e_];constructor
  .rintro⟨y,a,b⟩
   obtain⟨x,c,d⟩:=lU.1 b;exact⟨x,e_.2 ⟨y,a,c⟩,d⟩
  .rintro⟨x,c,d⟩
   obtain⟨y,a,b⟩:=e_.1 c;exact⟨y,a,lU.2 ⟨x,b,d⟩⟩
def jk{t:Tk}(h:lG j t=some k):∃r,j=t.1::r/\((t.2=t.1/\k=j)\/(t.2≠t.1/\∃d,r=t.2::d/\k=r)\/(t.2≠t.1/\r.head?≠some t.2/\k=t.2::j)):=by
 match j with
 |[]=>simp[lG]at h
 |[u]=>
  simp only[lG]at h;split at h
  next b=>
   subst b;refine⟨[],rfl,?_⟩;split at h
   next a=>cases h;exact .inl ⟨a,rfl⟩
   next a=>cases h;exact .inr (.inr ⟨a,d5,rfl⟩)
  .cases h
 |u::w::r=>
  simp only[lG]at h;split at h
  next b=>
   subst b;refine⟨w::r,rfl,?_⟩;split at h
   next a=>cases h;exact .inl ⟨a,rfl⟩
   next a=>
    split at h
    next c=>cases h;exact .inr (.inl ⟨a,r,by rw[c],rfl⟩)
    next c=>cases h;exact .inr (.inr ⟨a,by simpa usingλe=>c e.symm,rfl⟩)
  .cases h
def mE(u:Nat)(r:a_):lG (u::r) (u,u)=some (u::r):=by
 cases r<;>simp[lG]
def tj(h:c≠a)(r:a_):lG (a::c::r) (a,c)=some (c::r):=by
 simp[lG,h]
def mG(h:c≠a)(b:j.head?≠some c):lG (a::j) (a,c)=some (c::a::j):=by
 cases j with
 |nil=>simp[lG,h]
 |cons w j=>simp[lG,h,show¬c=w fromλe=>b (by rw[e];rfl)]
def aaR:∀{l:Do Tk} {s z:a_} {t:Tk},run s (l++[t])=some z->∃r,z=t.2::r:=by
 intro l s z t h;obtain⟨y,j,c⟩:=lU.1 h;obtain⟨x,d,a⟩:=e_.1 c;obtain⟨r,f,g⟩:=jk d;have a:x=z:=by simpa[run]using a
 subst a;rcases g with⟨e,rfl⟩|⟨e,i,b,rfl⟩|⟨e,b,rfl⟩
 .exact⟨r,by rw[e,f]⟩
 .exact⟨i,b⟩
 .exact⟨_,rfl⟩
def oJ{t:Tk}{l:Do Tk}(h:run j (t::l)=some k):j.head?=some t.1:=by
 obtain⟨y,a,c⟩:=e_.1 h;obtain⟨r,b,_⟩:=jk a;rw[b];rfl
def Rb(u v:Nat)(s b:a_):Prop:=(∃a,s=a++[v,u]/\b=a++[v])\/∃a,s=a++[u]/\b=a++[u,v]/\a.getLast?≠some v
def apb{f:Tk}(h:Rb a c j k)(D:lG j f=some t):∃C,lG k f=some C/\Rb a c t C:=by
 obtain⟨E,g⟩:=f;obtain⟨r,l,s⟩:=jk D;simp only at l s;rcases h with⟨d,n,o⟩|⟨d,n,o,B⟩
 .cases d with
  |nil=>
   simp only[awL]at n o;subst n;subst o;simp only[aw7]at l;obtain⟨rfl,rfl⟩:=l;rcases s with⟨rfl,rfl⟩|⟨i,A,m,rfl⟩|⟨i,v,rfl⟩
   .exact⟨[g],mE _ _,.inl ⟨[],rfl,rfl⟩⟩
   .simp only[aw7]at m
    obtain⟨rfl,rfl⟩:=m;exact⟨[a,c],mG i d5,.inr ⟨[],rfl,rfl,d5⟩⟩
   .exact⟨[g,c],mG i d5,.inl ⟨[g],rfl,rfl⟩⟩
  |cons x b=>
   subst n;subst o;simp only[axh,aw7]at l;obtain⟨rfl,rfl⟩:=l;have v:∀y,(b++[c,a]).head?=some y->(b++[c]).head?=some y:=λy h=>by cases b<;>simpa using h
   have w:∀y,(b++[c]).head?=some y->(b++[c,a]).head?=some y:=λy h=>by cases b<;>simpa using h
   rcases s with⟨rfl,rfl⟩|⟨i,A,m,rfl⟩|⟨i,p,rfl⟩
   .exact⟨_,mE _ _,.inl ⟨g::b,rfl,rfl⟩⟩
   .have:(b++[c]).head?=some g:=v _ (by rw[m];rfl)
    obtain⟨q,p⟩:∃q,b++[c]=g::q:=by
     cases u:b++[c]with
     |nil=>simp at u
     |cons y q=>rw[u]at this;simp at this;exact⟨q,by rw[this]⟩
    refine⟨b++[c],?_,.inl ⟨b,rfl,rfl⟩⟩;rw[axh,p];exact tj i _
   .refine⟨g::x::b++[c],mG i λh=>p (w _ h),.inl ⟨g::x::b,rfl,rfl⟩⟩
 .cases d with
  |nil=>
   simp only[awL]at n o;subst n;subst o;simp only[aw7]at l;obtain⟨rfl,rfl⟩:=l;rcases s with⟨rfl,rfl⟩|⟨i,A,m,rfl⟩|⟨i,v,rfl⟩
   .exact⟨[g,c],mE _ _,.inr ⟨[],rfl,rfl,d5⟩⟩
   .cases m
   .by_cases z:g=c
    .subst z
     exact⟨[g],tj i _,.inl ⟨[],rfl,rfl⟩⟩
    .exact⟨[g,a,c],mG i (by simpa usingλe:c=g=>z e.symm),.inr ⟨[g],rfl,rfl,by simpa using z⟩⟩
  |cons x b=>
   subst n;subst o;simp only[axh,aw7]at l;obtain⟨rfl,rfl⟩:=l;have v:∀y,(b++[a]).head?=some y->(b++[a,c]).head?=some y:=λy h=>by cases b<;>simpa using h
   have w:∀y,(b++[a,c]).head?=some y->(b++[a]).head?=some y:=λy h=>by cases b<;>simpa using h
   rcases s with⟨rfl,rfl⟩|⟨i,A,m,rfl⟩|⟨i,p,rfl⟩
   .exact⟨_,mE _ _,.inr ⟨g::b,rfl,rfl,B⟩⟩
   .have:(b++[a,c]).head?=some g:=v _ (by rw[m];rfl)
    obtain⟨q,p⟩:∃q,b++[a,c]=g::q:=by
     cases u:b++[a,c]with
     |nil=>simp at u
     |cons y q=>rw[u]at this;simp at this;exact⟨q,by rw[this]⟩
    refine⟨b++[a,c],?_,.inr ⟨b,rfl,rfl,?_⟩⟩
    .rw[axh,p]
     exact tj i _
    .cases b with
     |nil=>simp
     |cons y b=>rwa[azE]at B
   .refine⟨g::x::b++[a,c],mG i λh=>p (w _ h),.inr ⟨g::x::b,rfl,rfl,by rwa[azE]⟩⟩
def aib{u v:Nat}:∀{l:Do Tk} {s s' z:a_},Rb u v s s'->run s l=some z->∃a,run s' l=some a/\Rb u v z a
 |[],s,s',z,h,b=>⟨s',rfl,by have:s=z:=by simpa[run]using b
                            exact this▸h⟩
 |t::l,s,s',z,h,b=>by
  obtain⟨y,c,d⟩:=e_.1 b;obtain⟨j,e,f⟩:=apb h c;obtain⟨a,g,i⟩:=aib f d;exact⟨a,e_.2 ⟨j,e,g⟩,i⟩
def Clo(l:Do Tk)(r:Nat):Prop:=run [r] l=some [r]
def aid{t:Tk}{l:Do Tk}(h:Clo (t::l) a):t.1=a/\Clo (l++[t]) t.2:=by
 obtain⟨f,c⟩:=t;have m:f=a:=by have:=oJ h;simpa using this.symm
 subst m;refine⟨rfl,?_⟩;obtain⟨y,n,g⟩:=e_.1 h;obtain⟨q,i,j⟩:=jk n;simp only[aw7,true_and]at i j;subst i;rcases j with⟨rfl,rfl⟩|⟨k,B,r,rfl⟩|⟨k,A,rfl⟩
 .exact lU.2 ⟨_,g,by simp[run,lG]⟩
 .cases r
 .obtain⟨w,o,p⟩:=aib (u:=f) (v:=c) (s:=[c,f]) (s':=[c]) (.inl ⟨[],rfl,rfl⟩) g
  refine lU.2 ⟨w,o,?_⟩;rcases p with⟨b,d,e⟩|⟨b,d,e,z⟩
  .have:=awh List.length d
   simp at this
  .cases b with
   |nil=>
    simp only[awL]at e;subst e;refine e_.2 ⟨[c],tj k _,rfl⟩
   |cons x b=>
    have:=awh List.length d;simp at this
def aaS:∀{a b:Do Tk} {r:Nat},Clo (a++b) r->∃c,Clo (b++a) c
 |[],b,r,h=>⟨r,by simpa using h⟩
 |t::a,b,r,h=>by
  obtain⟨f,d⟩:=aid (by simpa using h:Clo (t::(a++b)) r);rw[awx]at d;obtain⟨c,e⟩:=aaS d;exact⟨c,by simpa using e⟩
def ON:a_->Do Tk->a_
 |_,[]=>[]
 |s,t::l=>match lG s t with
  |some z=>if s.length<z.length then t.2::ON z l else ON z l
  |none=>[]
def wW(l:Do Tk):Nat:=(l.filter λt=>t.1 !=t.2).length
def fq(l:Do Tk):a_:=(l.filter λt=>t.1==t.2).map (·.1)
def TN{t:Tk}{l:Do Tk}(h:lG j t=some k):ON j (t::l)=if j.length<k.length then t.2::ON k l else ON k l:=by
 rw[ON,h]
def x5(t:Tk)(l:Do Tk):wW (t::l)=(if t.1=t.2 then 0 else 1)+wW l:=by
 unfold wW;by_cases h:t.1=t.2
 .simp[axa,h]
 .simp[axa,h];omega
def TO(l m:Do Tk):wW (l++m)=wW l+wW m:=by simp[wW]
def OO:∀{l:Do Tk} {s z:a_},run s l=some z->2*(ON s l).length+s.length=wW l+z.length
 |[],s,z,h=>by
  have:s=z:=by simpa[run]using h
  subst this;simp[ON,wW]
 |t::l,s,z,h=>by
  obtain⟨y,b,d⟩:=e_.1 h;have g:=OO d;obtain⟨r,c,f⟩:=jk b;rw[TN b,x5];rcases f with⟨e,rfl⟩|⟨a,k,j,rfl⟩|⟨a,i,rfl⟩
  .rw[av2 (aze _),av3 e.symm];omega
  .rw[av2 (by rw[c];simp),av2 (λe=>a e.symm)]
   have:s.length=y.length+1:=by rw[c];rfl
   omega
  .rw[av3 d5,av2 (λe=>a e.symm)]
   simp at g⊢;omega
def OP:∀{l:Do Tk} {s z:a_},run s l=some z->∀t∈l,t.1∈s\/t.1∈ON s l
 |[],s,z,h,t,b=>by cases b
 |x::l,s,z,h,t,b=>by
  obtain⟨y,d,f⟩:=e_.1 h;obtain⟨r,c,g⟩:=jk d;rw[TN d];rcases awr.1 b with rfl|b
  .exact .inl (by rw[c];simp)
  .have a:=OP f t b
   rcases g with⟨e,rfl⟩|⟨i,m,k,rfl⟩|⟨i,j,rfl⟩
   .rw[av2 (aze _)];exact a
   .rw[av2 (by rw[c];simp)]
    rcases a with a|a
    .exact .inl (by rw[c];exact aw5 _ a)
    .exact .inr a
   .rw[av3 d5]
    rcases a with a|a
    .rcases awr.1 a with a|a
     .exact .inr (by rw[a];simp)
     .exact .inl a
    .exact .inr (aw5 _ a)
def pF{α:Type} [BEq α] [LawfulBEq α]:∀{A B:Do α},A.Nodup->(∀x∈A,x∈B)->B.length<=A.length->B.Perm A
 |[],B,_,_,b=>by
  have:B=[]:=aw6 (by simpa using b);subst this;exact azF _
 |a::A,B,j,f,b=>by
  have h:a∈B:=f a d5;have c:=aA2 h;have d:=axc.1 j;have i:=c.length_eq;have l:(B.erase a).Perm A:=pF d.2 (λx g=>by
   have k:=f x (by simp[g]);have:=c.mem_iff.1 k;rcases awr.1 this with e|e
   .exact absurd (e▸g) d.1
   .exact e) (by simp at b i;omega)
  exact c.trans (l.cons a)
def x6{l:Do Tk}:a∈fq l↔(a,a)∈l:=by
 unfold fq;simp only[awe,axp,ayX];constructor
 .rintro⟨⟨c,b⟩,⟨f,d⟩,e⟩
  simp only at d e;subst d;subst e;exact f
 .exactλh=>⟨(a,a),⟨h,rfl⟩,rfl⟩
def ko(t:Tk)(l:Do Tk):fq (t::l)=if t.1=t.2 then t.1::fq l else fq l:=by
 unfold fq;by_cases h:t.1=t.2
 .simp[axa,h]
 .simp[axa,h]
def OQ(l m:Do Tk):fq (l++m)=fq l++fq m:=by simp[fq]
def mH:∀{l:Do Tk},l.Nodup->(fq l).Nodup
 |[],_=>by simp[fq]
 |t::l,h=>by
  have c:=axc.1 h;rw[ko];split
  next e=>refine axc.2 ⟨λd=>c.1 ?_,mH c.2⟩;have:=x6.1 d;obtain⟨a,b⟩:=t;simp only at e this;rw[e]at this;rw[e];exact this
  .exact mH c.2
structure GB(l:List Tk):Prop where
 nod:l.Nodup
 jH:∃r,Clo l r
 own:∀t∈l,(t.1,t.1)∈l
 num:wW l+2=2*(fq l).length
def GB.perm{l m:Do Tk}(h:GB l)(a:l.Perm m)(c:∃r,Clo m r):GB m:=by
 have e:(fq l).length=(fq m).length:=((a.filter _).map _).length_eq;have b:wW l=wW m:=(a.filter _).length_eq;exact⟨a.nodup_iff.1 h.nod,c,λt d=>a.mem_iff.1 (h.own t (a.mem_iff.2 d)),by rw[<-b,<-e];exact h.num⟩
def GB.GA{a b:Do Tk}(h:GB (a++b)):GB (b++a):=by
 obtain⟨r,c⟩:=h.jH;exact h.perm azb (aaS c)
def GB.ne{l:Do Tk}(h:GB l):l≠[]:=λe=>by
 have:=h.num;subst e;simp[wW,fq]at this
def GB.asg{l:Do Tk}(h:GB l)(c:Clo l a):(a::ON [a] l).Perm (fq l):=by
 have d:=OO c;have:=h.num;refine pF (mH h.nod) (λx b=>?_) (by simp at d⊢;omega);have b:=x6.1 b;rcases OP c _ b with e|e
 .simp at e;simp[e]
 .exact aw5 _ e
def GB.once{l:Do Tk}(h:GB l)(b:Clo l a):(a::ON [a] l).Nodup:=(h.asg b).nodup_iff.2 (mH h.nod)
def JO{l:Do Tk}(c:l.Nodup):(run [a] l=some [a]/\(a::ON [a] l).Nodup/\(fq l).length=(ON [a] l).length+1)↔(GB l/\Clo l a):=by
 constructor
 .rintro⟨b,j,d⟩
  have f:(a::ON [a] l).Perm (fq l):=pF (mH c) (λx i=>by
   rcases OP b _ (x6.1 i)with e|e
   .simp at e;simp[e]
   .exact aw5 _ e) (by simp[d])
  refine⟨⟨c,⟨a,b⟩,λt g=>?_,?_⟩,b⟩
  .refine x6.1 (f.mem_iff.1 ?_)
   rcases OP b _ g with e|e
   .simp at e;simp[e]
   .exact aw5 _ e
  .have:=OO b
   simp at this;omega
 .rintro⟨h,b⟩
  exact⟨b,h.once b,by have:=(h.asg b).length_eq;simpa using this.symm⟩
def GB.apd{l:Do Tk}(h:GB l){t:Tk}(o:t∈l):(t.2,t.2)∈l:=by
 obtain⟨a,b,rfl⟩:=List.append_of_mem o;have i:GB (t::b++a):=h.GA;have g:GB ((b++a)++[t]):=by
  have:=(show GB ([t]++(b++a))from by simpa using i).GA;exact this
 obtain⟨r,d⟩:=g.jH;obtain⟨q,e⟩:=aaR d;have n:r=t.2:=(aAu e).1;subst n;have j:∃x m,(b++a)++[t]=x::m:=by
  cases k:(b++a)++[t]with
  |nil=>simp at k
  |cons x m=>exact⟨x,m,rfl⟩
 obtain⟨x,m,f⟩:=j;rw[f]at d;have p:x.1=t.2:=by have:=oJ d;simpa using this.symm
 have c:=g.own x (by rw[f];simp);rw[p]at c;simp only[awc,awr,aAv,or_false]at c⊢;rcases c with(c|c)|c
 .exact .inr (.inr c)
 .exact .inl c
 .exact .inr (.inl c)
def aie{a:Tk}{w:Nat}(f:a.2≠w)(h:lG j a=some k):lG (j++w::t) a=some (k++w::t):=by
 obtain⟨m,n⟩:=a;obtain⟨r,c,d⟩:=jk h;simp only at c d f;subst c;rcases d with⟨rfl,rfl⟩|⟨b,l,i,rfl⟩|⟨b,g,rfl⟩
 .exact mE _ _
 .subst i
  exact tj b _
 .refine mG b ?_
  cases r with
  |nil=>simpa usingλe=>f e.symm
  |cons x r=>simpa using g
def run_lift{b:a_}{w:Nat}:∀{l:Do Tk} {s z:a_},(∀t∈l,t.2≠w)->run s l=some z->run (s++w::b) l=some (z++w::b)
 |[],s,z,_,h=>by
  have:s=z:=by simpa[run]using h
  subst this;rfl
 |t::l,s,z,a,h=>by
  obtain⟨y,c,d⟩:=e_.1 h;exact e_.2 ⟨_,aie (a t d5) c,run_lift (λx e=>a x (by simp[e])) d⟩
def GB.link{d b:Do Tk}(i:GB ((a,a)::d))(g:GB ((c,c)::b))(j:∀x,(x,x)∈(a,a)::d->(x,x)∉(c,c)::b):GB ((a,a)::(a,c)::((c,c)::b++(c,a)::d)):=by
 have k:a≠c:=λe=>by subst e;exact j a d5 d5
 obtain⟨r,p⟩:=i.jH;have:r=a:=by have:=oJ p;simpa using this
 subst this;obtain⟨f,q⟩:=g.jH;have:f=c:=by have:=oJ q;simpa using this
 subst this;have w:∀t∈(f,f)::b,t.2≠r:=λt o e=>j r d5 (by have:=g.apd o;rwa[e]at this);have v:∀t,t∈(r,r)::d->t∉(f,f)::b:=λt l n=>j _ (i.own t l) (g.own t n);have B:(r,f)∉(r,r)::d:=λh=>j _ (i.apd h) d5;have E:(f,r)∉(r,r)::d:=λh=>j _ (i.own _ h) d5;have C:(r,f)∉(f,f)::b:=λh=>j _ d5 (g.own _ h);have F:(f,r)∉(f,f)::b:=λh=>j _ d5 (g.apd h);have m:((r,r)::(r,f)::((f,f)::b++(f,r)::d)).Perm ((r,f)::(f,r)::((r,r)::d++(f,f)::b)):=by
  refine(List.Perm.swap (r,f) (r,r) _).trans (List.Perm.cons _ ?_);have l:((f,f)::b++(f,r)::d).Perm ((f,r)::(d++(f,f)::b)):=by
   have:= @azb _ ((f,f)::b) ((f,r)::d);simpa using this
  exact(l.cons (r,r)).trans (List.Perm.swap _ _ _)
 have A:((r,f)::(f,r)::((r,r)::d++(f,f)::b)).Nodup:=by
  refine axc.2 ⟨λh=>?_,axc.2 ⟨λh=>?_,awR.2 ⟨i.nod,g.nod,λx G y H e=>v x G (e▸H)⟩⟩⟩
  .rcases awr.1 h with h|h
   .simp at h;exact k h.1
   .rcases awc.1 h with h|h
    .exact B h
    .exact C h
  .rcases awc.1 h with h|h
   .exact E h
   .exact F h
 refine⟨m.nodup_iff.2 A,⟨r,?_⟩,λt o=>?_,?_⟩
 .refine e_.2 ⟨[r],mE _ _,e_.2 ⟨[f,r],mG (λe=>k e.symm) d5,?_⟩⟩
  refine lU.2 ⟨[f,r],?_,e_.2 ⟨[r],tj k _,?_⟩⟩
  .exact run_lift (s:=[f]) (z:=[f]) (b:=[]) w q
  .obtain⟨y,l,n⟩:=e_.1 p
   obtain rfl:=av_ ((mE _ _:lG [r] (r,r)=_).symm.trans l);exact n
 .have:=m.mem_iff.1 o
  refine m.mem_iff.2 ?_;refine aw5 _ (aw5 _ ?_);rcases awr.1 this with rfl|h
  .exact az4 _ d5
  rcases awr.1 h with rfl|h
  .exact az5 _ d5
  rcases awc.1 h with h|h
  .exact az4 _ (i.own t h)
  .exact az5 _ (g.own t h)
 .have D:(fq ((r,r)::(r,f)::((f,f)::b++(f,r)::d))).length=(fq ((r,f)::(f,r)::((r,r)::d++(f,f)::b))).length:=((m.filter _).map _).length_eq
  have u:wW ((r,r)::(r,f)::((f,f)::b++(f,r)::d))=wW ((r,f)::(f,r)::((r,r)::d++(f,f)::b)):=(m.filter _).length_eq;rw[D,u];have l:=i.num;have n:=g.num;rw[x5,x5,ko,ko,av2 k,av2 k,av2 (λe:f=r=>k e.symm),av2 (λe:f=r=>k e.symm),TO,OQ,awl];omega
def JP:∀l:Do Tk,wW l+(fq l).length=l.length
 |[]=>rfl
 |t::l=>by
  have:=JP l;rw[x5,ko];split<;>simp<;>omega
def GB.len{l:Do Tk}(h:GB l):l.length+2=3*(fq l).length:=by
 have:=h.num;have:=JP l;omega
def dk(n:Nat)(t:Int):At Tk:=
 if 0<=t/\t<n then some (t.toNat,t.toNat)
 else if(n:Int)<=t/\t.toNat<n*(n+1)then(if t.toNat/n - 1=t.toNat % n then none else some (t.toNat/n - 1,t.toNat % n))
 else none
def ek(n:Nat)(e:Tk):Int:=if e.1=e.2 then(e.1:Int)else((n*(e.1+1)+e.2:Nat):Int)
def x7{e:Tk}(h:dk a d=some e):ek a e=d/\e.1<a/\e.2<a:=by
 unfold dk at h;split at h
 next c=>cases h;refine⟨?_,bv,bv⟩;unfold ek;rw[av3 rfl];omega
 .split at h
  next g c=>
   split at h
   .cases h
   next f=>
    cases h;have b:0<a:=by
     rcases ayu a with e|e
     .subst e;simp at c
     .exact e
    have i:d.toNat/a<a+1:=aA3 c.2;have j:1<=d.toNat/a:=(azG b).2 bv;refine⟨?_,by simp only;omega,ayE _ b⟩;unfold ek;rw[av2 f];simp only;rw[show d.toNat/a - 1+1=d.toNat/a by omega,Nat.div_add_mod];omega
  .cases h
def aif{n:Nat}{e:Tk}(f:e.1<n)(a:e.2<n):dk n (ek n e)=some e:=by
 obtain⟨u,v⟩:=e;simp only at f a;unfold ek dk;by_cases c:u=v
 .subst c
  simp only[awG];rw[av3 bv];simp
 .simp only[c,aw1]
  have h:n*1<=n*(u+1):=axZ n bv;have g:n*(u+1)+v<n*(n+1):=by
   have:n*(u+1)+n<=n*(n+1):=by
    have:=axZ n (show u+1+1<=n+1 by omega);rw[Nat.mul_add n (u+1) 1,axy]at this;exact this
   omega
  rw[av2 bv,av3 ⟨bv,by rw[av9];exact g⟩];have b:(n*(u+1)+v)/n=u+1:=by
   rw[Nat.mul_add_div bv,aAo a]
  have d:(n*(u+1)+v) % n=v:=by
   rw[Nat.mul_add_mod,ayq a]
  rw[av9,b,d,av2 bv];simp
def ape{e:Tk}(h:dk a d=some e)(k:dk a A=some e):d=A:=(x7 h).1.symm.trans (x7 k).1
def HB(h:dk a d=some (c,c)):d=(c:Int)/\c<a:=by
 have:=x7 h;unfold ek at this;simp only[awG]at this;exact⟨this.1.symm,this.2.1⟩
def je(h:c<a):dk a (c:Int)=some (c,c):=by
 have:=aif (e:=(c,c)) h h;unfold ek at this;simpa using this
def TP(n:Nat)(t:Int):Int×Int×In×In:=match dk n t with
 |none=>(0,0,false,false)
 |some (u,v)=>if u=v then((u:Int),0,false,true)else((u:Int),(v:Int),true,true)
def auB(h:a<=64):a*(a+1)<=4160:=awH (axC h (show a+1<=65 by omega)) d6
def C6(b:1<=a)(n:Int):z6 a n=some (decide (1<=n/\n<=64)):=by
 obtain⟨a,rfl⟩:=sC a 1;rw[acm,cd];by_cases c:1<=n<;>simp[c]
def TQ(d:2<=a)(n v:Int):qG a (n,v)=some (decide ((1<=n/\n<=64)/\0<=v/\v<n)):=by
 obtain⟨a,rfl⟩:=sC a 1;rw[acp,C6 bv,ob];by_cases c:1<=n/\n<=64
 .simp only[c,and_self,axk,awv,cd,true_and]
  by_cases b:0<=v<;>simp[b]
 .simp[c]
def aih(n:2<=a)(i:1<=c)(g:c<=64)(t:Int):NZ a ((c:Int),t)=some (TP c t):=by
 obtain⟨a,rfl⟩:=sC a 1;have p:=auB g;have h:wZ ((c:Int)*(wZ ((c:Int)+(1:Int))))=((c*(c+1):Nat):Int):=by
  rw[gw (x:=(c:Int)+1) bv bv,show(c:Int)*((c:Int)+1)=((c*(c+1):Nat):Int) by rw[ax1,Int.natCast_add];rfl,gw bv bv]
 rw[acq,C6 bv,ob,h];rw[awu (show(1:Int)<=(c:Int)/\(c:Int)<=64 by omega)];simp only[awj,av8,cd];unfold TP dk;by_cases d:t<0
 .rw[av3 d,av2 bv,av2 bv]
 rw[av2 d];by_cases e:((c*(c+1):Nat):Int)<=t
 .have o:c*1<=c*(c+1):=axZ c bv
  rw[av3 e,av2 bv,av2 bv]
 rw[av2 e];by_cases f:t<c
 .rw[av3 f,av3 bv]
  simp;omega
 rw[av2 f,av2 bv,av3 bv];obtain⟨k,rfl⟩:=nN t;rw[OG bv,ob,Wb bv,ob,wP,JC,av9];have j:k/c<c+1:=aA3 bv;have l:1<=k/c:=(azG bv).2 bv;have m:k % c<c:=ayE _ bv;rw[gw (x:=((k/c:Nat):Int)) bv bv,gw (x:=((k/c:Nat):Int) - 1) bv bv];by_cases b:k/c - 1=k % c
 .rw[av3 bv,av3 b]
 .rw[av2 bv,av2 b]
  simp only[b,aw1];congr 2;omega
def gs:a_->a_->Do Tk->At (a_×a_)
 |s,c,[]=>some (s,c)
 |s,c,t::l=>match lG s t with
  |none=>none
  |some z=>if s.length<z.length then(if t.2∈c then none else gs z (c++[t.2]) l)else gs z c l
def OS:∀{l:Do Tk} {s c z d:a_},c.Nodup->(gs s c l=some (z,d)↔run s l=some z/\d=c++ON s l/\(c++ON s l).Nodup)
 |[],s,c,z,d,f=>by
  simp only[gs,run,ON,awN,av6,awn];constructor
  .rintro⟨rfl,rfl⟩;exact⟨rfl,rfl,f⟩
  .rintro⟨rfl,rfl,_⟩;exact⟨rfl,rfl⟩
 |t::l,s,c,z,d,f=>by
  rw[gs,run,ON];cases n:lG s t with
  |none=>simp
  |some y=>
   simp only;by_cases g:s.length<y.length
   .rw[av3 g,av3 g]
    by_cases i:t.2∈c
    .rw[av3 i]
     constructor
     .intro h;cases h
     .rintro⟨_,_,h⟩
      exact absurd rfl ((awR.1 h).2.2 t.2 i t.2 d5)
    .rw[av2 i]
     have m:(c++[t.2]).Nodup:=awR.2 ⟨f,d5,λa k b j e=>i (by simp at j;rw[<-j,<-e];exact k)⟩;rw[OS m];simp only[awx,axn]
   .rw[av2 g,av2 g]
    exact OS f
def nt(n:Nat)(l:aX):Prop:=∃T,l.map (dk n)=T.map some/\GB T
def C7{α:Type}:∀{a b:Do α},a.map some=b.map some->a=b
 |[],[],_=>rfl
 |[],_::_,h=>by simp at h
 |_::_,[],h=>by simp at h
 |x::a,y::b,h=>by
  simp only[awo,aw7,av6]at h;rw[h.1,C7 h.2]
def F3{T S:Do Tk}(h:b.map (dk a)=T.map some)(k:b.map (dk a)=S.map some):T=S:=by
 have:T.map some=S.map some:=h.symm.trans k;exact C7 this
def JQ{n:Nat}:∀{l:aX} {T:Do Tk},l.map (dk n)=T.map some->(l.Nodup↔T.Nodup)
 |[],T,h=>by cases T<;>simp at h⊢
 |x::l,[],h=>by simp at h
 |x::l,t::T,h=>by
  simp only[awo,aw7]at h;have e:=JQ h.2;have a:x∈l↔t∈T:=by
   constructor
   .intro c
    have:dk n x∈T.map some:=by rw[<-h.2];exact awe.2 ⟨x,c,rfl⟩
    rw[h.1]at this;simpa using this
   .intro b
    have:some t∈l.map (dk n):=by rw[h.2];exact awe.2 ⟨t,b,rfl⟩
    obtain⟨y,f,d⟩:=awe.1 this;rwa[ape h.1 d]
  rw[axc,axc,e,a]
structure Cm(c:a_)(m:bh):Prop where
 at_:∀v:Nat,(bN (.i .i64) m (v:Int)).getD 0=if v∈c then 1 else 0
 len:m.length=c.length
 pos:∀v x,bN (.i .i64) m v=some x->x=1
def Cm.push{c:a_}{m:bh}(h:Cm c m){v:Nat}(i:v∉c):Cm (c++[v]) (d_ (.i .i64) m (v:Int) 1):=by
 have b:=h.at_ v;rw[av2 i]at b;have g:bN (.i .i64) m (v:Int)=none:=by
  cases d:bN (.i .i64) m (v:Int)with
  |none=>rfl
  |some x=>
   have:=h.pos _ _ d;rw[d,this]at b;simp at b
 refine⟨λw=>?_,?_,λw x a=>?_⟩
 .rw[pA]
  by_cases e:v=w
  .subst e;simp
  .rw[av2 bv,h.at_ w]
   have:(w∈c++[v])↔w∈c:=by simp only[awc,awq];exact⟨λh=>h.resolve_right λf=>e f.symm,.inl⟩
   simp only[this]
 .rw[CY,g,h.len];simp
 .rw[pA]at a
  split at a
  .exact(av_ a).symm
  .exact h.pos _ _ a
structure Me(ms:a_)(m:bh):Prop where
 mem:∀v:Nat,(bN (.i .i64) m (v:Int)).isSome=decide (v∈ms)
 len:m.length=ms.length
def Me.push{m:bh}(h:Me j m){v:Nat}(b:v∉j)(x:Int):Me (j++[v]) (d_ (.i .i64) m (v:Int) x):=by
 refine⟨λw=>?_,?_⟩
 .rw[pA]
  by_cases e:v=w
  .subst e;simp
  .rw[av2 bv,h.mem w]
   have:(w∈j++[v])↔w∈j:=by simp only[awc,awq];exact⟨λh=>h.resolve_right λa=>e a.symm,.inl⟩
   simp only[this]
 .rw[CY,h.mem v,h.len];simp[b]
def lC(s:a_):aX:=s.reverse.map λv:Nat=>(v:Int)
def rJ(s:a_):(lC s).length=s.length:=by simp[lC]
def TS(x:Nat)(r:a_):(lC (x::r))[r.length]? =some (x:Int):=by
 simp[lC,awQ]
def aii(x y:Nat)(r:a_):(lC (x::y::r))[r.length]? =some (y:Int):=by
 simp[lC,awQ]
def MH(x:Nat)(s:a_):lC (x::s)=lC s++[(x:Int)]:=by simp[lC]
def aij(w:1<=a){b d:bh}(v:j.length<=100000)(n:c≠m)(t:Cm k b):
 Yi a ((c:Int),(m:Int),lC (C::j),b,d)=some (match lG (C::j) (c,m)with
  |none=>(false,b,d,lC (C::j))
  |some z=>if(C::j).length<z.length then(if m∈k then(false,b,d,lC (C::j))else(true,d_ (.i .i64) b (m:Int) 1,d,lC z))else(true,b,d,lC z)):=by
 obtain⟨a,rfl⟩:=sC a 1;have q:wZ ((((lC (C::j)).length:Nat):Int) - (1:Int))=(j.length:Int):=by
  rw[rJ,aws,gw bv bv];omega
 have u:=t.at_ m;rw[af2,q];simp only[ba (TS C j),ob,Mz,cd];by_cases g:C=c
 rotate_left
 .rw[av2 bv]
  have:lG (C::j) (c,m)=none:=by
   cases j with
   |_=>simp[lG,show¬c=C fromλe=>g e.symm]
  rw[this]
 subst g;rw[av3 rfl,u];have l:∀h:j.head?≠some m,(if(0:Int)<(if m∈k then 1 else 0)then some (false,b,d,lC (C::j))else
  aW (eG (8:Nat) (lC (C::j)) [(m:Int)]) λz=>some (true,d_ (.i .i64) b (m:Int) (wZ ((if m∈k then 1 else 0)+(1:Int))),d,z))=
  some (match lG (C::j) (C,m)with
  |none=>(false,b,d,lC (C::j))
  |some z=>if(C::j).length<z.length then(if m∈k then(false,b,d,lC (C::j))else(true,d_ (.i .i64) b (m:Int) 1,d,lC z))else(true,b,d,lC z)):=λh=>by
  rw[mG (λe=>n e.symm) h];have f:(C::j).length<(m::C::j).length:=d5
  by_cases o:m∈k
  .simp only[av3 o,av3 f,av3 (show(0:Int)<1 by decide)]
  .simp only[av2 o,av3 f,av2 (show¬(0:Int)<0 by decide)]
   rw[cj bv (by rw[rJ];simp;omega),ob,MH m];rfl
 cases j with
 |nil=>
  rw[av2 d5];exact l d5
 |cons y j=>
  rw[av3 (by simp only[aws];omega)];have r:wZ ((((y::j).length:Nat):Int) - (1:Int))=(j.length:Int):=by
   rw[aws,gw bv (by simp at v;omega)];omega
  rw[r];simp only[ba (aii C y j),ob];by_cases p:y=m
  .subst p
   have f:¬(C::y::j).length<(y::j).length:=d5
   have s:kj (lC (C::y::j)) (0:Int) (((y::j).length:Nat):Int)=some (lC (y::j)):=by
    rw[wN bv (by rw[rJ];simp only[aws];omega),av9,MH C];exact awh some (ayU (l₁:=lC (y::j)) (l₂:=[(C:Int)]) (i:=(y::j).length) (rJ _))
   rw[av3 rfl,s,ob];simp only[tj (λe:y=C=>n e.symm),av2 f]
  .rw[av2 bv]
   exact l (by simpa usingλe=>p e)
def C8{t:Tk}{T:Do Tk}(h:lG j t=none):gs j k (t::T)=none:=by rw[gs,h]
def JR{a:Tk}{T:Do Tk}(h:lG j a=some t)(b:¬j.length<t.length):gs j k (a::T)=gs t k T:=by
 rw[gs,h];exact av2 b
def Wg{a:Tk}{T:Do Tk}(h:lG j a=some t)(b:j.length<t.length)(c:a.2∈k):gs j k (a::T)=none:=by
 rw[gs,h];simp only;rw[av3 b,av3 c]
def TT{a:Tk}{T:Do Tk}(h:lG j a=some t)(b:j.length<t.length)(c:a.2∉k):gs j k (a::T)=gs t (k++[a.2]) T:=by
 rw[gs,h];simp only;rw[av3 b,av2 c]
def aaT{t:Tk}(h:lG j t=some k):k.length<=j.length+1/\k≠[]:=by
 obtain⟨r,a,b⟩:=jk h;rcases b with⟨_,rfl⟩|⟨_,d,c,rfl⟩|⟨_,_,rfl⟩
 .exact⟨bv,by rw[a];simp⟩
 .exact⟨by rw[a];simp;omega,by rw[c];simp⟩
 .exact⟨d5,d5⟩
abbrev HD(n:Nat)(l:aX)(i:Nat)(s c e:a_)(o:(aX×bh×bh)⊕In):Prop:=
 (o=.inr false/\∀T z a,(l.drop i).map (dk n)=T.map some->gs s c T≠some (z,a))\/
  ∃T z a b d,(l.drop i).map (dk n)=T.map some/\gs s c T=some (z,a)/\o=.inl (lC z,b,d)/\Cm a b/\Me (e++fq T) d
def tl{s f n q j p:a_}{e:Tk}{o:(aX×bh×bh)⊕In}(m:b[c]? =some d)(k:dk a d=some e)
 (l:∀T,gs s f (e::T)=gs q j T) (A:∀T,n++fq (e::T)=p++fq T) (h:HD a b (c+1) q j p o):HD a b c s f n o:=by
 rcases h with⟨rfl,h⟩|⟨T,z,i,r,B,t,u,v,w,y⟩
 .refine .inl ⟨rfl,λT z i g=>?_⟩
  rw[cN m,awo,k]at g;cases T with
  |nil=>simp at g
  |cons x T=>
   simp only[awo,aw7,av6]at g;rw[<-g.1,l];exact h T z i g.2
 .refine .inr ⟨e::T,z,i,r,B,?_,by rw[l];exact u,v,w,by rw[A];exact y⟩
  rw[cN m,awo,k,t];rfl
def tp{e:Tk}(l:b[c]? =some d)(g:dk a d=some e)(i:∀T,gs j k (e::T)=none):HD a b c j k t (.inr false):=by
 refine .inl ⟨rfl,λT z m f=>?_⟩;rw[cN l,awo,g]at f;cases T with
 |nil=>simp at f
 |cons x T=>
  simp only[awo,aw7,av6]at f;rw[<-f.1,i];intro h;cases h
def x8(N:Nat)(L:Fu+3<=N){n:Nat}(F:1<=n)(G:n<=64){l:aX}(O:l.length<=1000):∀(m i:Nat) (s c f:a_) (j k:bh),l.length - i<m->i<=l.length->s≠[]->s.length<=i+1->Cm c j->Me f k->(f.map (λv:Nat=>(v:Int))++l.drop i).Nodup->
 ∃o,i_ N m ((n:Int),l,(l.length:Int),(i:Int),lC s,j,k)=some o/\HD n l i s c f o
 |0,i,s,c,f,j,k,h,_,_,_,_,_,_=>absurd h bv
 |m+1,i,s,c,f,j,k,hm,hi,hs,R,w,H,I=>by
  rw[VX,cd];by_cases q:i<l.length
  rotate_left
  .rw[av2 bv]
   have d:l.drop i=[]:=awZ bv;exact⟨_,rfl,.inr ⟨[],s,c,j,k,by rw[d];rfl,rfl,rfl,w,by simpa[fq]using H⟩⟩
  rw[av3 bv];obtain⟨t,g⟩:=get_at (xs:=l) (i:=i) q;rw[ba g,ob,aih bv F G,ob,bW bv];obtain⟨x,r,rfl⟩:∃x r,s=x::r:=by
   cases s with
   |nil=>exact absurd rfl hs
   |cons x r=>exact⟨x,r,rfl⟩
  rw[cN g]at I;cases d:dk n t with
  |none=>
   have D:TP n t=(0,0,false,false):=by unfold TP;rw[d]
   rw[D];refine⟨_,rfl,.inl ⟨rfl,λT z c2 M=>?_⟩⟩;rw[cN g,awo,d]at M;cases T with
   |_=>simp at M
  |some e=>
   obtain⟨u,v⟩:=e;by_cases J:u=v
   .subst J
    have D:TP n t=((u:Int),0,false,true):=by unfold TP;rw[d];simp
    obtain⟨S,a0⟩:=HB d;rw[D];simp only[awj,axg,av8,awv];have W:wZ ((((lC (x::r)).length:Nat):Int) - (1:Int))=(r.length:Int):=by
     rw[rJ,aws,gw bv (by simp only[aws]at R;omega)];omega
    rw[W];simp only[ba (TS x r),ob,Mz];by_cases P:x=u
    .subst P
     rw[av3 rfl];have Z:x∉f:=λhx=>(awR.1 I).2.2 (x:Int) (awe.2 ⟨x,hx,rfl⟩) t d5 S.symm;obtain⟨o,A,B⟩:=x8 N L F G O m (i+1) (x::r) c (f++[x]) j _ bv bv d5 bv w (H.push Z _) (by
      rw[awQ,awx];simp only[awo,axd,axn];rw[<-S];exact I)
     refine⟨o,A,tl g d (λT=>JR (mE _ _) (aze _)) (λT=>?_) B⟩;rw[ko,av3 rfl,awx];rfl
    .rw[av2 bv]
     refine⟨_,rfl,tp g d λT=>C8 ?_⟩;cases r with
     |_=>simp[lG,show¬u=x fromλe=>P e.symm]
   .have D:TP n t=((u:Int),(v:Int),true,true):=by unfold TP;rw[d];simp[J]
    rw[D];simp only[awj,axg,av8,awv];rw[aij bv (by simp only[aws]at R;omega) J w,ob];have Q:(f.map (λv:Nat=>(v:Int))++l.drop (i+1)).Nodup:=by
     have K:=awR.1 I;exact awR.2 ⟨K.1,(axc.1 K.2.1).2,λa X b Y=>K.2.2 a X b (by simp[Y])⟩
    have U:∀T,f++fq ((u,v)::T)=f++fq T:=λT=>by rw[ko,av2 J]
    cases C:lG (x::r) (u,v)with
    |none=>exact⟨_,rfl,tp g d λT=>C8 C⟩
    |some z=>
     have V:=aaT C;by_cases p:(x::r).length<z.length
     .by_cases E:v∈c
      .simp only[av3 p,av3 E]
       exact⟨_,rfl,tp g d λT=>Wg C p E⟩
      .simp only[av3 p,av2 E,awj,axg,av8]
       obtain⟨o,A,B⟩:=x8 N L F G O m (i+1) z (c++[v]) f _ k bv bv V.2 bv (w.push E) H Q;exact⟨o,A,tl g d (λT=>TT C p E) U B⟩
     .simp only[av2 p,awj,axg,av8]
      obtain⟨o,A,B⟩:=x8 N L F G O m (i+1) z c f j k bv bv V.2 bv w H Q;exact⟨o,A,tl g d (λT=>JR C p) U B⟩
def alu{N:Nat}(Y:Fu+5<=N)(R:1<=a)(U:a<=64)(hl:b.length<=1000)(K:b.Nodup)(B:b=d::o):
 ∃f,N0 N ((a:Int),b)=some f/\(f=true↔(0<=d/\d<a)/\nt a b):=by
 obtain⟨N,rfl⟩:=sC N 1;have a7:b[0]? =some d:=by rw[B];rfl
 have a5:aZ b (0:Int)=some d:=ba (i:=0) a7;rw[acr];simp only[a5,ob];rw[TQ bv,ob,Mz];by_cases c:0<=d/\d<a
 rotate_left
 .rw[av2 bv]
  exact⟨false,rfl,by simp[c]⟩
 rw[av3 ⟨bv,c⟩];obtain⟨u,rfl⟩:=nN d;have E:u<a:=bv
 have a0:Cm [u] (d_ (.i .i64) [] (u:Int) 1):=by
  have:=Cm.push (c:=[]) (m:=[]) ⟨λv=>by simp[bN],rfl,λv d h=>by simp[bN]at h⟩ (v:=u) d5;simpa using this
 obtain⟨j,M,a6⟩:=x8 N bv R U hl N 0 [u] [u] [] _ [] (by rw[bJ]at Y;omega) bv d5 d5 a0 ⟨λv=>by simp[bN],rfl⟩ (by simpa using K);have hw:lC [u]=[(u:Int)]:=rfl;rw[hw,zQ]at M;rw[M,ob];rcases a6 with⟨rfl,L⟩|⟨T,z,P,Q,a9,k,hg,rfl,a2,a4⟩
 .refine⟨false,rfl,?_⟩
  simp only[axE,ayJ,not_and];rintro _ ⟨T,k,l⟩;rw[awW]at L;have q:T≠[]:=l.ne;have J:T.head?=some (u,u):=by
   rw[B]at k;cases T with
   |nil=>exact absurd rfl q
   |cons t T=>
    simp only[awo,aw7,je E,av6]at k;rw[<-k.1];rfl
  obtain⟨r,p⟩:=l.jH;have A:r=u:=by
   cases T with
   |nil=>exact absurd rfl q
   |cons t T=>
    have:=oJ p;simp at J this;rw[J]at this;exact this
  subst A;have:=((JO l.nod).2 ⟨l,p⟩);exact L T [r] ([r]++ON [r] T) k ((OS d5).2 ⟨this.1,rfl,this.2.1⟩)
 .rw[awW]at k
  have q:T.Nodup:=(JQ k).1 K;have w:=(OS d5).1 hg;have a3:a9.length=(fq T).length:=by simpa using a4.len
  have a1:Q.length=P.length:=a2.len;simp only[rJ];have a8:∃y r,z=y::r:=by
   have X:T≠[]:=λe=>by rw[B,e]at k;simp at k
   obtain⟨G,t,rfl⟩:∃G t,T=G++[t]:=by
    rcases aA4 T with e|⟨g,f,e⟩
    .exact absurd e X
    .exact⟨g,f,by rw[e,aA5]⟩
   obtain⟨r,p⟩:=aaR w.1;exact⟨_,_,p⟩
  obtain⟨y,r,rfl⟩:=a8;rw[cd];by_cases D:r=[]
  rotate_left
  .have aa:0<r.length:=axV.2 D
   rw[av2 (by simp only[aws];omega)];refine⟨false,rfl,?_⟩;simp only[axE,ayJ,not_and];rintro _ ⟨S,C,l⟩;obtain rfl:=F3 k C;obtain⟨F,x⟩:=l.jH;have A:F=u:=by
    cases T with
    |nil=>exact absurd rfl l.ne
    |cons t T=>
     rw[B]at k;simp only[awo,aw7,je E,av6]at k;have n:=oJ x;simp at n;rw[n,<-k.1]
   subst A;have:=x.symm.trans w.1;simp only[av6,aw7]at this;exact D this.2.symm
  .subst D
   rw[av3 d5];have O:run [u] T=some [y]:=w.1;refine⟨_,rfl,?_⟩;rw[awJ,a3,a1,w.2.1];have ab:y=u\/True:=.inr trivial;constructor
   .intro he
    refine⟨c,T,k,?_⟩;have Z:∀(b:Do Tk) (s z:a_),s≠[]->run s b=some z->z.getLast?=s.getLast?:=λb=>by
     induction b with
     |nil=>intro s z _ h;have:s=z:=by simpa[run]using h
           rw[this]
     |cons t b ih=>
      intro s z hs h;obtain⟨y,n,V⟩:=e_.1 h;rw[ih y z (aaT n).2 V];obtain⟨r,H,W⟩:=jk n;rcases W with⟨_,rfl⟩|⟨_,r',p,rfl⟩|⟨_,_,rfl⟩
      .rfl
      .rw[H,p,azE]
      .rw[H,azE]
    have I:=Z T [u] [y] d5 O;simp at I;subst I;exact((JO q).1 ⟨O,by simpa using w.2.2,by simp at he;omega⟩).1
   .rintro⟨_,S,C,l⟩
    obtain rfl:=F3 k C;obtain⟨F,x⟩:=l.jH;have A:F=u:=by
     cases T with
     |nil=>exact absurd rfl l.ne
     |cons t T=>
      rw[B]at k;simp only[awo,aw7,je E,av6]at k;have n:=oJ x;simp at n;rw[n,<-k.1]
    subst A;have:=((JO q).2 ⟨l,x⟩).2.2;simp;omega
def nt.GA{n:Nat}{a b:aX}(h:nt n (a++b)):nt n (b++a):=by
 obtain⟨T,c,i⟩:=h;rw[awQ]at c;obtain⟨S1,d,e,f,g⟩:=List.append_eq_map_iff.1 c;subst e;exact⟨d++S1,by rw[awQ,awQ,<-f,<-g],i.GA⟩
def EF{l:aX}:nt a (Proofs.YtillffjlojlhoaaGreatDoor.GA l c)↔nt a l:=by
 have e:l.take c++l.drop c=l:=axw c l;constructor
 .intro h
  have:=nt.GA h;rwa[e]at this
 .intro h
  rw[<-e]at h;exact h.GA
def ly(r:aX):Int:=r.headD 0
def alv(n:Nat)(a:Int)(r:aX):Prop:=r≠[]/\a<ly r/\fH r/\o6 r=ly r/\nt n r
def C9(n:Nat):Int->bP->Prop
 |_,[]=>True
 |last,r::a=>alv n last r/\C9 n (ly r) a
def vt(n:Nat)(r:aX):aX:=r.filter λt=>decide (t<(n:Int))
def tv(n:Nat)(a:bP):aX:=a.flatMap (vt n)
structure cz(n:Nat)(rs:bP):Prop where
 lo:1<=n
 hi:n<=64
 rg:C9 n (-1) rs
 nd:(tv n rs).Nodup
 all:∀v:Nat,v<n->(v:Int)∈tv n rs
def C_(h:b≠[]):b[0]? =some (ly b):=by
 cases b with
 |nil=>exact absurd rfl h
 |cons x b=>rfl
def Da{α:Type} [BEq α] [LawfulBEq α]:∀{A B:Do α},A.Nodup->(∀x∈A,x∈B)->A.length<=B.length
 |[],B,_,_=>by simp
 |a::A,B,i,d=>by
  have g:a∈B:=d a d5;have c:=aA2 g;have b:=axc.1 i;have h:=c.length_eq;have j:A.length<=(B.erase a).length:=Da b.2 λx f=>by
   have:=c.mem_iff.1 (d x (by simp[f]));rcases awr.1 this with e|e
   .exact absurd (e▸f) b.1
   .exact e
  simp at h⊢;omega
def TU{n:Nat}:∀{b:bP} {c:Int},C9 n c b->∀r∈b,∃l,alv n l r
 |[],_,_,r,a=>by cases a
 |x::b,c,h,r,a=>by
  rcases awr.1 a with rfl|a
  .exact⟨_,h.1⟩
  .exact TU h.2 r a
def aik(h:fH b)(c:d∈vt a b):d∈b/\0<=d/\d<a:=by
 unfold vt at c;simp only[axp,awJ]at c;exact⟨c.1,(h.2.1 d c.1).1,c.2⟩
def ail(h:C9 a d g)(b:A∈tv a g):∃r∈g,A∈r/\0<=A/\A<a:=by
 obtain⟨r,c,b⟩:=axo.1 b;obtain⟨l,e⟩:=TU h r c;exact⟨r,c,aik e.2.2.1 b⟩
def EG(h:nt c b):vt c b≠[]:=by
 obtain⟨T,f,d⟩:=h;cases T with
 |nil=>exact absurd rfl d.ne
 |cons t T=>
  have:=d.own t d5;have e:some (t.1,t.1)∈b.map (dk c):=by rw[f];exact awe.2 ⟨_,this,rfl⟩
  obtain⟨y,g,i⟩:=awe.1 e;have j:=HB i;refine List.ne_nil_of_mem (a:=y) ?_;unfold vt;simp only[axp,awJ];exact⟨g,bv⟩
def aaU{n:Nat}:∀{a:bP} {b:Int},C9 n b a->a.length<=(tv n a).length
 |[],_,_=>by simp
 |r::a,b,h=>by
  have:=aaU h.2;have c:=axV.2 (EG h.1.2.2.2.2);unfold tv at this⊢;rw[awF,awl,aws];omega
def aim(h:C9 a d g)(b:(tv a g).Nodup):(tv a g).length<=a:=by
 have:=Da (B:=(List.range a).map λv:Nat=>(v:Int)) b λx c=>by
  obtain⟨r,_,_,e,f⟩:=ail h c;exact awe.2 ⟨x.toNat,awE.2 bv,bv⟩
 simpa using this
def wX(n:Nat):((List.range n).map λv:Nat=>(v:Int)).Nodup:=by
 refine List.Pairwise.map _ ?_ azH;intro a b h e;exact h bv
def aaV(h:C9 a d g)(e:(tv a g).Nodup):(∀v:Nat,v<a->(v:Int)∈tv a g)↔(tv a g).length=a:=by
 have m:=aim h e;constructor
 .intro f
  have:=Da (A:=(List.range a).map λv:Nat=>(v:Int)) (B:=tv a g) (wX a) λx c=>by
   obtain⟨v,b,rfl⟩:=awe.1 c;exact f v (awE.1 b)
  simp at this;omega
 .intro i v b
  have j:=pF (B:=(List.range a).map λv:Nat=>(v:Int)) e (λx c=>by
   obtain⟨r,_,_,k,l⟩:=ail h c;exact awe.2 ⟨x.toNat,awE.2 bv,bv⟩) (by simp[i])
  exact j.mem_iff.1 (awe.2 ⟨v,awE.2 b,rfl⟩)
def Mv(n:Nat)(seen:aX)(a:bh):Prop:=∀v:Int,v<n->(bN (.i .i64) a v).getD 0=if v∈seen then 1 else 0
def Mv.auC{seen:aX}(h:Mv a seen n)(g:d<a)(f:d∉seen):Mv a (seen++[d]) (d_ (.i .i64) n d (wZ ((bN (.i .i64) n d).getD 0+1))):=λv i=>by
 have b:=h d g;rw[av2 f]at b;rw[pA,b];by_cases e:d=v
 .subst e
  rw[av3 rfl,av3 d5];rfl
 .rw[av2 e,h v i]
  have:v∈seen++[d]↔v∈seen:=by simp only[awc,awq];exact⟨λh=>h.resolve_right λc=>e c.symm,.inl⟩
  simp only[this]
def Mv.arc{seen:aX}(h:Mv a seen n)(c:¬d<a)(x:Int):Mv a seen (d_ (.i .i64) n d x):=λv b=>by
 rw[pA,av2 bv];exact h v b
def Db(n:Nat)(t:Int)(r:aX):vt n (t::r)=if t<(n:Int)then t::vt n r else vt n r:=by
 unfold vt;by_cases c:t<(n:Int)<;>simp[axa,c]
def wY(N:Nat){n:Nat}{r:aX}(u:r.length<=1000)(g a b:Int)(j l:bP):∀(m k:Nat) (seen:aX) (f:bh),r.length - k<m->k<=r.length->seen.Nodup->Mv n seen f->
 ∃o,vY N m (g,j,a,b,r,(r.length:Int),(k:Int),(n:Int),l,f)=some o/\((o=.inr false/\¬(seen++vt n (r.drop k)).Nodup)\/
  ∃z,o=.inl (g,j,a,b,(n:Int),l,z)/\(seen++vt n (r.drop k)).Nodup/\Mv n (seen++vt n (r.drop k)) z)
 |0,k,seen,f,h,_,_,_=>absurd h bv
 |m+1,k,seen,f,D,C,p,d=>by
  rw[VZ,cd];by_cases q:k<r.length
  rotate_left
  .rw[av2 bv,awZ bv]
   exact⟨_,rfl,.inr ⟨f,rfl,by simpa[vt]using p,by simpa[vt]using d⟩⟩
  rw[av3 bv];obtain⟨t,v⟩:=get_at (xs:=r) (i:=k) q;rw[ba v,ob,bW bv,cd,cN v,Db];by_cases c:t<(n:Int)
  .rw[av3 c,av3 c,d t c,cd]
   by_cases fj:t∈seen
   .simp only[av3 fj,av3 (show(0:Int)<1 by decide)]
    exact⟨_,rfl,.inl ⟨rfl,λh=>(awR.1 h).2.2 t fj t d5 rfl⟩⟩
   .simp only[av2 fj,av2 (show¬(0:Int)<0 by decide)]
    have s:=d.auC c fj;rw[d t c,av2 fj]at s;obtain⟨o,A,h⟩:=wY N u g a b j l m (k+1) (seen++[t]) _ bv bv (awR.2 ⟨p,d5,λx B y w e=>fj (by simp at w;rw[<-w,<-e];exact B)⟩) s;refine⟨o,A,?_⟩;rw[awx]at h;exact h
  .rw[av2 c,av2 c]
   exact wY N u g a b j l m (k+1) seen _ bv bv p (d.arc c _)
def OT(h:b≠[])(a:o6 b=ly b):∀x∈b,ly b<=x:=λx c=>by
 rw[<-a];exact(pB h).2 x c
def F4(N:Nat)(C:Fu+6<=N){n:Nat}(z:1<=n)(A:n<=64){a:bP}(M:a.length<=9223372036854775807)(E:∀r∈a,r.length<=9223372036854775807):∀(m i:Nat) (c:Int) (seen:aX) (k:bh),a.length - i<m->i<=a.length->seen.Nodup->Mv n seen k->
 ∃o,Bw N m (c,a,(a.length:Int),(i:Int),(n:Int),a,k)=some o/\((o=.inr false/\¬(C9 n c (a.drop i)/\(seen++tv n (a.drop i)).Nodup))\/
  ∃f,o=.inl ((n:Int),a,f)/\C9 n c (a.drop i)/\(seen++tv n (a.drop i)).Nodup/\Mv n (seen++tv n (a.drop i)) f)
 |0,i,c,seen,k,h,_,_,_=>absurd h bv
 |m+1,i,c,seen,k,V,S,G,F=>by
  rw[V0,cd];by_cases q:i<a.length
  rotate_left
  .rw[av2 bv,awZ bv]
   exact⟨_,rfl,.inr ⟨k,rfl,trivial,by simpa[tv]using G,by simpa[tv]using F⟩⟩
  rw[av3 bv];obtain⟨r,v⟩:=get_at (xs:=a) (i:=i) q;have W:=E r (awg v);rw[ba v,ob,cN v,cd];have l:¬alv n c r->∃o,(some (.inr false):At ((Int×bP×bh)⊕In))=some o/\((o=.inr false/\¬(C9 n c (r::a.drop (i+1))/\(seen++tv n (r::a.drop (i+1))).Nodup))\/
   ∃f,o=.inl ((n:Int),a,f)/\C9 n c (r::a.drop (i+1))/\(seen++tv n (r::a.drop (i+1))).Nodup/\Mv n (seen++tv n (r::a.drop (i+1))) f):=λh=>⟨_,rfl,.inl ⟨rfl,λd=>h d.1.1⟩⟩
  by_cases e:r=[]
  .subst e
   rw[av3 (show(((([]:aX).length):Nat):Int)=0 from rfl)];exact l λh=>h.1 rfl
  have U:=axV.2 e;rw[av2 bv];have P:aZ r (0:Int)=some (ly r):=ba (i:=0) (C_ e);simp only[P,ob,cd,Mz];by_cases u:ly r<=c
  .rw[av3 u]
   exact l λh=>by have:=h.2.1;omega
  rw[av2 u,OI N bv r bv,ob];by_cases b:fH r
  rotate_left
  .rw[awz b]
   exact l λh=>b h.2.2.1
  rw[awu b];simp only[awj,av8];rw[min_eq N bv r b.1 e,ob];by_cases p:o6 r=ly r
  rotate_left
  .rw[av2 p]
   exact l λh=>p h.2.2.2.1
  rw[av3 p];obtain⟨x,t,w⟩:∃x t,r=x::t:=by
   cases r with
   |nil=>exact absurd rfl e
   |cons x t=>exact⟨x,t,rfl⟩
  have X:ly r=x:=by rw[w];rfl
  obtain⟨g,K,L⟩:=alu (N:=N) bv z A b.1 b.2.2 w;rw[K,ob];have D:g=true↔nt n r:=by
   rw[L];constructor
   .exactλh=>h.2
   .intro h
    refine⟨?_,h⟩;obtain⟨y,Q⟩:=ay4 _ (EG h);have d:=aik b Q;have B:=OT e p y d.1;have j:=(b.2.1 x (by rw[w];simp)).1;omega
  cases g with
  |false=>
   exact l λh=>by
    have:=D.2 h.2.2.2.2;cases this
  |true=>
   have O:¬(ly r<=c)->alv n c r:=λh=>⟨e,bv,b,p,D.1 rfl⟩;simp only[awj,av8];obtain⟨o,s,d⟩:=wY N (n:=n) b.1 (ly r) ((a.length:Nat):Int) (i:Int) a a N 0 seen k (by rw[bJ]at C;have:=b.1;omega) bv G F;rw[zQ]at s;rw[s,ob];rw[awW]at d;rcases d with⟨rfl,d⟩|⟨f,rfl,d,B⟩
   .refine⟨_,rfl,.inl ⟨rfl,λh=>d ?_⟩⟩
    have:=h.2;unfold tv at this;rw[awF,<-awx]at this;exact(awR.1 this).1
   .simp only
    rw[bW bv];obtain⟨o,s,j⟩:=F4 N C z A M E m (i+1) (ly r) (seen++vt n r) f bv bv d B;refine⟨o,s,?_⟩;have H:seen++tv n (r::a.drop (i+1))=seen++vt n r++tv n (a.drop (i+1)):=by
     unfold tv;rw[awF,awx]
    rw[H];rcases j with⟨rfl,j⟩|⟨R,rfl,j,I,J⟩
    .exact .inl ⟨rfl,λh=>j ⟨h.1.2,h.2⟩⟩
    .exact .inr ⟨R,rfl,⟨O u,j⟩,I,J⟩
def F5(N:Nat){n:Nat}(f:n<=64){seen:aX}{d:bh}(c:Mv n seen d):∀(m v:Nat),n - v<m->v<=n->
 ∃o,Bv N m ((n:Int),(v:Int),d)=some o/\((o=.inr false/\¬∀w:Nat,v<=w->w<n->(w:Int)∈seen)\/(o=.inl ()/\∀w:Nat,v<=w->w<n->(w:Int)∈seen))
 |0,v,h,_=>absurd h bv
 |m+1,v,i,j=>by
  rw[VY,cd];by_cases q:v<n
  rotate_left
  .rw[av2 bv]
   exact⟨_,rfl,.inr ⟨rfl,λw a b=>by omega⟩⟩
  rw[av3 bv,c v bv,cd,bW bv];by_cases fj:(v:Int)∈seen
  .simp only[av3 fj,av2 (show¬(1:Int)=0 by decide)]
   obtain⟨o,g,a⟩:=F5 N f c m (v+1) bv bv;refine⟨o,g,?_⟩;have e:(∀w:Nat,v<=w->w<n->(w:Int)∈seen)↔∀w:Nat,v+1<=w->w<n->(w:Int)∈seen:=by
    constructor
    .exactλh w a b=>h w bv b
    .intro h w a b
     by_cases e:w=v
     .subst e;exact fj
     .exact h w bv b
   rw[e];exact a
  .simp only[av2 fj,av3 (show(0:Int)=0 from rfl)]
   exact⟨_,rfl,.inl ⟨rfl,λh=>fj (h v bv q)⟩⟩
def x9(i:Fu+7<=a)(f:Int){rs:bP}(l:rs.length<=9223372036854775807)(m:∀r∈rs,r.length<=9223372036854775807):∃b,vZ a (f,rs)=some b/\(b=true↔0<=f/\cz f.toNat rs):=by
 obtain⟨a,rfl⟩:=sC a 1;rw[acs,C6 bv,ob];by_cases c:1<=f/\f<=64
 rotate_left
 .rw[awz c]
  exact⟨false,rfl,by simp only[axE,ayJ];rintro⟨s,h⟩;exact c ⟨by have:=h.lo;omega,by have:=h.hi;omega⟩⟩
 rw[awu c];obtain⟨n,rfl⟩:=nN f;simp only[awj,av8,av9];obtain⟨o,g,d⟩:=F4 a bv (n:=n) bv bv l m a 0 (-1) [] [] (by rw[bJ]at i;omega) bv d5 (λv _=>by simp[bN]);rw[zQ]at g;rw[g,ob];rw[awW,awL]at d;rcases d with⟨rfl,d⟩|⟨t,rfl,d,j,k⟩
 .exact⟨false,rfl,by simp only[axE,ayJ];rintro⟨_,h⟩;exact d ⟨h.rg,h.nd⟩⟩
 .simp only
  obtain⟨o,g,e⟩:=F5 a (n:=n) bv k a 0 (by rw[bJ]at i;omega) bv;rw[zQ]at g;rw[g,ob];rcases e with⟨rfl,e⟩|⟨rfl,e⟩
  .exact⟨false,rfl,by simp only[axE,ayJ];rintro⟨_,h⟩;exact e λw _ q=>h.all w q⟩
  .exact⟨true,rfl,by simp only[true_iff];exact⟨bv,bv,bv,d,j,λv p=>e v bv p⟩⟩
def Wh(h:fH b)(a:b≠[]):dA b=b↔o6 b=ly b:=by
 rw[gx h a];have d:=(pB a).1;constructor
 .intro e
  have:=wQ d;rw[e,C_ a]at this;exact(av_ this).symm
 .intro e
  have c:ix b (o6 b)=0:=am5 h.2.2 (by rw[e];exact C_ a);unfold eJ;rw[c];simp[GA]
def Body(n:Nat)(r:aX):Prop:=r≠[]/\fH r/\o6 r=ly r/\nt n r
def Dc(h:b≠[]):ly b∈b:=awg (C_ h)
def De{n:Nat}:∀{c:bP} {e:Int},C9 n e c↔(∀r∈c,Body n r)/\c.Pairwise (λa b=>ly a<ly b)/\∀r∈c,e<ly r
 |[],e=>by simp[C9]
 |r::c,e=>by
  rw[C9,De];simp only[ayN,axW];constructor
  .rintro⟨⟨f,g,h,i,j⟩,k,l,d⟩
   exact⟨⟨⟨f,h,i,j⟩,k⟩,⟨d,l⟩,g,λx m=>by have:=d x m;omega⟩
  .rintro⟨⟨⟨f,h,i,j⟩,k⟩,⟨d,l⟩,g,o⟩
   exact⟨⟨f,g,h,i,j⟩,k,l,d⟩
def cz.body(h:cz a g):∀r∈g,Body a r:=(De.1 h.rg).1
def cz.TV(h:cz a g):g.Pairwise λc b=>ly c<ly b:=(De.1 h.rg).2.1
def cz.of(e:1<=a)(f:a<=64)(d:∀r∈g,Body a r)(j:g.Pairwise λc b=>ly c<ly b)(i:(tv a g).Nodup)(h:∀v:Nat,v<a->(v:Int)∈tv a g):cz a g:=
 ⟨e,f,De.2 ⟨d,j,λr k=>by
  have:=d r k;have:=(this.2.1.2.1 _ (Dc this.1)).1;omega⟩,i,h⟩
def Body.head(h:Body a b):0<=ly b/\ly b<a:=by
 have e:=(h.2.1.2.1 _ (Dc h.1)).1;obtain⟨y,d⟩:=ay4 _ (EG h.2.2.2);have c:=aik h.2.1 d;have f:=OT h.1 h.2.2.1 y c.1;omega
def Body.tw(h:Body a b):ly b∈vt a b:=by
 unfold vt;simp only[axp,awJ];exact⟨Dc h.1,h.head.2⟩
def jJ(d:c<a):(c:Int)∈vt a b↔(c:Int)∈b:=by
 unfold vt;simp only[axp,awJ];exact⟨λh=>h.1,λh=>⟨h,bv⟩⟩
def EH{α β:Type}{f:α->Do β}:∀{g:Do α},(g.flatMap f).Nodup->∀{i j:Nat} {a b:α} {x:β},g[i]? =some a->g[j]? =some b->x∈f a->x∈f b->i=j
 |[],_,i,j,a,b,x,c,_,_,_=>by simp at c
 |r::g,e,i,j,a,b,x,c,d,h,k=>by
  rw[awF,awR]at e;cases i with
  |zero=>
   cases j with
   |zero=>rfl
   |succ j=>
    simp only[azz,av6,axK]at c d;subst c;exact absurd rfl (e.2.2 x h x (axo.2 ⟨b,awg d,k⟩))
  |succ i=>
   cases j with
   |zero=>
    simp only[azz,av6,axK]at c d;subst d;exact absurd rfl (e.2.2 x k x (axo.2 ⟨a,awg c,h⟩))
   |succ j=>
    simp only[axK]at c d;rw[EH e.2.1 c d h k]
def mL:bP->Int->Nat
 |[],_=>0
 |r::a,v=>if v∈r then 0 else mL a v+1
def aaW:∀{rs:bP} {v:Int},mL rs v<rs.length->∃r,rs[mL rs v]? =some r/\v∈r
 |[],v,h=>by simp at h
 |r::rs,v,h=>by
  rw[mL];split
  next c=>exact⟨r,rfl,c⟩
  next c=>rw[mL,av2 c]at h;simp only[aws]at h;obtain⟨d,a,b⟩:=aaW (rs:=rs) (v:=v) bv;exact⟨d,by rw[axK];exact a,b⟩
def ain:∀{a:bP} {v:Int} {r:aX},r∈a->v∈r->mL a v<a.length
 |x::a,v,r,h,b=>by
  rw[mL,aws];split
  .omega
  next c=>
   rcases awr.1 h with rfl|h
   .exact absurd b c
   .have:=ain h b
    omega
def dc(a:bP)(v:Nat):aX:=a.getD (mL a (v:Int)) []
def w8(a:bP)(v:Nat):Nat:=(ly (dc a v)).toNat
def cz.ring(h:cz a g)(f:c<a):g[mL g (c:Int)]? =some (dc g c)/\(c:Int)∈dc g c/\dc g c∈g/\mL g (c:Int)<g.length:=by
 obtain⟨r,j,k⟩:=axo.1 (h.all c f);have d:=ain j ((jJ f).1 k);obtain⟨l,b,i⟩:=aaW d;have e:dc g c=l:=by unfold dc;rw[axr,b];rfl
 rw[e];exact⟨b,i,awg b,d⟩
def cz.uniq(h:cz a g)(i:c<a)(e:g[m]? =some b)(j:(c:Int)∈b):m=mL g (c:Int)/\b=dc g c:=by
 have d:=h.ring i;have:=EH (f:=vt a) h.nd e d.1 ((jJ i).2 j) ((jJ i).2 d.2.1);refine⟨this,?_⟩;rw[this,d.1]at e;exact(av_ e).symm
def cz.lv(h:cz a g)(f:c<a){r:aX}(b:r∈g)(e:(c:Int)∈r):ly r=(w8 g c:Int)/\w8 g c<a:=by
 obtain⟨i,d⟩:=ayM b;have:=(h.uniq f d e).2;have j:=(h.body r b).head;unfold w8;rw[<-this];omega
def cz.am7(h:cz a g)(b:c<a):w8 g c<a:=(h.lv b (h.ring b).2.2.1 (h.ring b).2.1).2
def cz.same{n:Nat}(h:cz n g)(j:a<n)(k:c<n):mL g (a:Int)=mL g (c:Int)↔w8 g a=w8 g c:=by
 have b:=h.ring j;have d:=h.ring k;have l:=(h.lv j b.2.2.1 b.2.1).1;have i:=(h.lv k d.2.2.1 d.2.1).1;constructor
 .intro e
  rw[e,d.1]at b;have:=av_ b.1;rw[this]at i;omega
 .intro e
  have m:=h.body _ b.2.2.1;have o:=h.body _ d.2.2.1;refine EH (f:=vt n) h.nd b.1 d.1 m.tw ?_;rw[l,e,<-i];exact o.tw
def aio(h:nt a b):b.length+2=3*(vt a b).length:=by
 obtain⟨T,f,l⟩:=h;have i:=l.len;have j:b.length=T.length:=by simpa using awh List.length f
 have k:∀(b:aX) (T:Do Tk),b.map (dk a)=T.map some->(vt a b).length=(fq T).length:=λb=>by
  induction b with
  |nil=>intro T f;cases T<;>simp[vt,fq]at f⊢
  |cons x b m=>
   intro T f;cases T with
   |nil=>simp at f
   |cons t T=>
    simp only[awo,aw7]at f;have:=m T f.2;rw[Db,ko];obtain⟨d,e⟩:=t;have g:=x7 f.1;unfold ek at g;by_cases c:d=e
    .subst c
     simp only[awG]at g;rw[av3 bv,av3 rfl];simp[this]
    .simp only[c,aw1]at g
     have:a*1<=a*(d+1):=axZ a bv;rw[av2 bv,av2 c];assumption
 rw[j,k b T f];exact i
def aaX(h:b.Perm o):(vt a b).Perm (vt a o):=h.filter _
def Dg{n:Nat}{a b:bP}(h:a.Perm b):(tv n a).Perm (tv n b):=h.flatMap_right _
def rK(n:Nat)(u v:Nat)(a b:aX):aX:=[(u:Int),ek n (u,v)]++eJ b (v:Int)++[ek n (v,u)]++(eJ a (u:Int)).drop 1
def OU(h:c≠m)(f:c<a)(g:m<a):(a:Int)<=ek a (c,m)/\ek a (c,m)<=10000\/64<a:=by
 by_cases b:64<a
 .exact .inr b
 .refine .inl ?_
  unfold ek;simp only[h,aw1];have d:a*1<=a*(c+1):=axZ a bv;have e:a*(c+1)<=64*64:=axC bv bv;omega
def oK(h:d∈b):eJ b d=d::(eJ b d).drop 1:=by
 have:=wQ h;cases a:eJ b d with
 |nil=>rw[a]at this;simp at this
 |cons x l=>rw[a]at this;simp at this;rw[this];rfl
def Ae(a:aX)(u:Int):(eJ a u).Perm a:=C0 _ _
def JS{n u v:Nat}{a b:aX}(f:(u:Int)∈a):(rK n u v a b).Perm (ek n (u,v)::ek n (v,u)::(a++b)):=by
 unfold rK;have c:([(u:Int),ek n (u,v)]++eJ b (v:Int)++[ek n (v,u)]++(eJ a (u:Int)).drop 1).Perm (ek n (u,v)::ek n (v,u)::((u:Int)::(eJ a (u:Int)).drop 1++eJ b (v:Int))):=by
  have d:[(u:Int),ek n (u,v)]++eJ b (v:Int)++[ek n (v,u)]++(eJ a (u:Int)).drop 1=(u:Int)::ek n (u,v)::(eJ b (v:Int)++ek n (v,u)::(eJ a (u:Int)).drop 1):=d5
  rw[d];refine(List.Perm.swap _ _ _).trans (List.Perm.cons _ ?_);have e:(eJ b (v:Int)++ek n (v,u)::(eJ a (u:Int)).drop 1).Perm (ek n (v,u)::((eJ a (u:Int)).drop 1++eJ b (v:Int))):=by
   have:= @azb _ (eJ b (v:Int)) (ek n (v,u)::(eJ a (u:Int)).drop 1);simpa using this
  exact(e.cons (u:Int)).trans (List.Perm.swap _ _ _)
 rw[<-oK f]at c;exact c.trans (((((Ae a u).append (Ae b v))).cons _).cons _)
def TW{T:Do Tk}(d:b.map (dk a)=T.map some)(e:c<a):(c:Int)∈b↔(c,c)∈T:=by
 constructor
 .intro h
  have:dk a (c:Int)∈T.map some:=by rw[<-d];exact awe.2 ⟨_,h,rfl⟩
  rw[je e]at this;simpa using this
 .intro h
  have:some (c,c)∈b.map (dk a):=by rw[d];exact awe.2 ⟨_,h,rfl⟩
  obtain⟨y,f,g⟩:=awe.1 this;rw[<-(HB g).1];exact f
def JT(f:c<a)(l:m<a)(A:Body a b)(B:Body a o)(k:(c:Int)∈b)(q:(m:Int)∈o)(p:∀x∈vt a b,x∉vt a o):nt a (rK a c m b o):=by
 have H:c≠m:=λe=>by subst e;exact p _ ((jJ f).2 k) ((jJ f).2 q)
 have s:nt a (eJ b (c:Int)):=EF.2 A.2.2.2;have u:nt a (eJ o (m:Int)):=EF.2 B.2.2.2;obtain⟨TA,d,v⟩:=s;obtain⟨j,g,w⟩:=u;rw[oK k]at d;have n:=g;rw[oK q]at g;obtain⟨TA,rfl⟩:∃T,TA=(c,c)::T:=by
  cases TA with
  |nil=>simp at d
  |cons t T=>
   simp only[awo,aw7,je f,av6]at d;exact⟨T,by rw[d.1]⟩
 obtain⟨j,rfl⟩:∃T,j=(m,m)::T:=by
  cases j with
  |nil=>simp at g
  |cons t T=>
   simp only[awo,aw7,je l,av6]at g;exact⟨T,by rw[g.1]⟩
 have C:∀{r:aX} {T:Do Tk},r.map (dk a)=T.map some->∀x,(x,x)∈T->x<a:=λ{r T} z x h=>by
  have:some (x,x)∈r.map (dk a):=by rw[z];exact awe.2 ⟨_,h,rfl⟩
  obtain⟨y,_,E⟩:=awe.1 this;exact(HB E).2
 refine⟨_,?_,v.link w λx h D=>?_⟩
 .unfold rK
  simp only[awo,aw7]at d;simp only[awQ,awo,axd,je f,aif (e:=(c,m)) f l,aif (e:=(m,c)) l f,n,d.2,axh,awL,awx]
 .have i:=C d x h
  rw[<-oK k]at d;have F:=MD.1 ((TW d i).2 h);have G:=MD.1 ((TW n i).2 D);exact p _ ((jJ i).2 F) ((jJ i).2 G)
def TY{d b:aX}(l:a<=64)(f:c<a)(h:m<a)(g:c≠m)(i:(c:Int)∈d):(vt a (rK a c m d b)).Perm (vt a d++vt a b):=by
 refine(aaX (JS i)).trans ?_;have j:=OU g f h;have k:=OU (λe=>g e.symm) h f;rw[Db,Db,av2 bv,av2 bv];unfold vt;rw[axs]
def ash{e:Tk}(h:dk a d=some e)(i:a<=64):0<=d/\d<=10000:=by
 have g:=x7 h;obtain⟨f,b⟩:=e;unfold ek at g;by_cases c:f=b
 .subst c
  simp only[awG]at g;omega
 .simp only[c,aw1]at g
  have j:a*(f+1)<=64*64:=axC i bv;omega
def JU(j:a<=64)(d:c<a)(k:m<a)(n:Body a b)(p:Body a o)(g:(c:Int)∈b)(l:(m:Int)∈o)(i:∀x∈vt a b,x∉vt a o)(w:(vt a b).length+(vt a o).length<=a):fH (rK a c m b o):=by
 obtain⟨T,f,h⟩:=JT d k n p g l i;have u:c≠m:=λe=>by subst e;exact i _ ((jJ d).2 g) ((jJ d).2 l)
 have v:=aio ⟨T,f,h⟩;have r:=(TY j d k u g (b:=o)).length_eq;rw[awl]at r;refine⟨bv,λt s=>?_,(JQ f).2 h.nod⟩;have:dk a t∈T.map some:=by rw[<-f];exact awe.2 ⟨t,s,rfl⟩
 obtain⟨e,_,q⟩:=awe.1 this;exact ash q.symm j
def JV:bP->aX->bP
 |[],r=>[r]
 |x::l,r=>if ly x<ly r then x::JV l r else r::x::l
def x_:∀(l:bP) (r:aX),(JV l r).Perm (r::l)
 |[],r=>azF _
 |x::l,r=>by
  rw[JV];split
  .exact((x_ l r).cons x).trans (List.Perm.swap _ _ _)
  .exact azF _
def TZ:∀{l:bP} {r:aX},l.Pairwise (λa b=>ly a<ly b)->(∀x∈l,ly x≠ly r)->(JV l r).Pairwise λa b=>ly a<ly b
 |[],r,_,_=>by simp[JV]
 |x::l,r,g,f=>by
  rw[JV];have e:=axW.1 g;split
  next c=>
   refine axW.2 ⟨λy d=>?_,TZ e.2 λy d=>f y (by simp[d])⟩;have:=(x_ l r).mem_iff.1 d;rcases awr.1 this with rfl|h
   .exact c
   .exact e.1 y h
  next c=>
   have i:=f x d5;refine axW.2 ⟨λy d=>?_,g⟩;rcases awr.1 d with rfl|h
   .omega
   .have:=e.1 y h
    omega
def lV{α:Type}:∀{l:Do α} {i:Nat} {x:α},l[i]? =some x->l.Perm (x::l.eraseIdx i)
 |[],i,x,h=>by simp at h
 |y::l,0,x,h=>by
  simp at h;subst h;exact azF _
 |y::l,i+1,x,h=>by
  rw[axK]at h;rw[List.eraseIdx_cons_succ];exact((lV h).cons y).trans (List.Perm.swap _ _ _)
def T0{l:Do i}(h:c<a):(l.eraseIdx a)[c]? =l[c]? :=by
 rw[List.getElem?_eraseIdx,av3 h]
def MI(a:bP)(i j:Nat):bP:=(a.eraseIdx (max i j)).eraseIdx (min i j)
def Af(f:g[a]? =some b)(i:g[c]? =some o)(j:a≠c):g.Perm (b::o::MI g a c):=by
 unfold MI;rcases axF a c with h|h
 .rw[azA bv,axj bv]
  have d:=lV i;have e:=lV (l:=g.eraseIdx c) (i:=a) (x:=b) (by rw[T0 h];exact f);exact(d.trans (e.cons o)).trans (List.Perm.swap _ _ _)
 .rw[azB bv,ayv bv]
  have d:=lV f;have e:=lV (l:=g.eraseIdx a) (i:=c) (x:=o) (by rw[T0 bv];exact i);exact d.trans (e.cons b)
def adx(a:bP)(i j:Nat):(MI a i j).Sublist a:=(azI _ _).trans (azI _ _)
def rL(n:Nat)(a:bP)(u v:Nat):bP:=JV (MI a (mL a (u:Int)) (mL a (v:Int))) (dA (rK n u v (dc a u) (dc a v)))
def aip(h:fH b)(a:b≠[]):ly (dA b)=o6 b:=by
 rw[gx h a];have:=wQ (pB a).1;cases c:eJ b (o6 b)with
 |nil=>rw[c]at this;simp at this
 |cons x r=>rw[c]at this;simp at this;rw[<-this];rfl
def Wi(h:fH b)(a:b≠[]):(dA b).Perm b:=by
 rw[gx h a];exact Ae _ _
def aaY(h:cz a g)(s:m<a)(t:C<a)(O:mL g (m:Int)≠mL g (C:Int)):
 cz a (rL a g m C)/\(∀x,x<a->w8 (rL a g m C) x=jn (w8 g) m C x)/\(rL a g m C).length+1=g.length:=by
 have u:=h.ring s;have z:=h.ring t;have Z:=h.hi;have o:=h.body _ u.2.2.1;have p:=h.body _ z.2.2.1;have l:=Af u.1 z.1 O;generalize a0:MI g (mL g (m:Int)) (mL g (C:Int))=i at l;have P:i.Sublist g:=a0▸adx _ _ _;generalize ha:dc g m=d at u o l;generalize hb:dc g C=b at z p l;have G:=Dg (n:=a) l;have a8:(tv a (d::b::i)).Nodup:=G.nodup_iff.1 h.nd;have N:=a8;unfold tv at N;rw[awF,awF]at N;have F:=awR.1 N;have S:=awR.1 F.2.1;have Y:∀x∈vt a d,x∉vt a b:=λx f E=>F.2.2 x f x (by simp[E]) rfl;have Q:m≠C:=λe=>O (by rw[e]);have a4:=(aaV h.rg h.nd).1 h.all;have a6:(vt a d).length+(vt a b).length<=a:=by
  have:=G.length_eq;unfold tv at this a4;rw[awF,awF,awl,awl]at this;omega
 have U:=JT s t o p u.2.1 z.2.1 Y;have v:=JU Z s t o p u.2.1 z.2.1 Y a6;have V:=TY (b:=b) Z s t Q u.2.1;have H:=JS (n:=a) (v:=C) (b:=b) u.2.1;have B:rK a m C d b≠[]:=by unfold rK;simp
 have a5:rL a g m C=JV i (dA (rK a m C d b)):=by
  unfold rL;rw[a0,ha,hb]
 rw[a5];generalize rK a m C d b=J at U v V H B;have I:=Wi v B;have W:dA J≠[]:=λe=>B (by rw[e]at I;exact I.symm.eq_nil);have X:Body a (dA J):=by
  have j:=We v;refine⟨W,j,(Wh j W).1 (TD v),?_⟩;rw[gx v B];exact EF.2 U
 have K:(vt a (dA J)).Perm (vt a d++vt a b):=(aaX I).trans V;have D:=x_ i (dA J);have a1:(tv a (JV i (dA J))).Perm (tv a g):=by
  refine(Dg D).trans (List.Perm.trans ?_ G.symm);unfold tv;rw[awF,awF,awF,<-awx];exact K.append_right _
 have M:∀r∈i,Body a r:=λr j=>h.body r (P.subset j);have ac:ly (dA J)=min (ly d) (ly b):=by
  rw[aip v B];refine EE ?_ λy n=>?_
  .refine H.mem_iff.2 (aw5 _ (aw5 _ (awc.2 ?_)))
   rcases Int.le_total (ly d) (ly b)with c|c
   .rw[Int.min_eq_left c];exact .inl (Dc o.1)
   .rw[Int.min_eq_right c];exact .inr (Dc p.1)
  .have e1:=OU Q s t
   have e2:=OU (λe=>Q e.symm) t s;have ka:=o.head;have kb:=p.head;rcases awr.1 (H.mem_iff.1 n)with rfl|n
   .omega
   rcases awr.1 n with rfl|n
   .omega
   rcases awc.1 n with n|n
   .have:=OT o.1 o.2.2.1 y n;omega
   .have:=OT p.1 p.2.2.1 y n;omega
 have a9:∀x∈i,ly x≠ly (dA J):=λx f e=>by
  have A:=(M x f).tw;rw[e]at A;have q:=K.mem_iff.1 X.tw;have R:ly (dA J)∈i.flatMap (vt a):=axo.2 ⟨x,f,A⟩;rcases awc.1 q with q|q
  .exact F.2.2 _ q _ (by simp only[awc];exact .inr R) rfl
  .exact S.2.2 _ q _ R rfl
 have L:cz a (JV i (dA J)):=cz.of h.lo h.hi (λr j=>by
  rcases awr.1 (D.mem_iff.1 j)with rfl|j
  .exact X
  .exact M r j) (TZ (h.TV.sublist P) a9) (a1.nodup_iff.2 h.nd) λw hw=>a1.mem_iff.2 (h.all w hw)
 refine⟨L,λx f=>?_,?_⟩
 .have cu:=h.lv s (l.mem_iff.2 (by simp:d∈d::b::i)) u.2.1
  have cv:=h.lv t (l.mem_iff.2 (by simp:b∈d::b::i)) z.2.1;have ab:w8 g m≠w8 g C:=λe=>O ((h.same s t).2 e);have E:=G.mem_iff.1 (h.all x f);unfold tv at E;rw[awF,awF]at E;have a3:(x:Int)∈vt a d\/(x:Int)∈vt a b->w8 (JV i (dA J)) x=min (w8 g m) (w8 g C):=λk=>by
   have a7:(x:Int)∈dA J:=(jJ f).1 (K.mem_iff.2 (awc.2 k));have:=(L.lv f (D.mem_iff.2 d5) a7).1;omega
  rcases awc.1 E with k|k
  .have:=(h.lv f (l.mem_iff.2 (by simp:d∈d::b::i)) ((jJ f).1 k)).1
   rw[a3 (.inl k)];unfold jn;split<;>omega
  rcases awc.1 k with k|k
  .have:=(h.lv f (l.mem_iff.2 (by simp:b∈d::b::i)) ((jJ f).1 k)).1
   rw[a3 (.inr k)];unfold jn;split<;>omega
  .obtain⟨r,j,a2⟩:=axo.1 k
   have A:=(h.lv f (P.subset j) ((jJ f).1 a2)).1;have q:=(L.lv f (D.mem_iff.2 (aw5 _ j)) ((jJ f).1 a2)).1;have aa:=(M r j).tw;have fj:ly r∈i.flatMap (vt a):=axo.2 ⟨r,j,aa⟩;have n1:ly r≠ly d:=λe=>F.2.2 _ o.tw _ (by simp only[awc];exact .inr fj) e.symm;have n2:ly r≠ly b:=λe=>S.2.2 _ p.tw _ fj e.symm;unfold jn;split
   .omega
   .omega
 .have A:=D.length_eq
  have q:=l.length_eq;simp at A q;omega
def Wj(a:bP)(v:Int):Int:=if mL a v<a.length then(mL a v:Int)else -1
def cz.small(h:cz a g):g.length<=a/\∀r∈g,r.length<=1000:=by
 have c:=aaU h.rg;have d:=aim h.rg h.nd;exact⟨bv,λr b=>(h.body r b).2.1.1⟩
def cz.Wj(h:cz a g)(b:c<a):Proofs.YtillffjlojlhoaaGreatDoor.Wj g (c:Int)=(mL g (c:Int):Int):=av3 (h.ring b).2.2.2
def la(n:Nat):bP->bu->bP
 |a,[]=>a
 |a,e::l=>la n (if mL a (e.1:Int)=mL a (e.2:Int)then a else rL n a e.1 e.2) l
def lW(n:Nat):bP->bu->bw
 |_,[]=>[]
 |a,e::l=>(w8 a e.1 !=w8 a e.2)::lW n (if mL a (e.1:Int)=mL a (e.2:Int)then a else rL n a e.1 e.2) l
def tA:(Nat->Nat)->bu->bw
 |_,[]=>[]
 |c,e::l=>(c e.1 !=c e.2)::tA (jn c e.1 e.2) l
def T1(h:∀C,C<a->e C=B C)(b:c<a)(d:m<a)(f:C<a):jn e c m C=jn B c m C:=by
 unfold jn;rw[h c b,h m d,h C f]
def HE(h:cz a g)(d:c<a)(f:m<a):
 cz a (if mL g (c:Int)=mL g (m:Int)then g else rL a g c m)/\(∀x,x<a->w8 (if mL g (c:Int)=mL g (m:Int)then g else rL a g c m) x=jn (w8 g) c m x)/\
  (if mL g (c:Int)=mL g (m:Int)then g else rL a g c m).length+(if w8 g c !=w8 g m then 1 else 0)=g.length:=by
 by_cases b:mL g (c:Int)=mL g (m:Int)
 .rw[av3 b]
  have e:=(h.same d f).1 b;exact⟨h,λx i=>by rw[aaP e],by simp[e]⟩
 .rw[av2 b]
  have e:w8 g c≠w8 g m:=λe=>b ((h.same d f).2 e);have:=aaY h d f b;exact⟨this.1,this.2.1,by rw[av3 (by simpa using e)];exact this.2.2⟩
def Dh{n:Nat}:∀{l:bu} {d:bP} {c:Nat->Nat},cz n d->fe n l->(∀x,x<n->w8 d x=c x)->lW n d l=tA c l
 |[],_,_,_,_,_=>rfl
 |e::l,d,c,h,g,f=>by
  have a:=g e d5;have i:=HE h a.1 a.2;rw[lW,tA,f _ a.1,f _ a.2];congr 1;exact Dh i.1 (λx b=>g x (by simp[b])) λx b=>by rw[i.2.1 x b,T1 f a.1 a.2 b]
def JW(d a:Nat->Nat):∀l:bu,tA (λx=>d (a x)) l=tA d (l.map λe=>(a e.1,a e.2))
 |[]=>rfl
 |e::l=>by
  have:=JW (jn d (a e.1) (a e.2)) a l;rw[awo,tA,tA,<-this];rfl
def Di:∀(l p:bu),tA (jH p) l=ff p l
 |[],p=>rfl
 |e::l,p=>by
  rw[tA,ff,<-wR,Di l (p++[e])];rfl
def EI{n:Nat}:∀{l:bu} {a:bP},cz n a->fe n l->cz n (la n a l)/\(la n a l).length+((lW n a l).filter id).length=a.length
 |[],a,h,_=>⟨h,by simp[la,lW]⟩
 |e::l,a,h,d=>by
  have f:=d e d5;have g:=HE h f.1 f.2;have i:=EI (l:=l) g.1 λx j=>d x (by simp[j]);rw[la,lW];refine⟨i.1,?_⟩;have k:=i.2;have b:=g.2.2;rw[axa];simp only[id];by_cases c:(w8 a e.1 !=w8 a e.2)=true
  .rw[av3 c]at b⊢
   simp only[aws];omega
  .rw[av2 c]at b⊢
   omega
def cz.tr(d:Fu+7<=a)(h:cz c g):vZ a ((c:Int),g)=some true:=by
 obtain⟨l,j⟩:=h.small;have k:=h.hi;obtain⟨b,e,f⟩:=x9 d (c:Int) (rs:=g) bv (λr i=>by have:=j r i;omega);rw[e,f.2 ⟨bv,by rw[av9];exact h⟩]
def F6(N:Nat)(g:Fu+3<=N)(v:Int){a:bP}(j:a.length<=9223372036854775807)(f:∀r∈a,r.length<=9223372036854775807):∀(m i:Nat),a.length - i<m->i<=a.length->
 G6 N m (a,(a.length:Int),(i:Int),v)=some (if mL (a.drop i) v<(a.drop i).length then .inr (((i+mL (a.drop i) v:Nat):Int),v)else .inl v)
 |0,i,h,_=>absurd h bv
 |m+1,i,l,k=>by
  rw[acw,cd];by_cases q:i<a.length
  .rw[av3 bv]
   obtain⟨r,b⟩:=get_at (xs:=a) (i:=i) q;obtain⟨d,rfl⟩:∃M,N=M+1:=⟨N - 1,bv⟩;rw[ba b,ob,aga,has_eq d bv r v (f r (awg b)),ob,ob,cN b,bW bv,F6 (d+1) g v j f m (i+1) bv bv,mL];simp only[cd];by_cases c:v∈r
   .rw[av3 c,av3 c,av3 d5];rfl
   .rw[av2 c,av2 c]
    simp only[aws];by_cases e:mL (a.drop (i+1)) v<(a.drop (i+1)).length
    .rw[av3 e,av3 bv]
     congr 4;omega
    .rw[av2 e,av2 bv]
  .rw[av2 bv,awZ bv];rfl
def EJ{N:Nat}(a:Fu+5<=N)(f v:Int){rs:bP}(b:rs.length<=9223372036854775807)(d:∀r∈rs,r.length<=9223372036854775807):Eo N (f,rs,v)=some (Wj rs v):=by
 obtain⟨N,rfl⟩:=sC N 2;have:=F6 N bv v b d N 0 (by rw[bJ]at a;omega) bv;rw[zQ,awW]at this;rw[acx,agc,this,ob];unfold Wj;by_cases c:mL rs v<rs.length
 .rw[av3 c,av3 c,awB];rfl
 .rw[av2 c,av2 c];rfl
def JX(f:Fu+8<=a)(h:cz c g)(e:m<c):wH a ((c:Int),g,(m:Int))=some (mL g (m:Int):Int):=by
 obtain⟨a,rfl⟩:=sC a 1;obtain⟨k,d⟩:=h.small;have j:=h.lo;have i:=h.hi;rw[ac8,TQ bv,ob,h.tr bv,awu (show((1:Int)<=(c:Int)/\(c:Int)<=64)/\0<=(m:Int)/\(m:Int)<(c:Int) by omega)];simp only[ob,awj,av8];rw[EJ bv _ _ bv (λr b=>by have:=d r b;omega),ob,h.Wj e]
def MJ(N:Nat)(g:1<=N)(n:Int)(a:bP){s:aX}(k:s.length<=9223372036854775807):∀(m i:Nat),s.length - i<m->i<=s.length->
 ∃o,G4 N m (s,(s.length:Int),(i:Int),n,a)=some o/\((o=.inl (n,a)/\∀v∈s.drop i,0<=v/\v<n)\/∃j:Nat,o=.inr ((j:Int),n,a)/\¬∀v∈s.drop i,0<=v/\v<n)
 |0,i,h,_=>absurd h bv
 |m+1,i,r,p=>by
  rw[acu,cd];by_cases q:i<s.length
  .rw[av3 bv]
   obtain⟨v,e⟩:=get_at (xs:=s) (i:=i) q;obtain⟨d,rfl⟩:∃M,N=M+1:=⟨N - 1,bv⟩;have f:Yj (d+1) (v,n,a)=some (decide (v<0\/n<=v),n,a):=by
    rw[af3,cd];by_cases c:v<0
    .rw[av3 c];simp[c]
    .rw[av2 c];simp[c]
   rw[ba e,ob,f,ob,cN e,bW bv];simp only[cd];by_cases c:v<0\/n<=v
   .rw[av3 c]
    exact⟨_,rfl,.inr ⟨i,rfl,λh=>by have:=h v d5;omega⟩⟩
   .rw[av2 c]
    obtain⟨o,l,b⟩:=MJ (d+1) g n a k m (i+1) bv bv;refine⟨o,l,?_⟩;simp only[ayN];rcases b with⟨rfl,b⟩|⟨j,rfl,b⟩
    .exact .inl ⟨rfl,bv,b⟩
    .exact .inr ⟨j,rfl,λh=>b h.2⟩
  .rw[av2 bv,awZ bv]
   exact⟨_,rfl,.inl ⟨rfl,d5⟩⟩
def rM{N:Nat}(d:Fu+8<=N)(h:cz a g)(s:aX)(e:s.length<=9223372036854775807):Fy N ((a:Int),g,s)=some (if∀v∈s,0<=v/\v<(a:Int)then 0 else 10):=by
 obtain⟨N,rfl⟩:=sC N 3;obtain⟨o,c,b⟩:=MJ N bv (a:Int) g e N 0 (by rw[bJ]at d;omega) bv;rw[zQ]at c;rw[awW]at b;rw[af6,h.tr bv,ob];simp only[awj,av8];rw[ak7,af5,c,ob];rcases b with⟨rfl,b⟩|⟨j,rfl,b⟩
 .rw[av3 b];rfl
 .rw[av2 b]
  simp[ob]
def MK(k:Fu+9<=a)(h:cz c g)(d:m<c):S8 a ((c:Int),g,(m:Int))=some ((w8 g m:Int),0):=by
 obtain⟨a,rfl⟩:=sC a 1;have b:=h.ring d;have f:=h.body _ b.2.2.1;have j:aZ (dc g m) (0:Int)=some (ly (dc g m)):=ba (i:=0) (C_ f.1);rw[ahm,rM bv h _ d5,ob,av3 (by intro w e;simp only[awq]at e;subst e;omega),DR rfl,JX bv h d,ob,ba b.1,ob,j,ob,(h.lv d b.2.2.1 b.2.1).1]
def OV(a:bP)(l:bu):bu:=l.map λe=>(w8 a e.1,w8 a e.2)
def apf(h:cz a g)(b:fe a s):fe a (OV g s):=λe c=>by
 obtain⟨x,d,rfl⟩:=awe.1 c;have:=b x d;exact⟨h.am7 this.1,h.am7 this.2⟩
def zl(N:Nat)(f:Fu+9<=N){n:Nat}{b:bP}(h:cz n b){l:bu}(d:fe n l)(g:l.length<=100000):∀(m i:Nat) (a:bh),l.length - i<m->i<=l.length->a.length<=i->
 Hq N m (l.map MG,(l.length:Int),(i:Int),(n:Int),b,a)=some (a++(OV b (l.drop i)).map MG)
 |0,i,a,h,_,_=>absurd h bv
 |m+1,i,a,o,k,p=>by
  rw[ac9,cd];by_cases q:i<l.length
  .rw[av3 bv]
   obtain⟨x,c⟩:=get_at (xs:=l) (i:=i) q;have e:=d x (awg c);have j:(l.map MG)[i]? =some (MG x):=by rw[awp,c];rfl
   rw[ba j,ob];simp only[MG];rw[MK bv h e.1,ob,MK bv h e.2,ob,cj bv d7,ob,bW bv];have:=zl N f h d g m (i+1) (a++[((w8 b x.1:Int),(w8 b x.2:Int))]) bv bv d7;rw[this,cN c];simp[OV,MG]
  .rw[av2 bv,awZ bv]
   simp[OV]
def OW(e:Fu+10<=a)(h:cz c g)(l:bh)(f:l.length<=100000):
 Z5 a ((c:Int),g,l)=some (wV (c:Int) l,if wV (c:Int) l=0 then(OV g (l.map jd)).map MG else []):=by
 obtain⟨a,rfl⟩:=sC a 1;have m:=h.lo;have j:=h.hi;rw[ahn,h.tr bv,ob];simp only[awj,av8];rw[TJ bv _ l bv,ob,Mz];rcases Ad (c:Int) l with⟨k,i⟩|⟨k,_⟩|⟨k,i,d⟩
 .omega
 .rw[k];rfl
 .rw[k,av3 rfl,av3 rfl]
  have b:=ti (n:=(c:Int)) bv d;rw[av9]at b;have:=zl a bv h b (by simpa using f) a 0 [] (by rw[bJ]at e;simp;omega) bv d5;rw[<-OM d,zQ,awa]at this;rw[this,ob];rfl
def Wl(p:Fu+11<=a)(h:cz m g)(l:bh)(j:l.length<=100000):
 Ox a ((m:Int),g,l)=some (wV (m:Int) l,if wV (m:Int) l=0 then lW m g (l.map jd)else []):=by
 obtain⟨a,rfl⟩:=sC a 1;have r:=h.lo;have q:=h.hi;rw[ade,OW bv h l j,ob,Mz];rcases Ad (m:Int) l with⟨k,n⟩|⟨k,_⟩|⟨k,n,o⟩
 .omega
 .rw[k];rfl
 .rw[k,av3 rfl]
  simp only[awG];have b:=ti (n:=(m:Int)) bv o;rw[av9]at b;obtain⟨s,d,e⟩:=TH (N:=a) bv (n:=m) bv;obtain⟨t,f,_⟩:=TI (N:=a) bv (n:=m) bv (l:=OV g (l.map jd)) (by simp[OV];omega) (apf h b) e;rw[d,ob,f,ob];have i:lW m g (l.map jd)=ff [] (OV g (l.map jd)):=by
   rw[Dh h b (c:=λx=>(λy=>y) (w8 g x)) (λx _=>rfl),JW (λy=>y) (w8 g)];exact Di (OV g (l.map jd)) []
  rw[i]
def OX(b:1<=a)(c:a<=64)(l:bh):wV (a:Int) l=if∀e∈l,l5 (a:Int) e then 0 else 10:=by
 unfold wV;rw[av2 bv]
def gy(n:Nat):bP:=(List.range n).map λv:Nat=>[(v:Int)]
def iz(f:1<=a)(g:a<=64):cz a (gy a):=by
 have d:tv a (gy a)=(List.range a).map λv:Nat=>(v:Int):=by
  unfold tv gy;rw[List.flatMap_map];have:∀(l:a_),(∀x∈l,x<a)->(l.flatMap λc:Nat=>vt a [(c:Int)])=l.map λv:Nat=>(v:Int):=λl=>by
   induction l with
   |nil=>intro _;rfl
   |cons c l m=>
    intro h;rw[awF,m λx e=>h x (by simp[e]),Db,av3 (by have:=h c d5;omega)];simp[vt]
  exact this _ λx e=>awE.1 e
 refine cz.of f g (λr i=>?_) ?_ ?_ ?_
 .obtain⟨v,d,rfl⟩:=awe.1 i
  have d:=awE.1 d;refine⟨d5,⟨d5,λt j=>?_,d5⟩,rfl,[(v,v)],by simp[je d],d5,⟨v,by simp[Clo,run,lG]⟩,d5,by simp[wW,fq]⟩;simp only[awq]at j;omega
 .unfold gy
  refine List.Pairwise.map _ ?_ List.pairwise_lt_range;intro c b h;simp only[ly,axB];omega
 .rw[d];exact wX a
 .intro v k
  rw[d];exact awe.2 ⟨v,awE.2 k,rfl⟩
def JY(d:1<=a)(e:a<=64)(b:c<a):w8 (gy a) c=c:=by
 have:=((iz d e).lv b (r:=[(c:Int)]) (awe.2 ⟨c,awE.2 b,rfl⟩) d5).1;simp only[ly,axB]at this;omega
def K2(b:1<=a)(d:a<=64)(e:fe a s):lW a (gy a) s=ff [] s:=by
 rw[Dh (iz b d) e (c:=jH []) (λx f=>JY b d f)];exact Di s []
structure Iv(n:Nat)(l:bu)(out:aX):Prop where
 len:out.length=n
 at_:∀i,i<n->∃w:Nat,out[i]? =some (w:Int)/\w<=i
 uni:∀f:Nat->Nat,(∀e∈l,f e.1=f e.2)->∀v,v<n->f (par out v)=f v
def Iv.get(h:Iv a s b)(f:c<a):b[c]? =some ((par b c:Nat):Int)/\par b c<=c:=by
 obtain⟨w,d,e⟩:=h.at_ c f;have:par b c=w:=by unfold par;simp[axr,d]
 rw[this];exact⟨d,e⟩
def sm(a:aX):Nat:=(a.map Int.toNat).sum
def Wm:∀{b:aX} {v:Nat} {x y:Int},b[v]? =some x->sm (b.set v y)+x.toNat=sm b+y.toNat
 |[],v,x,y,h=>by simp at h
 |a::b,0,x,y,h=>by
  simp at h;subst h;simp[sm];omega
 |a::b,v+1,x,y,h=>by
  rw[axK]at h;have c:=Wm (y:=y) h;rw[azs];simp only[sm,awo,ayg]at c⊢;omega
def Iv.low(h:Iv a s b)(u:(m,C)∈s)(n:m<a)(o:C<a)(z:par b m≠par b C):
 Iv a s ((b.set m ((min (par b m) (par b C):Nat):Int)).set C ((min (par b m) (par b C):Nat):Int))/\sm ((b.set m ((min (par b m) (par b C):Nat):Int)).set C ((min (par b m) (par b C):Nat):Int))<sm b:=by
 have p:=h.get n;have q:=h.get o;have B:m≠C:=λe=>z (by rw[e]);have w:=h.len;have A:par ((b.set m ((min (par b m) (par b C):Nat):Int)).set C ((min (par b m) (par b C):Nat):Int))=cR (cR (par b) m (min (par b m) (par b C))) C (min (par b m) (par b C)):=by
  rw[C4 (by rw[axf];omega),C4 bv]
 constructor
 .refine⟨by simp[w],λi v=>?_,λf d x E=>?_⟩
  .simp only[aw0,axf]
   by_cases g:C=i
   .subst g
    rw[av3 rfl,av3 bv];exact⟨_,rfl,bv⟩
   .rw[av2 g]
    by_cases j:m=i
    .subst j
     rw[av3 rfl,av3 bv];exact⟨_,rfl,bv⟩
    .rw[av2 j]
     exact h.at_ i v
  .have r:=h.uni f d m n
   have t:=h.uni f d C o;have k:f m=f C:=d (m,C) u;have l:f (min (par b m) (par b C))=f m:=by
    rcases ayf (par b m) (par b C)with c|c
    .rw[axj c,r]
    .rw[ayv c,t,k]
   rw[A];unfold cR;split
   next e=>subst e;rw[l,k]
   .split
    next e=>subst e;exact l
    .exact h.uni f d x E
 .have F:=Wm (y:=((min (par b m) (par b C):Nat):Int)) p.1
  have D:(b.set m ((min (par b m) (par b C):Nat):Int))[C]? =some ((par b C:Nat):Int):=by
   rw[aw0,av2 B];exact q.1
  have G:=Wm (y:=((min (par b m) (par b C):Nat):Int)) D;simp only[av9]at F G;omega
def am8:∀{out:aX} {k:Nat},(∀x∈out,x.toNat<=k)->sm out<=out.length*k
 |[],k,_=>by simp[sm]
 |a::out,k,h=>by
  have c:=am8 (out:=out) λx b=>h x (by simp[b]);have:=h a d5;simp only[sm,awo,ayg,aws,awK]at c⊢;omega
def F7(N:Nat)(f:Fu+1<=N)(l a:aX)(g:l.length<=9223372036854775807)(j:a.length<=1000):∀(k i m:Nat) (b:aX),i+k=a.length->k<m->b.length<=i->
 G7 N m (l,a,((a.length:Nat):Int),(i:Int),b)=some (b++(a.drop i).map (ixI l))
 |k,i,0,b,c,d,e=>by omega
 |0,i,m+1,b,c,d,e=>by
  rw[LS,dF bv,awZ bv];simp
 |k+1,i,m+1,b,c,d,e=>by
  obtain⟨x,h⟩:=get_at (xs:=a) (i:=i) bv;rw[LS,eK bv,ba h,ob,JE N f l x g,ob,cj bv d7,ob,bW bv,F7 N f l a g j k (i+1) m _ bv bv d7,cN h];simp
def ady(N:Nat)(g:Fu+4<=N)(l a:aX)(d:l.length<=9223372036854775807)(b:a.length<=1000):Yx N (l,a)=some (if fH l then(decide (∀t∈a,t∈l),a.map (ixI l))else(false,[])):=by
 obtain⟨N,rfl⟩:=sC N 1;have h:=F7 N bv l a d b a.length 0 N [] bv (by have:=bJ;omega) d5;rw[awW,awL]at h;rw[age,OI N bv l d,ob];by_cases c:fH l
 .rw[av3 c,awu c,awj,av8,show((0:Int)=((0:Nat):Int))from rfl,h,ob,has_eq N bv _ _ d7,ob]
  congr 2;rw[<-decide_not];refine axL.2 ?_;rw[awe];constructor
  .intro h t b
   refine Decidable.by_contra λf=>h ⟨t,b,OL f⟩
  .rintro h ⟨t,b,e⟩
   have:=HA (h t b);omega
 .rw[av2 c,awz c];rfl
def adz(N:Nat)(k:Fu+2<=N)(a b:aX)(l:a.length<=100000)(m:b.length<=100000):LU N [a,b]=some (a++b):=by
 obtain⟨N,rfl⟩:=sC N 2;obtain⟨K,d⟩:∃K,N+1=K+3:=⟨N - 2,by have:=bJ;omega⟩;have e:aZ ([a,b]:bP) (0:Int)=some a:=rfl;have f:aZ ([a,b]:bP) (1:Int)=some b:=rfl;have g:wZ ((0:Int)+1)=1:=gw bv bv;have h:wZ ((1:Int)+1)=2:=gw bv bv;have i:xV (N+1) (N+1) ([a,b],0,[a,b],((([a,b]:bP).length:Nat):Int),0)=some ([a,b],(a.length:Int)+(b.length:Int)):=by
  have:∀M,xV M (K+3) ([a,b],0,[a,b],((([a,b]:bP).length:Nat):Int),0)=some ([a,b],(a.length:Int)+(b.length:Int)):=λM=>by
   rw[xX,eK d5,e,ob,cd,gw (x:=(0:Int)+((a.length:Nat):Int)) bv bv,av2 bv,g,xX,eK d5,f,ob,cd,gw (x:=(0:Int)+((a.length:Nat):Int)+((b.length:Nat):Int)) bv bv,av2 bv,h,xX,dF d5];congr 2;omega
  have c:=this (N+1);rwa[<-d]at c
 have j:xU (N+1) (N+1) ([a,b],((([a,b]:bP).length:Nat):Int),0,[])=some (a++b):=by
  have:∀M,xU M (K+3) ([a,b],((([a,b]:bP).length:Nat):Int),0,[])=some (a++b):=λM=>by
   rw[xW,eK d5,e,ob,cj bv d7,ob,g,xW,eK d5,f,ob,cj bv d7,ob,h,xW,dF d5];simp
  have c:=this (N+1);rwa[<-d]at c
 rw[Rv,i,ob];simp only;rw[fC,awu ⟨bv,bv⟩,awv,ob,j,ob]
def ML(N:Nat)(a:Fu+3<=N)(l:aX)(p:Nat)(c:p<=l.length)(b:l.length<=1000):Rx N (l,(p:Int))=some (GA l p):=by
 obtain⟨N,rfl⟩:=sC N 1;rw[agf,wO bv bv,ob,wN bv bv,ob,av9,adz N bv _ _ d7 d7,ob];rfl
def aaZ(N:Nat)(f:Fu+5<=N)(l:aX)(x:Int)(b:l.length<=9223372036854775807):IQ N (l,x)=some (OK l x):=by
 obtain⟨N,rfl⟩:=sC N 1;rw[acy,ady N bv l [x] b d5,ob,OK];by_cases c:fH l
 .rw[av3 c]
  by_cases a:x∈l
  .have:=ah9 a
   rw[av3 ⟨c,a⟩];have e:(decide (∀t∈[x],t∈l),[x].map (ixI l))=(true,[(ix l x:Int)]):=by simp[a,HA a]
   rw[e];have d:aZ [(ix l x:Int)] (0:Int)=some (ix l x:Int):=rfl;simp only[awj,av8,d,ob];rw[ML N bv l _ bv c.1];rfl
  .have e:(decide (∀t∈[x],t∈l),[x].map (ixI l))=(false,[(-1:Int)]):=by simp[a,OL a]
   rw[e,av2 (λh=>a h.2)];rfl
 .rw[av2 c,av2 (λh=>c h.1)];rfl
def aiq(N:Nat)(e:Fu+5<=N)(l:aX)(d:l.length<=9223372036854775807):N4 N l=some (dA l):=by
 obtain⟨N,rfl⟩:=sC N 1;rw[acA,OI N bv l d,ob,Mz,dA];by_cases c:fH l
 .rw[av3 c,cd]
  by_cases a:l=[]
  .subst a;simp
  .have f:=axV.2 a
   have b:=(pB a).1;have:=ah9 b;rw[av2 bv,av3 ⟨c,a⟩,min_eq N bv l c.1 a,ob,JE N bv l _ d,ob,HA b,ML N bv l _ bv c.1,ob];rfl
 .rw[av2 c,av2 (λh=>c h.1)]
section
open Go Go.RowKit Go.Sort
def lp{σ β:Type}{F:Nat->Nat->σ->At β}{n:Nat}{I:Nat->σ->Prop}{Q:β->Prop}(g:∀m i s,i<n->I i s->(∃d,I (i+1) d/\F (m+1) i s=F m (i+1) d)\/∃b,F (m+1) i s=some b/\Q b)
 (f:∀m s,I n s->∃b,F (m+1) n s=some b/\Q b):∀{m i:Nat} {s:σ},n - i<m->i<=n->I i s->∃b,F m i s=some b/\Q b
 |0,i,s,h,_,_=>absurd h bv
 |m+1,i,s,h,k,e=>by
  by_cases c:i<n
  .rcases g m i s c e with⟨d,a,j⟩|a
   .rw[j];exact lp g f bv bv a
   .exact a
  .obtain rfl:i=n:=bv
   exact f m s e
def MM{σ β:Type}{F:Nat->Nat->σ->At β}{n:Nat}{I:Nat->σ->Prop}{b:β}(k:∀m i s,i<n->I i s->∃c,I (i+1) c/\F (m+1) i s=F m (i+1) c)(g:∀m s,I n s->F (m+1) n s=some b)
 {m i:Nat} {s:σ} (d:n - i<m) (e:i<=n) (f:I i s):F m i s=some b:=by
 obtain⟨l,h,rfl⟩:=lp (Q:=λx=>x=b) (λm i s j a=>.inl (k m i s j a)) (λm s a=>⟨_,g m s a,rfl⟩) d e f;exact h
def aa0(g:3<=a)(b:c<=64)(h:m<c)(i:C<c)(d:m≠C):IU a ((c:Int),(m:Int),(C:Int))=some (ek c (m,C)):=by
 obtain⟨a,rfl⟩:=sC a 1;have f:c*(m+1)<=64*64:=axC b bv;have e:(c:Int)*((m:Int)+1)=((c*(m+1):Nat):Int):=by rw[ax1];rfl
 rw[acz,dF bv,TQ bv,ob,TQ bv,awu (show((1:Int)<=(c:Int)/\(c:Int)<=64)/\0<=(m:Int)/\(m:Int)<(c:Int) by omega),awu (show((1:Int)<=(c:Int)/\(c:Int)<=64)/\0<=(C:Int)/\(C:Int)<(c:Int) by omega)];simp only[ob,awj,av8];rw[show wZ ((m:Int)+1)=(m:Int)+1 from gw bv bv,e,show wZ (((c*(m+1):Nat):Int))=((c*(m+1):Nat):Int)from gw bv bv,gw bv bv];unfold ek;simp only[d,aw1];congr 1
def wo{α:Type}(i j:Nat):Nat->Do α->Do α
 |_,[]=>[]
 |k,x::l=>if k=i\/k=j then wo i j (k+1) l else x::wo i j (k+1) l
def aa1{α:Type}{i j:Nat}:∀(l:Do α) (k:Nat),i<k->j<k->wo i j k l=l
 |[],_,_,_=>rfl
 |x::l,k,a,b=>by rw[wo,av2 bv,aa1 l (k+1) bv bv]
def aa2{α:Type}(i j:Nat):∀(l:Do α) (k:Nat),wo i j k l=wo j i k l
 |[],_=>rfl
 |x::l,k=>by
  rw[wo,wo,aa2 i j l (k+1)];by_cases c:k=i\/k=j
  .rw[av3 c,av3 c.symm]
  .rw[av2 c,av2 λh=>c h.symm]
def air{α:Type}{i j:Nat}{b:α}:∀(l:Do α) (k:Nat),i<k->k<=j->l[j - k]? =some b->l.Perm (b::wo i j k l)
 |[],k,_,_,h=>by simp at h
 |x::l,k,d,e,h=>by
  rw[wo];by_cases c:k=j
  .rw[show j - k=0 by omega]at h
   have a:x=b:=by simpa using h
   rw[av3 (.inr c),aa1 l _ bv bv,a]
  .rw[av2 bv]
   rw[show j - k=(j - (k+1))+1 by omega,axK]at h;exact((air l (k+1) bv bv h).cons x).trans (List.Perm.swap _ _ _)
def OY{α:Type}{i j:Nat}{a b:α}(e:i<j):∀(l:Do α) (k:Nat),k<=i->l[i - k]? =some a->l[j - k]? =some b->l.Perm (a::b::wo i j k l)
 |[],k,_,h,_=>by simp at h
 |x::l,k,g,h,d=>by
  rw[wo];rw[show j - k=(j - (k+1))+1 by omega,axK]at d;by_cases c:k=i
  .rw[show i - k=0 by omega]at h
   have f:x=a:=by simpa using h
   rw[av3 (.inl c),f];exact(air l (k+1) bv bv d).cons a
  .rw[av2 bv]
   rw[show i - k=(i - (k+1))+1 by omega,axK]at h;exact((OY e l (k+1) bv h d).cons x).trans ((List.Perm.swap _ _ _).trans ((List.Perm.swap _ _ _).cons a))
def alw(e:g[a]? =some b)(f:g[m]? =some o)(i:a≠m):(wo a m 0 g).Perm (MI g a m):=by
 have h:=Af e f i;rcases axF a m with c|c
 .have d:=OY c g 0 bv e f
  exact((d.symm.trans h).cons_inv).cons_inv
 .have d:=OY (show m<a by omega) g 0 bv f e
  rw[aa2]at d;exact((d.symm.trans (h.trans (List.Perm.swap _ _ _))).cons_inv).cons_inv
def ais{α:Type}(i j:Nat):∀(l:Do α) (k:Nat),(wo i j k l).length<=l.length
 |[],_=>by simp[wo]
 |x::l,k=>by
  have:=ais i j l (k+1);rw[wo];split
  .simp only[aws];omega
  .simp only[aws];omega
def alx{N:Nat}(u:Fu+8<=N)(f:Int){rs:bP}(J:rs.length<=1000)(D:fH b)(s:g.Perm (wo a c 0 rs++[dA b]))(z:g.Pairwise λe i=>ly e<ly i)(A:∀r∈g,r≠[]):
 N5 N (f,rs,[(a:Int),(c:Int)],[b])=some (f,g):=by
 obtain⟨N,rfl⟩:=sC N 1;have K:=ais a c rs 0;have t:rB N N ([(a:Int),(c:Int)],[b],rs,((rs.length:Nat):Int),(((0:Nat):Int),(f,(rs,(0,[])))))=some ([b],f,rs,0,wo a c 0 rs):=by
  refine MM (F:=λm k (j:bP)=>rB N m ([(a:Int),(c:Int)],[b],rs,((rs.length:Nat):Int),((k:Int),(f,(rs,(0,j)))))) (n:=rs.length) (I:=λk j=>j++wo a c k (rs.drop k)=wo a c 0 rs/\j.length<=k) (λm k j E q=>?_) (λm j q=>?_) (by rw[bJ]at u;omega) bv ⟨d5,d5⟩
  .obtain⟨x,p⟩:=get_at (xs:=rs) (i:=k) E
   have o:=q.1;rw[cN p,wo]at o;by_cases d:k=a\/k=c
   .rw[av3 d]at o
    refine⟨j,⟨o,bv⟩,?_⟩;rw[z7,eK bv,ba p,ob,has_eq N bv _ _ d5,ob,awu d7,bW bv];rfl
   .rw[av2 d]at o
    refine⟨j++[x],⟨by rw[awx];exact o,by rw[awl];simp;omega⟩,?_⟩;rw[z7,eK bv,ba p,ob,has_eq N bv _ _ d5,ob,awz d7,cj bv d7,bW bv];rfl
  .have:=q.1
   rw[awZ (av5 _),wo,awN]at this;rw[z7,dF bv,this]
 obtain⟨M,rfl⟩:∃M,N=M+2:=⟨N - 2,by rw[bJ]at u;omega⟩;have H:=D.1;rw[acB];rw[zQ]at t;rw[t,ob];have B:BF (M+2) (M+2) ([b],((([b].length:Nat):Int),((0:Int),(f,(rs,((0:Int),wo a c 0 rs))))))=some (f,rs,0,wo a c 0 rs++[dA b]):=by
  rw[show M+2=(M+1)+1 from rfl,IV,eK d5,show aZ [b] (0:Int)=some b from rfl,ob,aiq _ bv _ bv,ob,cj bv d7,ob,gw bv bv,IV,dF d5]
 rw[B,ob];have w:∀x y:aX,ltOf NV x y=decide (ly x<ly y):=λx y=>axL.2 rA;have C:bC (M+2) (wo a c 0 rs++[dA b])=some g:=by
  have v:lQ (ltOf NV) (wo a c 0 rs++[dA b]):=lQ.perm (l:=g) (z.imp λh=>.inl (by rw[w];exact awu h)) s;have G:=z1 aqR s v (z.imp λ{x y} h=>by rw[w];exact awz bv);unfold bC NT;rw[av3 λx p=>A x (s.mem_iff.2 p),av3 ⟨v,by simp;omega⟩,G]
 simp only[C,ob]
def Wn(N:Nat)(r:Fu+2<=N)(a b c d e:aX)(h:a.length+b.length+c.length+d.length+e.length<=100000):LU N [a,b,c,d,e]=some (a++b++c++d++e):=by
 obtain⟨M,rfl⟩:∃M,N=M+7:=⟨N - 7,by rw[bJ]at r;omega⟩;have w:∀x:Int,0<=x->x<=1000000->wZ x=x:=λx p q=>gw bv bv;have s:∀f g i j k:aX,aZ [f,g,i,j,k] (0:Int)=some f/\aZ [f,g,i,j,k] (1:Int)=some g/\aZ [f,g,i,j,k] (2:Int)=some i/\aZ [f,g,i,j,k] (3:Int)=some j/\aZ [f,g,i,j,k] (4:Int)=some k:=λ_ _ _ _ _=>⟨rfl,rfl,rfl,rfl,rfl⟩;obtain⟨e0,l,m,n,o⟩:=s a b c d e;have p:xV (M+6) (M+6) ([a,b,c,d,e],0,[a,b,c,d,e],((([a,b,c,d,e].length:Nat):Int),(0:Int)))=some ([a,b,c,d,e],((a.length+b.length+c.length+d.length+e.length:Nat):Int)):=by
  simp only[xX,cd,aws,aw4];rw[av3 d6,e0,ob,w _ bv bv,av2 bv,show wZ ((0:Int)+1)=1 by decide,av3 d6,l,ob,w _ bv bv,av2 bv,show wZ ((1:Int)+1)=2 by decide,av3 d6,m,ob,w _ bv bv,av2 bv,show wZ ((2:Int)+1)=3 by decide,av3 d6,n,ob,w _ bv bv,av2 bv,show wZ ((3:Int)+1)=4 by decide,av3 d6,o,ob,w _ bv bv,av2 bv,show wZ ((4:Int)+1)=5 by decide,av2 d6];congr 2;omega
 have q:xU (M+6) (M+6) ([a,b,c,d,e],((([a,b,c,d,e].length:Nat):Int),((0:Int),([]:aX))))=some (a++b++c++d++e):=by
  simp only[xW,cd,aws,aw4];rw[av3 d6,e0,ob,cj bv d7,ob,show wZ ((0:Int)+1)=1 by decide,av3 d6,l,ob,cj bv d7,ob,show wZ ((1:Int)+1)=2 by decide,av3 d6,m,ob,cj bv d7,ob,show wZ ((2:Int)+1)=3 by decide,av3 d6,n,ob,cj bv d7,ob,show wZ ((3:Int)+1)=4 by decide,av3 d6,o,ob,cj bv d7,ob,show wZ ((4:Int)+1)=5 by decide,av2 d6];simp
 rw[show M+7=(M+6)+1 from rfl,Rv,p,ob];unfold fC;rw[awu (by simp only;omega)];simp only[awv,ob];rw[q,ob]
def ait(b:2<=a)(d:1<=c)(e:c<=64)(f:m<c):qG a ((c:Int),(m:Int))=some true:=by
 rw[TQ b,awu (show((1:Int)<=(c:Int)/\(c:Int)<=64)/\0<=(m:Int)/\(m:Int)<(c:Int) by omega)]
def aiu{N:Nat}(O:Fu+9<=N)(h:cz a g)(b:c<a)(d:m<a):
 N6 N ((a:Int),g,(c:Int),(m:Int))=some (if mL g (c:Int)=mL g (m:Int)then(5,(a:Int),g)else(0,(a:Int),rL a g c m)):=by
 obtain⟨N,rfl⟩:=sC N 2;have q:=h.lo;have k:=h.hi;obtain⟨S,w⟩:=h.small;have F:N3 (N+1) ((a:Int),g,(c:Int),(m:Int))=some 0:=by
  rw[acv,h.tr bv,ob];simp only[awj,av8];rw[ait bv q k b,ob];simp only[awj,av8];rw[ait bv q k d,ob];rfl
 have u:=EJ (N:=N+1) bv (a:Int) (c:Int) (rs:=g) bv (λr l=>by have:=w r l;omega);have v:=EJ (N:=N+1) bv (a:Int) (m:Int) (rs:=g) bv (λr l=>by have:=w r l;omega);rw[h.Wj b]at u;rw[h.Wj d]at v;rw[acC,F,ob];simp only[axk,awj,av8];simp only[u,v,ob,cd];by_cases i:mL g (c:Int)=mL g (m:Int)
 .rw[av3 bv,av3 i]
 rw[av2 bv,av2 i];have f:=h.ring b;have j:=h.ring d;have n:=h.body _ f.2.2.1;have o:=h.body _ j.2.2.1;have y:c≠m:=λe=>i (by rw[e]);have P:=n.2.1.1;have R:=o.2.1.1;have t:=Af f.1 j.1 i;have p:=(Dg (n:=a) t).nodup_iff.1 h.nd;have E:=(aaV h.rg h.nd).1 h.all;have I:(vt a (dc g c)).length+(vt a (dc g m)).length<=a:=by
  have:=(Dg (n:=a) t).length_eq;unfold tv at this E;rw[awF,awF,awl,awl]at this;omega
 have H:∀x∈vt a (dc g c),x∉vt a (dc g m):=λx L M=>by
  unfold tv at p;rw[awF,awF]at p;exact(awR.1 p).2.2 x L x (by simp[M]) rfl
 have D:=JU k b d n o f.2.1 j.2.1 H I;have B:OK (dc g c) (c:Int)=(true,eJ (dc g c) (c:Int)):=av3 ⟨n.2.1,f.2.1⟩;have C:OK (dc g m) (m:Int)=(true,eJ (dc g m) (m:Int)):=av3 ⟨o.2.1,j.2.1⟩;have U:=MC (dc g c) (c:Int);have V:=MC (dc g m) (m:Int);have Q:=axV.2 n.1;rw[ba f.1,ob,aaZ (N+1) bv _ _ bv,ob,ba j.1,ob,aaZ (N+1) bv _ _ bv,ob,B,C];simp only;have G:=oK f.2.1;have z:(eJ (dc g c) (c:Int)).take (Int.toNat 1)=[(c:Int)]:=by rw[G];rfl
 rw[wN bv bv,ob,aa0 bv k b d y,ob,aa0 bv k d b (λe=>y e.symm),ob,wO bv bv,ob,z,Wn (N+1) bv _ _ _ _ _ d7,ob];have A:[(c:Int)]++[ek a (c,m)]++eJ (dc g m) (m:Int)++[ek a (m,c)]++(eJ (dc g c) (c:Int)).drop (Int.toNat 1)=rK a c m (dc g c) (dc g m):=rfl;have s:=(aaY h b d i).1;have J:(rL a g c m).Perm (wo (mL g (c:Int)) (mL g (m:Int)) 0 g++[dA (rK a c m (dc g c) (dc g m))]):=by
  refine(x_ _ _).trans ?_;refine((alw f.1 j.1 i).symm.cons _).trans ?_;exact azb (l₁:=[_])
 have K:=alx (N:=N+1) bv (a:Int) (rs:=g) bv D J s.TV (λr l=>(s.body r l).1);rw[A,K,ob]
end
section
open Go Go.RowKit Go.Sort
def aly(h:Fu+2<=a)(l:bh)(o:l.length<=100000):X6 a l=some (l.flatMap λe=>[e.1,e.2]):=by
 obtain⟨a,rfl⟩:=sC a 1;have:=MM (F:=λm k (c:aX)=>GZ a m (l,((l.length:Nat):Int),(k:Int),c)) (n:=l.length) (b:=l.flatMap λe=>[e.1,e.2]) (I:=λk c=>c++(l.drop k).flatMap (λe=>[e.1,e.2])=l.flatMap (λe=>[e.1,e.2])/\c.length<=2*k) (λm k c j f=>by
  obtain⟨x,g⟩:=get_at (xs:=l) (i:=k) j;have d:=f.1;rw[cN g,awF,<-awx]at d;refine⟨_,⟨d,by simp;omega⟩,?_⟩;rw[LJ,eK bv,ba g,ob,cj bv d7,ob,bW bv]) (λm c f=>by
  have d:=f.1;rw[awZ (av5 _),azJ,awN]at d;rw[LJ,dF bv,d]) (m:=a) (i:=0) (s:=[]) (by rw[bJ]at h;omega) bv ⟨d5,d5⟩
 rw[afV];rw[zQ]at this;rw[this,ob]
def aiv{N:Nat}(C:Fu+12<=N)(h:cz a g)(w:n.length<=100000)(l:∀e∈n,l5 (a:Int) e):
 ∃j,YH N ((a:Int),g,n)=some (0,(a:Int),la a g (n.map jd),j):=by
 obtain⟨N,rfl⟩:=sC N 2;have B:fe a (n.map jd):=ti (n:=(a:Int)) bv l;have y:=rM (N:=N) bv h (n.flatMap λe=>[e.1,e.2]) (by
  have:(n.flatMap λe=>[e.1,e.2]).length=n.length*2:=by
   clear l B w
   induction n with
   |nil=>rfl
   |cons x n J=>simp only[awF,awl,J,aws,aw4];omega
  omega)
 rw[av3 (λv f=>by
  obtain⟨e,o,f⟩:=axo.1 f;have:=l e o;rcases awr.1 f with rfl|f
  .exact this.1
  .rcases awr.1 f with rfl|f
   .exact this.2
   .cases f)]at y
 obtain⟨b,q,j,rfl⟩:=lp (F:=λm k (s:bP×bw)=>G8 N m (n,((n.length:Nat):Int),(k:Int),(a:Int),s.1,(0:Int),s.2)) (n:=n.length) (Q:=λb=>∃j,b=((a:Int),la a g (n.map jd),(0:Int),j))
  (I:=λk s=>cz a s.1/\la a s.1 ((n.map jd).drop k)=la a g (n.map jd)/\s.2.length<=k) (λm k s D d=>by
   obtain⟨x,r⟩:=get_at (xs:=n) (i:=k) D;have H:(n.map jd)[k]? =some (jd x):=by rw[awp,r];rfl
   have fj:=l x (awg r);have p:=fj.nat;have o:=am6 fj;have z:x.1=(((jd x).1:Nat):Int):=(awh Prod.fst o).symm;have A:x.2=(((jd x).2:Nat):Int):=(awh Prod.snd o).symm;have G:=HE d.1 p.1 p.2;have u:=d.2.1;rw[cN H,la]at u;have E:=aiu (N:=N) bv d.1 p.1 p.2;refine .inl ⟨(if mL s.1 (((jd x).1:Nat):Int)=mL s.1 (((jd x).2:Nat):Int)then s.1 else rL a s.1 (jd x).1 (jd x).2,s.2++[decide ((if mL s.1 (((jd x).1:Nat):Int)=mL s.1 (((jd x).2:Nat):Int)then(5:Int)else 0)=0)]),⟨G.1,u,by simp only[awl,aws,aw4];have:=d.2.2;omega⟩,?_⟩;have K:=d.2.2;rw[LV,eK bv,ba r,ob];simp only;rw[z,A,E,ob,cj bv (by simp only[aws,aw4];omega),ob,bW bv];by_cases c:mL s.1 (((jd x).1:Nat):Int)=mL s.1 (((jd x).2:Nat):Int)
   .simp only[c,awG]
   .simp only[c,aw1]) (λm s d=>by
   have t:=d.2.1;rw[awZ d5,la]at t;exact⟨_,by rw[LV,dF bv],⟨s.2,by rw[t]⟩⟩) (m:=N) (i:=0) (s:=(g,[])) (by rw[bJ]at C;omega) bv ⟨h,rfl,d5⟩
 refine⟨j,?_⟩;rw[agj,agi,aly bv n w,ob,y,ob];simp only[axk,awj,av8];rw[zQ]at q;simp only at q;rw[q,ob];rfl
def alz(f:Fu+2<=a)(n:Int):NX a n=some (if 1<=n/\n<=64 then(0,n,gy n.toNat)else(1,0,[])):=by
 obtain⟨a,rfl⟩:=sC a 1;rw[acn,C6 bv,ob,Mz];by_cases c:1<=n/\n<=64
 .rw[av3 c,av3 c]
  obtain⟨k,rfl⟩:=nN n;rw[av9];have:=MM (F:=λm i (d:bP)=>Bp a m ((k:Int),(i:Int),(0:Int),(k:Int),d)) (n:=k) (b:=((0:Int),(k:Int),gy k)) (I:=λi d=>d=gy i) (λm i d g e=>by
   subst e;refine⟨gy (i+1),rfl,?_⟩;rw[IN,eK bv,cj bv (by simp[gy];omega),ob,bW bv];have:gy i++[[(i:Int)]]=gy (i+1):=by unfold gy;rw[azc,awQ];rfl
   rw[this]) (λm d e=>by
   subst e;rw[IN,dF bv]) (m:=a) (i:=0) (s:=[]) (by rw[bJ]at f;omega) bv rfl
  rw[zQ]at this;rw[this,ob]
 .rw[av2 c,av2 c]
def eW(n:Nat)(l:bh):bP:=la n (gy n) (l.map jd)
def tB(b:1<=a)(c:a<=64)(d:∀e∈n,l5 (a:Int) e):cz a (eW a n):=(EI (iz b c) (ti (n:=(a:Int)) bv d)).1
def of_eq(j:Fu+13<=a)(b:1<=c)(d:c<=64)(h:n.length<=100000)(f:∀e∈n,l5 (c:Int) e):IW a ((c:Int),n)=some (0,(c:Int),eW c n):=by
 obtain⟨a,rfl⟩:=sC a 1;obtain⟨i,g⟩:=aiv (N:=a) bv (iz b d) h f;rw[acD,alz bv,ob,av3 bv];simp only[axk,awj,av8,av9];rw[g,ob];rfl
def bs(b:Do bm)(a:Int):bh:=(b.filter λt=>t.2.2.2 && decide (a<=t.2.2.1)).map λt=>(t.1,t.2.1)
def T2(p:Fu+2<=a)(g:Int)(e:Do bm)(h:Int)(t:e.length<=100000):Rc a (g,e,h)=some (bs e h):=by
 obtain⟨a,rfl⟩:=sC a 1;have:=MM (F:=λm k (f:bh)=>xS a m (h,e,((e.length:Nat):Int),(k:Int),f)) (n:=e.length) (b:=bs e h) (I:=λk f=>f++bs (e.drop k) h=bs e h/\f.length<=k) (λm k f q l=>by
  obtain⟨x,o⟩:=get_at (xs:=e) (i:=k) q;have d:=l.1;have r:=l.2;rw[cN o,bs,axa]at d;cases j:x.2.2.2 with
  |false=>
   rw[j,Bool.false_and,av2 d6]at d;refine⟨f,⟨d,bv⟩,?_⟩;rw[xT,eK bv,ba o,ob,j,bW bv];rfl
  |true=>
   by_cases c:h<=x.2.2.1
   .rw[j,awu c,Bool.and_self,av3 rfl,awo,<-axn,<-awx]at d
    refine⟨_,⟨d,by rw[awl];simp;omega⟩,?_⟩;rw[xT,eK bv,ba o,ob,j,awv,eK c,cj bv d7,ob,bW bv]
   .rw[j,awz c,Bool.and_false,av2 d6]at d
    refine⟨f,⟨d,bv⟩,?_⟩;rw[xT,eK bv,ba o,ob,j,awv,dF c,bW bv]) (λm f l=>by
  have d:=l.1;rw[awZ (av5 _),bs,azK,axd,awN]at d;rw[xT,dF bv,d]) (m:=a) (i:=0) (s:=[]) (by rw[bJ]at p;omega) bv ⟨d5,d5⟩
 rw[afU];rw[zQ]at this;rw[this,ob]
def aa3(N:Nat)(x y:bm):IM (N+6) (x.1,x.2.1,x.2.2.1,x.2.2.2,y.1,y.2.1,y.2.2.1,y.2.2.2)=some (vj x y):=by
 rw[afT,show N+5=(N+2)+3 from rfl,sT,sT,show N+2+3=N+5 from rfl];simp only[aW,VU];rfl
end
variable{h:Do bm}{v y:bm}
section
open Go Go.RowKit Go.Sort
def MN(b:1<=a)(n:Int):Ra a n=some (decide (1<=n/\n<=64)):=by
 obtain⟨a,rfl⟩:=sC a 1;rw[afP,cd];by_cases c:1<=n<;>simp[c]
def gT(n:Nat):Nat:=if n<=1 then 0 else if n<=2 then 1 else if n<=4 then 2 else if n<=8 then 3 else if n<=16 then 4 else if n<=32 then 5 else 6
set_option maxRecDepth 100000 in
def alA(N:Nat):∀x:Fin 64,XZ (N+3) ((x.1:Nat):Int)=some ((gT (x.1+1):Nat):Int):=by
 intro x;have a:=x.2;rw[afQ,show N+2=(N+1)+1 from rfl,acj,dF bv,ob,aci,dF bv,ob,dF bv];simp only;rw[wu8 bv bv];revert x;unfold aki;decide+kernel
def OZ(f:6<=a)(d:1<=c)(e:c<=64):Ek a (c:Int)=some (gT c:Int):=by
 obtain⟨a,rfl⟩:=sC a 5;have b:wrap .u64 (((c - 1:Nat):Nat):Int)=((c - 1:Nat):Int):=by simp[wZ,wrap,IntKind.bits,IntKind.signed];omega
 have h:=alA a ⟨c - 1,bv⟩;rw[show c - 1+1=c by omega]at h;rw[ack,MN bv,ob,awu bv];simp only[awj,av8];rw[show wZ ((c:Int) - 1)=((c - 1:Nat):Int) by rw[gw bv bv];omega,b,afS];simp only at h;rw[h,ob,ob]
def dM(n:Nat)(t:bm):Prop:=0<=t.1/\t.1<t.2.1/\t.2.1<(n:Int)/\0<=t.2.2.1/\t.2.2.1<=(gT n:Int)
def qQ(a b:bm):Prop:=a.1<b.1\/a.1=b.1/\a.2.1<b.2.1
def lg:vj v y<0↔qQ v y:=nX
structure GR(n:Nat)(ts:List bm):Prop where
 lo:1<=n
 hi:n<=64
 len:ts.length<=400
 tie:∀t∈ts,dM n t
 TV:ts.Pairwise qQ
 fst:(eW n (bs ts 0)).length+(bs ts 0).length=n
def g_(b:∀t∈h,dM a t)(f:Int):∀e∈bs h f,l5 (a:Int) e:=λe c=>by
 obtain⟨t,d,rfl⟩:=awe.1 c;have:=b t (axp.1 d).1;unfold dM at this;exact⟨⟨bv,by show t.1<_;omega⟩,by show 0<=t.2.1;omega,by show t.2.1<_;omega⟩
def kq(a:Do bm)(b:Int):(bs a b).length<=a.length:=by
 unfold bs;rw[awa];exact ayO _ _
def T3(g:h[a]? =some v)(l:h[a+1]? =some y)(c:(h.take (a+1)).Pairwise qQ):(h.take (a+2)).Pairwise qQ↔qQ v y:=by
 have i:=bZ l;rw[i,aA6];have k:v∈h.take (a+1):=by rw[bZ g];simp
 constructor
 .intro f;exact f.2.2 v k y d5
 .intro f
  refine⟨c,List.pairwise_singleton _ _,λd e b j=>?_⟩;rw[awq.1 j];rw[bZ g]at e c;rcases awc.1 e with e|e
  .have:=(aA6.1 c).2.2 d e v d5
   unfold qQ at*;omega
  .rw[awq.1 e];exact f
def T4{N:Nat}(G:Fu+8<=N){n:Nat}(a:Do bm)(H:a.length<=400):∃r,xY N N ((gT n:Int),a,((a.length:Nat):Int),((0:Nat):Int),(n:Int),a)=some r/\(r=.inl ((n:Int),a)/\(∀t∈a,dM n t)/\a.Pairwise qQ\/r=.inr false/\¬((∀t∈a,dM n t)/\a.Pairwise qQ)):=by
 have E:=bJ;refine lp (F:=λm k (_:Unit)=>xY N m ((gT n:Int),a,((a.length:Nat):Int),(k:Int),(n:Int),a)) (n:=a.length) (I:=λk _=>(∀t∈a.take k,dM n t)/\(a.take k).Pairwise qQ) (λm k s A d=>?_) (λm s d=>⟨_,by rw[LW,dF bv],.inl ⟨rfl,by rw[awA (av5 _)]at d;exact d⟩⟩) (m:=N) (i:=0) (s:=()) bv bv ⟨d5,d5⟩;obtain⟨x,e⟩:=get_at (xs:=a) (i:=k) A;have B:=awg e;rw[LW,eK bv,ba e,ob];by_cases f:dM n x
 .obtain⟨q,u,v,w,z⟩:=f
  rw[dF bv,dF bv,dF bv,dF bv,dF bv,cd];have j:∀t∈a.take (k+1),dM n t:=λt h=>by
   rw[bZ e]at h;rcases awc.1 h with h|h
   .exact d.1 t h
   .rw[awq.1 h];exact⟨q,u,v,w,z⟩
  rcases ayu k with g|g
  .subst g
   rw[av2 bv,bW bv];exact .inl ⟨(),⟨j,by rw[bZ e];simp⟩,rfl⟩
  .obtain⟨k,rfl⟩:=sC k 1
   obtain⟨y,p⟩:=get_at (xs:=a) (i:=k) bv;have o:=T3 p e d.2;rw[av3 bv,show wZ (((k+1:Nat):Int) - 1)=(k:Int) by rw[gw bv bv];omega,ba p,ob];have l:=aa3 (N - 6) y x;rw[show N - 6+6=N by omega]at l;rw[l,ob,cd];by_cases c:qQ y x
   .rw[av2 (by have:=lg.2 c;omega),bW bv]
    exact .inl ⟨(),⟨j,o.2 c⟩,rfl⟩
   .rw[av3 (by have:=mt lg.1 c;omega)]
    refine .inr ⟨_,rfl,.inr ⟨rfl,λh=>c (o.1 ?_)⟩⟩;exact h.2.sublist (aAw _ _)
 .refine .inr ?_
  have D:∀r:At (Int×Do bm⊕In),r=some (.inr false)->∃b,r=some b/\(b=.inl ((n:Int),a)/\(∀t∈a,dM n t)/\a.Pairwise qQ\/b=.inr false/\¬((∀t∈a,dM n t)/\a.Pairwise qQ)):=λr C=>⟨_,C,.inr ⟨rfl,λh=>f (h.1 x B)⟩⟩;refine D _ ?_;unfold dM at f;rw[cd];split
  .rfl
  rw[cd];split
  .rfl
  rw[cd];split
  .rfl
  rw[cd];split
  .rfl
  rw[eK bv]
def ya{N:Nat}(m:Fu+16<=N)(g:Int)(a:Do bm)(k:a.length<=100000):∃b,pw N (g,a)=some b/\(b=true↔0<=g/\GR g.toNat a):=by
 obtain⟨N,rfl⟩:=sC N 1;have l:=bJ;rw[agl,MN bv,ob,Mz];by_cases d:1<=g/\g<=64
 .rw[av3 d,cd]
  obtain⟨n,rfl⟩:=nN g;rw[av9];by_cases i:(400:Int)<((a.length:Nat):Int)
  .rw[av3 i]
   exact⟨_,rfl,λh=>(by cases h),λh=>absurd h.2.len bv⟩
  .rw[av2 i,OZ bv bv bv,ob]
   obtain⟨r,f,h⟩:=T4 (N:=N) bv (n:=n) a bv;rw[zQ]at f;rw[f,ob];rcases h with⟨rfl,c,j⟩|⟨rfl,c⟩
   .simp only
    have o:=kq a 0;rw[T2 bv _ _ _ k,ob,of_eq bv bv bv bv (g_ c 0),ob,eK rfl];simp only;rw[gw bv bv];refine⟨_,rfl,?_⟩;rw[awJ];constructor
    .intro e;exact⟨bv,bv,bv,bv,c,j,bv⟩
    .intro e;have:=e.2.fst;omega
   .exact⟨_,rfl,λh=>(by cases h),λh=>absurd ⟨h.2.tie,h.2.TV⟩ c⟩
 .rw[av2 d]
  exact⟨_,rfl,λh=>(by cases h),λh=>absurd (⟨by have:=h.2.lo;omega,by have:=h.2.hi;omega⟩) d⟩
def GR.right(e:Fu+16<=a)(d:GR c h):pw a ((c:Int),h)=some true:=by
 obtain⟨b,f,g⟩:=ya e (c:Int) h (by have:=d.len;omega);rw[f,g.2 ⟨bv,by rw[av9];exact d⟩]
def bX(a:Do bm):bh:=a.map λt=>(t.1,t.2.1)
def yb(n:Fu+17<=a)(d:GR c h):Jk a ((c:Int),h)=some (bX h):=by
 obtain⟨a,rfl⟩:=sC a 1;have l:=bJ;have p:=d.len;have:=MM (F:=λm k (e:bh)=>Ho a m (h,((h.length:Nat):Int),(k:Int),e)) (n:=h.length) (b:=bX h) (I:=λk e=>e=bX (h.take k)) (λm k e j f=>by
  obtain⟨x,g⟩:=get_at (xs:=h) (i:=k) j;have o:e.length<=400:=by rw[f,bX,awa,awM];omega
  refine⟨e++[(x.1,x.2.1)],by rw[f,bZ g];simp[bX],?_⟩;rw[Mj,eK bv,ba g,ob,cj bv d7,ob,bW bv]) (λm e f=>by
  rw[Mj,dF bv,f,awA (av5 _)]) (m:=a) (i:=0) (s:=[]) bv bv (by simp[bX])
 rw[ag_,d.right bv,ob];simp only[awj,av8];rw[zQ]at this;rw[this,ob]
def tD(e:Fu+17<=a)(b:GR c h)(d:Int):Jq a ((c:Int),h,d)=some (0,(c:Int),eW c (bs h d)):=by
 obtain⟨a,rfl⟩:=sC a 1;have f:=b.len;have:=kq h d;rw[ahk,b.right bv,ob];simp only[awj,av8];rw[T2 bv _ _ _ bv,ob,of_eq bv b.lo b.hi bv (g_ b.tie d),ob]
def GR.Ag(b:GR a h)(c:Int):cz a (eW a (bs h c)):=tB b.lo b.hi (g_ b.tie c)
def EK:vj v y=0↔v.1=y.1/\v.2.1=y.2.1:=by
 unfold vj rz;split
 next h=>have:=lR.1 h;rw[lR];exact⟨λk=>⟨this,k⟩,λk=>k.2⟩
 next h=>have:=mt lR.2 h;exact⟨λk=>absurd k h,λk=>absurd k.1 this⟩
def w9{l:Do i}{x:i}(h:l[a]? =some x):a<l.length:=(av7.1 h).1
def aiw{a b c:bm}(h:qQ a b)(k:qQ b c):qQ a c:=by unfold qQ at*;omega
def Wo(b:h.Pairwise qQ)(g:h[a]? =some v)(i:h[c]? =some y)(f:a<c):qQ v y:=by
 obtain⟨d,rfl⟩:=av7.1 g;obtain⟨e,rfl⟩:=av7.1 i;exact ay6.1 b a c d e f
def Wp{N:Nat}(L:Fu+8<=N)(a:Do bm)(M:a.length<=400)(t:a.Pairwise qQ)(y:bm):∃(i:Int) (b:In),alc N (a,y)=some (i,b)/\(b=true->∃(k:Nat) (x:bm),i=(k:Int)/\a[k]? =some x/\vj x y=0)/\(b=false->∀x∈a,vj x y≠0):=by
 obtain⟨N,rfl⟩:=sC N 1;have K:=bJ;have w:∀x:bm,IM N (x.1,x.2.1,x.2.2.1,x.2.2.2,y.1,y.2.1,y.2.2.1,y.2.2.2)=some (vj x y):=λx=>by
  have:=aa3 (N - 6) x y;rwa[show N - 6+6=N by omega]at this
 have J:∀(d i j m:Nat),j - i<=d->d<m->i<=j->j<=a.length->(∀(p:Nat) (x:bm),p<i->a[p]? =some x->qQ x y)->(∀(p:Nat) (x:bm),j<=p->a[p]? =some x->¬qQ x y)->∃k:Nat,Jv N m (a,((a.length:Nat):Int),(i:Int),(j:Int),y)=some (a,((a.length:Nat):Int),(k:Int),y)/\(∀(p:Nat) (x:bm),p<k->a[p]? =some x->qQ x y)/\(∀(p:Nat) (x:bm),k<=p->a[p]? =some x->¬qQ x y):=by
  intro d
  induction d with
  |zero=>
   intro i j m u E F G q r;obtain⟨m,rfl⟩:=sC m 1;obtain rfl:i=j:=bv
   exact⟨i,by rw[Jw,dF bv],q,r⟩
  |succ d B=>
   intro i j m u E F G q r;obtain⟨m,rfl⟩:=sC m 1;by_cases c:i<j
   .have C:(2:Int)^(min (Int.toNat (1:Int)) (64:Nat))=2:=d6
    have D:wZ (Int.fdiv (wrap .u64 (wZ ((i:Int)+(j:Int)))) 2)=(((i+j)/2:Nat):Int):=by
     rw[gw (x:=(i:Int)+(j:Int)) bv bv,show wrap .u64 ((i:Int)+(j:Int))=((i+j:Nat):Int) by simp[wZ,wrap,IntKind.bits,IntKind.signed];omega,azL _ bv,gw bv bv];omega
    obtain⟨x,g⟩:=get_at (xs:=a) (i:=(i+j)/2) bv;rw[Jw,eK bv,C,D,ba g,ob,w,ob,cd];by_cases l:vj x y<0
    .rw[av3 l,bW bv]
     refine B _ _ m bv bv bv bv (λp z o f=>?_) r;rcases axF p ((i+j)/2)with h|h
     .exact aiw (Wo t f g h) (lg.1 l)
     .obtain rfl:p=(i+j)/2:=bv
      rw[g]at f;rw[<-av_ f];exact lg.1 l
    .rw[av2 l]
     refine B _ _ m bv bv bv bv q λp z o f s=>?_;rcases axF ((i+j)/2) p with h|h
     .exact l (lg.2 (aiw (Wo t g f h) s))
     .obtain rfl:p=(i+j)/2:=bv
      rw[g]at f;rw[<-av_ f]at s;exact l (lg.2 s)
   .obtain rfl:i=j:=bv
    exact⟨i,by rw[Jw,dF bv],q,r⟩
 obtain⟨k,A,H,I⟩:=J a.length 0 a.length N bv bv bv (av5 _) (λp x h=>absurd h bv) (λp x h g=>absurd (w9 g) bv);have v:∀x∈a,vj x y=0->a[k]? =some x:=λx g n=>by
  obtain⟨p,o⟩:=ayM g;have e:=EK.1 n;rcases axH p k with h|h|h
  .have:=H p x h o
   unfold qQ at this;omega
  .rw[<-h];exact o
  .obtain⟨z,f⟩:=get_at (xs:=a) (i:=k) (by have:=w9 o;omega)
   have u:=Wo t f o h;exact absurd (by unfold qQ at*;omega) (I k z (av5 k) f)
 rw[zQ]at A;obtain⟨O,P,Q,R⟩:=y;rw[ald,A,ob,cd];simp only;by_cases c:k<a.length
 .obtain⟨x,g⟩:=get_at (xs:=a) (i:=k) c
  rw[av3 bv,ba g,ob];have:=w x;simp only at this;rw[this,ob];refine⟨_,_,rfl,λh=>⟨k,x,rfl,g,awX h⟩,λh z f n=>?_⟩;have:=v z f n;rw[g]at this;rw[av_ this]at h;exact absurd n (axT h)
 .rw[av2 bv]
  refine⟨_,_,rfl,(λh=>by cases h),λh z f n=>?_⟩;exact c (w9 (v z f n))
def aix{N:Nat}(j:Fu+18<=N)(c:GR a h)(u v:Int):∃i:Int,Oy N ((a:Int),h,u,v)=some i/\(i= -1/\(∀x∈h,¬(x.1=min u v/\x.2.1=max u v))\/∃(k:Nat) (x:bm),i=(k:Int)/\h[k]? =some x/\x.1=min u v/\x.2.1=max u v):=by
 obtain⟨N,rfl⟩:=sC N 2;obtain⟨i,b,g,f⟩:=Wp (N:=N) bv h c.len c.TV (if v<u then v else u,if v>u then v else u,0,false);rw[adg,c.right bv,ob];simp only[awj,av8];rw[ahz,g,ob,ob];cases b with
 |false=>
  refine⟨-1,rfl,.inl ⟨rfl,λx e d=>f.2 rfl x e (EK.2 ⟨?_,?_⟩)⟩⟩
  .rw[d.1];simp only;split<;>omega
  .rw[d.2];simp only;split<;>omega
 |true=>
  obtain⟨k,x,rfl,e,d⟩:=f.1 rfl;have:=EK.1 d;simp only at this;refine⟨(k:Int),rfl,.inr ⟨k,x,rfl,e,?_,?_⟩⟩
  .rw[this.1];split<;>omega
  .rw[this.2];split<;>omega
end
variable{D:Int×Int->Prop}
section
open Go Go.RowKit Go.Sort
def T5{s:Sc}(f:s.key=true)(c d:s.dp)(v:i):∀a:Do (s.dp×i),(c=d->bN s (d_ s a c v) d=some v)/\(c≠d->bN s (d_ s a c v) d=bN s a d):=by
 have g:∀{x y:s.dp},x≠y->jE s x y=false:=λ{x y} h=>by
  cases j:jE s x y with
  |false=>rfl
  |true=>exact absurd ((fT s _ _ f).1 j) h
 intro a
 induction a with
 |nil=>
  simp only[d_,bN];exact⟨λe=>by rw[(fT s _ _ f).2 e];rfl,λe=>by rw[g e];rfl⟩
 |cons p a k=>
  simp only[d_];by_cases h:p.1=c
  .rw[(fT s _ _ f).2 h]
   simp only[awv,bN];exact⟨λe=>by rw[(fT s _ _ f).2 (h.trans e)];rfl,λe=>by rw[g λb=>e (h.symm.trans b)];rfl⟩
  .rw[g h]
   simp only[av8,bN];by_cases b:p.1=d
   .rw[(fT s _ _ f).2 b];exact⟨λe=>absurd (b.trans e.symm) h,λ_=>rfl⟩
   .rw[g b];exact k
def aa4{e:i->i->In}(f:SWO e){l:Do i}(j:lQ e l)(n:l.length<1099511627776):∃r,NT e l=some r/\r.Perm l/\r.Pairwise λx y=>e x y=true:=by
 have k:=azw l λx y=> !e y x;have o:=aAY (le:=λx y=> !e y x) (λa b c g d=>by
  simp only[axi]at g d⊢;exact f.ntrans _ _ _ d g) (λa b=>by
  simp only[aw2,axi];cases h:e b a with
  |false=>exact .inl rfl
  |true=>
   refine .inr ?_;cases d:e a b with
   |false=>rfl
   |true=>have:=f.trans _ _ _ h d;rw[f.irrefl]at this;cases this) l
 refine⟨_,av3 ⟨j,n⟩,k,?_⟩;have m:=lQ.perm j k.symm;refine(List.pairwise_and_iff.2 ⟨o,m⟩).imp λ{x y} h=>?_;rcases h.2 with d|d
 .exact d
 .have:=h.1;rw[d]at this;cases this
def dQ(e:Int×Int):Int×Int:=(min e.1 e.2,max e.1 e.2)
def JZ(e:Int×Int):(if e.2<e.1 then e.2 else e.1)=(dQ e).1/\(if e.2>e.1 then e.2 else e.1)=(dQ e).2:=by
 unfold dQ;constructor<;>simp only<;>split<;>omega
def eLt(a b:Int×Int):Prop:=a.1<b.1\/a.1=b.1/\a.2<b.2
abbrev AE:Sc:=.pr (.i .i64) (.i .i64)
def Mk(m:HK)(p:Int×Int->Prop):Prop:=∀e,(p e->(bN AE m e).getD 0=1)/\(¬p e->(bN AE m e).getD 0=0)
def Mk.put{m:HK}(h:Mk m D)(x:Int×Int):Mk (d_ AE m x (1:Int)) λe=>D e\/e=x:=λe=>by
 have d:=T5 (s:=AE) rfl x e (1:Int) m;by_cases c:x=e
 .refine⟨λ_=>?_,λb=>absurd (.inr c.symm) b⟩
  have:=d.1 c;rw[this];rfl
 .have:=d.2 c
  refine⟨λa=>?_,λb=>?_⟩
  .rw[this]
   rcases a with a|a
   .exact(h e).1 a
   .exact absurd a.symm c
  .rw[this];exact(h e).2 λa=>b (.inl a)
def Mk.imp{m:HK}{p q:Int×Int->Prop}(h:Mk m p)(a:∀e,p e↔q e):Mk m q:=λe=>⟨λd=>(h e).1 ((a e).2 d),λb=>(h e).2 λc=>b ((a e).1 c)⟩
def aiy:u∈bX h↔∃t∈h,(t.1,t.2.1)=u:=by simp[bX]
def yc(b:∀t∈h,dM a t):∀e∈bX h,0<=e.1/\e.1<e.2/\e.2<(a:Int):=λe c=>by
 obtain⟨t,d,rfl⟩:=aiy.1 c;have:=b t d;exact⟨this.1,this.2.1,this.2.2.1⟩
def rN(a:h.Pairwise qQ):(bX h).Pairwise eLt:=ayL.2 a
def nY(h:n.Pairwise eLt):n.Nodup:=h.imp λ{a b} h e=>by
 subst e;unfold eLt at h;omega
def apg{a b:Int×Int}(h:ltOf rz a b=true):eLt a b:=nX.1 (awX h)
def adA(h:n.Nodup):lQ (ltOf rz) n:=h.imp λ{a b} h=>by
 by_cases c:eLt a b
 .exact .inl (awu (nX.2 c))
 .refine .inr (awu (nX.2 ?_))
  have:¬(a.1=b.1/\a.2=b.2):=λe=>h (axz e.1 e.2);unfold eLt at c;omega
structure alB(n:Nat)(ts:List bm)(l fg:bh):Prop where
 TV:fg.Pairwise eLt
 mem:∀e,e∈fg↔e.1<e.2/\e∈l.map dQ/\e∉bX ts
 inn:∀x∈l,l5 (n:Int) x
 len:fg.length<=l.length
def alB.rng{l c:bh}(b:alB a h l c):∀e∈c,0<=e.1/\e.1<e.2/\e.2<(a:Int):=λe g=>by
 obtain⟨d,f,_⟩:=(b.mem e).1 g;obtain⟨x,i,rfl⟩:=awe.1 f;have:=b.inn x i;unfold l5 at this;refine⟨by simp only[dQ];omega,d,by simp only[dQ];omega⟩
def aiz{N:Nat}(hN:Fu+18<=N)(f:GR a h)(l:bh)(hl:l.length<=100000):
 (EA N ((a:Int),h,l)=some (10,[])/\¬∀x∈l,l5 (a:Int) x)\/∃n,EA N ((a:Int),h,l)=some (0,n)/\alB a h l n:=by
 obtain⟨N,rfl⟩:=sC N 1;have hF:=bJ;have a1:=f.len;have a0:(bX h).length=h.length:=by simp[bX]
 obtain⟨b1,J,A,rfl,R⟩:=lp (F:=λm k (s:HK)=>CB N m (l,(((bX h).length:Nat):Int),(k:Int),(a:Int),h,s,bX h)) (n:=(bX h).length) (Q:=λb=>∃A,b=(l,(a:Int),h,A)/\Mk A λe=>e∈bX h) (I:=λk s=>Mk s λe=>e∈(bX h).take k) (λm k s D o=>by
  obtain⟨x,j⟩:=get_at (xs:=bX h) (i:=k) D;exact .inl ⟨d_ AE s x (1:Int),(o.put x).imp λe=>by rw[bZ j];simp,by rw[Jp,eK bv,ba j,ob,ob,bW bv]⟩) (λm s o=>⟨_,by rw[Jp,dF bv],s,rfl,o.imp λe=>by rw[awA (av5 _)]⟩) (m:=N) (i:=0) (s:=[]) bv bv (λe=>⟨λP=>by simp at P,λ_=>rfl⟩)
 obtain⟨b2,C,U⟩:=lp (F:=λm k (s:HK×bh)=>rE N m (l,((l.length:Nat):Int),(k:Int),(a:Int),h,s.1,s.2)) (n:=l.length) (Q:=λb=>(b=.inr 10/\¬∀x∈l,l5 (a:Int) x)\/∃n,b=.inl n/\n.Nodup/\(∀e,e∈n↔e.1<e.2/\e∈l.map dQ/\e∉bX h)/\(∀x∈l,l5 (a:Int) x)/\n.length<=l.length)
  (I:=λk s=>Mk s.1 (λe=>e∈bX h\/e∈s.2)/\s.2.Nodup/\(∀e,e∈s.2↔e.1<e.2/\e∈(l.take k).map dQ/\e∉bX h)/\(∀x∈l.take k,l5 (a:Int) x)/\s.2.length<=k) (λm k s D o=>by
   obtain⟨x,j⟩:=get_at (xs:=l) (i:=k) D;have L:=awg j;obtain⟨t,G,z,W,i5⟩:=o;rw[Jo,eK bv,ba j,ob,(JZ x).1,(JZ x).2,cd];have q:l5 (a:Int) x↔¬(dQ x).1<0/\¬(a:Int)<=(dQ x).2:=by unfold l5 dQ;omega
   by_cases u:(dQ x).1<0
   .rw[av3 u];exact .inr ⟨_,rfl,.inl ⟨rfl,λf=>(q.1 (f x L)).1 u⟩⟩
   rw[av2 u,cd];by_cases v:(a:Int)<=(dQ x).2
   .rw[av3 v];exact .inr ⟨_,rfl,.inl ⟨rfl,λf=>(q.1 (f x L)).2 v⟩⟩
   rw[av2 v,cd];have fj:∀y∈l.take (k+1),l5 (a:Int) y:=λy p=>by
    rw[bZ j]at p;rcases awc.1 p with p|p
    .exact W y p
    .rw[awq.1 p];exact q.2 ⟨u,v⟩
   have E:∀e,e∈(l.take (k+1)).map dQ↔e∈(l.take k).map dQ\/e=dQ x:=λe=>by
    rw[bZ j,awQ,awc,List.map_singleton,awq]
   by_cases w:(dQ x).1<(dQ x).2
   .rw[av3 w,cd]
    by_cases g:dQ x∈bX h\/dQ x∈s.2
    .have B:(bN AE s.1 (dQ x)).getD 0=1:=(t _).1 g
     rw[show(bN AE s.1 ((dQ x).1,(dQ x).2)).getD 0=1 from B,av2 bv,bW bv];refine .inl ⟨s,⟨t,G,λe=>?_,fj,bv⟩,rfl⟩;rw[z e,E];constructor
     .rintro⟨d,b,c⟩;exact⟨d,.inl b,c⟩
     .rintro⟨d,b|rfl,c⟩
      .exact⟨d,b,c⟩
      .rcases g with g|g
       .exact absurd g c
       .exact(z _).1 g
    .have B:(bN AE s.1 (dQ x)).getD 0=0:=(t _).2 g
     rw[show(bN AE s.1 ((dQ x).1,(dQ x).2)).getD 0=0 from B,av3 rfl,cj bv d7,ob,bW bv];refine .inl ⟨(d_ AE s.1 (dQ x) (1:Int),s.2++[dQ x]),⟨(t.put _).imp λe=>by simp[or_assoc],?_,λe=>?_,fj,by simp;omega⟩,rfl⟩
     .exact awR.2 ⟨G,d5,λd M b O e=>g (.inr (by rw[<-awq.1 O,<-e];exact M))⟩
     .rw[awc,awq,z e,E]
      constructor
      .rintro(⟨d,b,c⟩|rfl)
       .exact⟨d,.inl b,c⟩
       .exact⟨w,.inr rfl,λf=>g (.inl f)⟩
      .rintro⟨d,b|rfl,c⟩
       .exact .inl ⟨d,b,c⟩
       .exact .inr rfl
   .rw[av2 w,bW bv]
    refine .inl ⟨s,⟨t,G,λe=>?_,fj,bv⟩,rfl⟩;rw[z e,E];constructor
    .rintro⟨d,b,c⟩;exact⟨d,.inl b,c⟩
    .rintro⟨d,b|rfl,c⟩
     .exact⟨d,b,c⟩
     .exact absurd d w) (λm s o=>⟨_,by rw[Jo,dF bv],.inr ⟨s.2,rfl,by have H:=o.2;rw[awA (av5 _)]at H;exact H⟩⟩) (m:=N) (i:=0) (s:=(A,[])) bv bv ⟨R.imp λe=>by simp,d5,λe=>by simp,λx j=>by simp at j,d5⟩
 rw[zQ]at J C;simp only at C;rw[ac4,f.right bv,ob];simp only[awj,av8];rw[yb bv f,ob,J,ob];simp only;rw[C,ob];rcases U with⟨rfl,S⟩|⟨n,rfl,X,Y,Z,q4⟩
 .exact .inl ⟨rfl,S⟩
 .obtain⟨r,q,K,V⟩:=aa4 amL (adA X) bv
  refine .inr ⟨r,?_,V.imp apg,λe=>by rw[K.mem_iff];exact Y e,Z,by rw[K.length_eq];exact q4⟩;simp only;unfold cC;rw[q,ob]
end
section
open Go Go.RowKit Go.Sort
def yd(d:1<=a)(b:Do bm)(c:b.length<=100000000000):aac a b=some b:=by
 obtain⟨a,rfl⟩:=sC a 1;rw[ahu,cj bv (by simpa using c),awL];cases b with
 |nil=>exact xM.2 ⟨rfl,rfl⟩
 |cons x e=>rfl
def J0(n:Nat):∀(l:bu) (a:bP),(lW n a l).length=l.length
 |[],_=>rfl
 |e::l,a=>by rw[lW,aws,J0 n l,aws]
def Ah(a:bh)(c:bw):Do bm:=List.zipWith (λx b=>(x.1,x.2,(0:Int),b)) a c
def J1{a:bw}(h:a.length=n.length):(Ah n a).length=n.length:=by simp[Ah,h]
def aiA{a:bw}(h:a.length=n.length):bX (Ah n a)=n:=by
 unfold Ah bX;rw[List.map_zipWith];refine axA λi=>?_;by_cases c:i<n.length
 .obtain⟨x,e⟩:=get_at (xs:=n) c
  obtain⟨b,d⟩:=get_at (xs:=a) (i:=i) bv;rw[aAx,e,d]
 .rw[awO (by simp[h];omega),awO bv]
def aiB(a b:Do bm):bX (a++b)=bX a++bX b:=awQ
def Wq(d:(bX h).Nodup):lQ (ltOf vj) h:=(ayL.1 d).imp λ{a b} d=>by
 by_cases c:qQ a b
 .exact .inl (awu (lg.2 c))
 .refine .inr (awu (lg.2 ?_))
  have:¬(a.1=b.1/\a.2.1=b.2.1):=λe=>d (axz e.1 e.2);unfold qQ at c⊢;omega
def aph(h:ltOf vj v y=true):qQ v y:=lg.1 (awX h)
structure asi(n:Nat)(ts fg jl:List bm):Prop where
 perm:jl.Perm (ts++fg)
 TV:jl.Pairwise qQ
def w_(n:Nat)(b:Do bm)(a:bh):bw:=lW n (eW n (bs b 0)) (a.map jd)
def Ai(n:Nat)(b:Do bm)(a:bh):(w_ n b a).length=a.length:=by rw[w_,J0,awa]
def add_eq{N:Nat}(L:Fu+20<=N)(d:GR a h)(l:bh)(C:l.length<=100000):
 (qN N ((a:Int),h,l)=some (0,10,(a:Int),h)/\¬∀x∈l,l5 (a:Int) x)\/∃fg,alB a h l fg/\((400<h.length+fg.length/\qN N ((a:Int),h,l)=some (0,2,(a:Int),h))\/
  h.length+fg.length<=400/\∃v,qN N ((a:Int),h,l)=some (((fg.length:Nat):Int),0,(a:Int),v)/\asi a h (Ah fg (w_ a h fg)) v):=by
 obtain⟨N,rfl⟩:=sC N 1;have K:=bJ;have R:=d.len;rw[adf];rcases aiz (N:=N) bv d l C with⟨p,w⟩|⟨fg,p,j⟩
 .rw[p,ob];exact .inl ⟨rfl,w⟩
 .refine .inr ⟨fg,j,?_⟩
  have O:=j.len;rw[p,ob,DR rfl];simp only;obtain⟨M,rfl⟩:=sC N 1;rw[ac6,ob,gw bv bv,Mz];by_cases c:h.length+fg.length<=400
  .rw[av3 bv,tD bv d,ob]
   simp only;have z:wV (a:Int) fg=0:=by
    rw[OX d.lo d.hi,av3 λe A=>by have:=j.rng e A;exact⟨⟨bv,bv⟩,bv,bv⟩]
   rw[Wl bv (d.Ag 0) fg bv,z,ob,av3 rfl,yd bv _ bv,ob];simp only;rw[show lW a (eW a (bs h 0)) (fg.map jd)=w_ a h fg from rfl];have q:=Ai a h fg;generalize w_ a h fg=g at*;have P:=J1 q;have t:=MM (F:=λm k (s:Do bm)=>CI (M+1) m (((fg.length:Nat):Int),(k:Int),(a:Int),h,(0:Int),fg,g,s)) (n:=fg.length) (b:=((a:Int),h,(0:Int),fg,h++Ah fg g)) (I:=λk s=>s=h++(Ah fg g).take k) (λm k s B n=>by
    obtain⟨x,u⟩:=get_at (xs:=fg) (i:=k) B;obtain⟨b,o⟩:=get_at (xs:=g) (i:=k) bv;have D:(Ah fg g)[k]? =some (x.1,x.2,(0:Int),b):=by unfold Ah;rw[aAx,u,o]
    have Q:s.length<=100000:=by rw[n,awl,awM];omega
    exact⟨_,by rw[bZ D,<-awx,<-n],by rw[Ju,eK bv,ba u,ob,ob,ba o,ob,ob,cj bv d7,ob,bW bv]⟩) (λm s n=>by rw[Ju,dF bv,n,awA bv]) (m:=M+1) (i:=0) (s:=h) bv bv d5
   rw[zQ]at t;rw[t,ob];simp only;have E:(bX (h++Ah fg g)).Nodup:=by
    rw[aiB,aiA q];exact awR.2 ⟨nY (rN d.TV),nY j.TV,λf y b o e=>((j.mem b).1 o).2.2 (e▸y)⟩
   obtain⟨r,H,G,J⟩:=aa4 aqQ (Wq E) (by rw[awl];omega);unfold cW;rw[H,ob];exact .inr ⟨c,r,rfl,G,J.imp aph⟩
  .rw[av2 bv]
   exact .inl ⟨bv,rfl⟩
