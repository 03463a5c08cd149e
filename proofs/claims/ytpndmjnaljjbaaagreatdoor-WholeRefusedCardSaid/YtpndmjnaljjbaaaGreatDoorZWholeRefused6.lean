/- part 6 -/
import Derived.Test.YtpndmjnaljjbaaaGreatDoorZWholeRefused5
set_option linter.all false
noncomputable section
open Go Go.RowKit
open IntKind (wrap)
set_option maxRecDepth 100000
open Go.Proofs.Tryz
namespace Go.Proofs.YtpndmjnaljjbaaaGreatDoor
noncomputable def asO:bs:=match gq [1,0]with
 |.region _ a _=>a.toList
 |_=>[]
def avV:∃id,gq [1,0]=.region id asO.toArray false:=⟨_,rfl⟩
def aqw:∃(c d:EQ) (p1 p2:String) (a b:dM) (e:EQ),asO=⟨some 8,.move (.tmp 3),c,p1,a,none⟩::⟨some 9,.typeAssert (.tmp 8) e 121 true,d,p2,b,none⟩::asL:=⟨_,_,_,_,_,_,_,rfl⟩
noncomputable def gAv:Do EV:=[.pt 4294967296 0,.pt 4294967297 0,.pt 4294967298 0]
noncomputable def gS(n:Int)(c:Do bq)(a b:Int):Do EV:=[.sc j1 n,.sc iU c,.sc j1 a,.sc j1 b]
noncomputable def gH(n:Int)(c:Do bq)(a b:Int)(d e:Do EV):eW:=[(4294967296,some (.box 26 (gS n c a b))),(4294967297,some (.box 26 d)),(4294967298,some (.box 40 e))]
noncomputable def gE(e n:Int)(c:Do bq)(a b:Int)(d f:Do EV):cT:=⟨20,(9,.tu [.ag [.sc j1 e],.sc .b true])::(8,.v (oE e))::(3,.v (oE e))::(6,.v (oE e))::LY 0 gAv,gH n c a b d f⟩
abbrev GR2:Type:=At eh×At eh
noncomputable def gK:IR->cT->At GR2
 |.normal,E=>some (bG E.h 4294967297,bG E.h 4294967298)
 |.ret,E=>some (bG E.h 4294967297,bG E.h 4294967298)
 |_,_=>none
noncomputable def zS:Do EV:=[.sc j1 0,.nil,.sc j1 0,.sc j1 0]
noncomputable def zR:Do EV:=[.sc j1 0,.sc j1 0,.nil]
def atN e n c a b:G6 T [] asO asL (gE e n c a b zS zR) (λE=>yB T [] 0 (gq [1,1]) .z E GR2 gK)=
 some (some (.box 26 (gS n c a b)),some (.box 40 [.sc j1 e,.sc j1 0,.nil])):=ci
def ajt(e n:Int)(c:Do bq)(a b:Int)(H:Hp):Prop:=
 bc H 4294967297=some (cx (.box 26 (gS n c a b)))/\bc H 4294967298=some (cx (.box 40 [.sc j1 e,.sc j1 0,.nil]))
def aeF(e n:Int)(g:Do bq)(b f:Int):DCX Tryz.prog 43 (bE (gH n g b f zS zR)) (cg gAv) (.panicking [{v:=oE e,recovered:=false}]) (.panicking [{v:=oE e,recovered:=true}]) (ajt e n g b f):=by
 refine DCX.rec (fn:=f43) (c0:=gq [0]) (c1:=.seq (gq [1,0]) (gq [1,1])) func43 ci atM (by show _<=20;rw[show(cg gAv).length=3 from rfl];decide) (by show(20:Nat)<=1000000;decide) (by show 6<20;decide) rfl ?_;obtain⟨id,hid⟩:=avV;rw[hid];refine TC.seq (TC.region ?_)
 suffices H:∀l,l=asO->TL Tryz.prog asO.toArray l ⟨20,(3,.v (oE e))::(6,.v (oE e))::vf 0 (cg gAv),bE (gH n g b f zS zR)⟩ (Q8 (λh=>TC Tryz.prog (gq [1,1]) h λx h=>(x=.normal\/x=.ret)/\ajt e n g b f h.h) λx h=>(x=.normal\/x=.ret)/\ajt e n g b f h.h)from H _ rfl
 intro l r;obtain⟨P,R,p1,p2,M,N,S,B⟩:=aqw;rw[B]at r;subst r;have t:Place Tryz.prog T []:=EJ [] 0;refine TL.cons λz m=>GS.plain rfl (SS.read (RS.an3 (c:=.v (oE e)) rfl) (by show 8<20;decide) (m _ ?_));refine TL.cons λz m=>GS.plain rfl (SS.read (RS.assert (v:=.agg #[.int .i64 e]) (c:=.ag [.v (.int .i64 e)]) (by exact⟨_,rfl⟩) rfl λRd E=>.ag [.int .i64 e] rfl λj c u o y=>?_) (by show 9<20;decide) (m _ ?_))
 .match j with
  |0=>simp at o y;subst o;subst y;exact .v
  |j+1=>simp at o
 have C:(⟨20,(9,.tu [.ag [.v (.int .i64 e)],.v (.bool true)])::(8,.v (oE e))::(3,.v (oE e))::(6,.v (oE e))::vf 0 (cg gAv),bE (gH n g b f zS zR)⟩:St)=bu (gE e n g b f zS zR):=by
  unfold bu gE;simp only[vA,gD,axJ];rfl
 have q:=WQ t (atN e n g b f);refine TL.of ?_;have J:AL Tryz.prog asO.toArray asL ⟨20,(9,.tu [.ag [.v (.int .i64 e)],.v (.bool true)])::(8,.v (oE e))::(3,.v (oE e))::(6,.v (oE e))::vf 0 (cg gAv),bE (gH n g b f zS zR)⟩ _:=C▸q;intro K A e0 a w Q D G;refine J K A e0 a w Q D λh I=>G h ?_;obtain⟨L,rfl,F⟩:=I;refine(TC.ex t ci F).mono λx s q=>?_;obtain⟨k,rfl,_,d⟩:=q;have p:bG k.h 4294967297=some (.box 26 (gS n g b f))/\bG k.h 4294967298=some (.box 40 [.sc j1 e,.sc j1 0,.nil])/\(x=.normal\/x=.ret):=by
  cases x with
  |normal=>simp only[gK,axq,axI]at d;exact⟨d.1,d.2,.inl rfl⟩
  |ret=>simp only[gK,axq,axI]at d;exact⟨d.1,d.2,.inr rfl⟩
  |_=>cases d
 refine⟨p.2.2,?_,?_⟩
 .show bc (bE k.h) _=_
  rw[dc,p.1];rfl
 .show bc (bE k.h) _=_
  rw[dc,p.2.1];rfl
variable{i:Type}
noncomputable def nV:Do CO:=[asK,ll]
noncomputable def pO:bs:=match pq [1,1,1,1,0]with
 |.region _ a _=>a.toList
 |_=>[]
def pq5:∃id,pq [1,1,1,1,0]=.region id pO.toArray false:=⟨_,rfl⟩
noncomputable def pAv(n:Int)(i:Do bq)(c h k:Int)(d:bj)(f:lP)(a b g P:Int)(e:bj):Do EV:=
 [.ag (gS n i c h),.ag [.sc j1 k,.sc hS d,.sc Ha f],.ag [.sc j1 a,.sc j1 b,.sc j1 g,.sc j1 P,.sc hS e]]
noncomputable def pE(n:Int)(i:Do bq)(c h k:Int)(d:bj)(f:lP)(a b g P:Int)(e:bj):cT:=⟨30,LY 0 (pAv n i c h k d f a b g P e),[]⟩
noncomputable abbrev px(N:Nat)(R:Type):=λ(c:Code) (E:cT) (f:cT->At R)=>yB T (Y1 nV N) N c .z E R (kGo f)
noncomputable def pD(E:cT):cT:=⟨E.n,(14,.cl (.func 43) [] [c6 E.t 3,c6 E.t 6,c6 E.t 7])::E.t,E.h⟩
noncomputable def pC(N:Nat)(E:cT)(f:cT->At i):At i:=px N i (pq [0]) E λE=>px N i (pq [1,0]) E λE=>px N i (pq [1,1,1,0]) (pD E) λE=>G6 T (Y1 nV N) pO (pO.take 3) E f
def p1 N n i c h k d f a b g P e:px N Nat (pq [0]) (pE n i c h k d f a b g P e) (λE=>some E.n)=some 30:=ci
def p2 N n d a c k h j e f g P i:px N Nat (pq [0]) (pE n d a c k h j e f g P i) (λE=>px N Nat (pq [1,0]) E λE=>some E.n)=aW (tp N (n,d,a,c)) λb=>cond (!b) none (some 30):=ci
def p3 N n d a c k h j e f g P i:pC N (pE n d a c k h j e f g P i) (λE=>some E.n)=aW (tp N (n,d,a,c)) λb=>cond (!b) none (some 30):=ci
def p4 N n d a c k h j e f g P i:pC N (pE n d a c k h j e f g P i) (λE=>aW (ag0 (ll.c N) 21 (bG E.h) [c6 E.t 18,c6 E.t 19,c6 E.t 20]) λp=>some p.1)=aW (tp N (n,d,a,c)) λb=>cond (!b) none (some (k,h,j,e,f,g,P,i,n,d,a,c,0,0,([]:aX))):=ci
noncomputable def qT:Do (Nat×EV):=[(3,.pt 4294967296 0),(4,.pt 4294967299 0),(5,.pt 4294967300 0),(6,.pt 4294967297 0),(7,.pt 4294967298 0)]
noncomputable def qH(n:Int)(i:Do bq)(c h k:Int)(d:bj)(f:lP)(a b g P:Int)(e:bj):eW:=
 gH n i c h zS zR++[(4294967299,some (.box 30 [.sc j1 k,.sc hS d,.sc Ha f])),(4294967300,some (.box 35 [.sc j1 a,.sc j1 b,.sc j1 g,.sc j1 P,.sc hS e]))]
noncomputable def qE(n:Int)(i:Do bq)(c h k:Int)(d:bj)(f:lP)(a b g P:Int)(e:bj):cT:=⟨30,qT,qH n i c h k d f a b g P e⟩
abbrev QR:Type:=TA×a_×bw×At eh×At eh×At eh×EV×EV×Nat
noncomputable def qC(N:Nat)(E:cT)(f:cT->At i):At i:=px N i (pq [1,1,1,0]) E λE=>G6 T (Y1 nV N) pO (pO.take 3) E f
def atO N n c a b k f i d e g P h:qC N (qE n c a b k f i d e g P h) (λE=>aW (ag0 (ll.c N) 21 (bG E.h) [c6 E.t 18,c6 E.t 19,c6 E.t 20]) λp=>some ((p.1,p.2.1,p.2.2,bG E.h 4294967296,bG E.h 4294967297,bG E.h 4294967298,c6 E.t 6,c6 E.t 7,E.n):QR))=
 some ((k,f,i,d,e,g,P,h,n,c,a,b,0,0,([]:aX)),[],[(4294967296,17)],some (.box 26 (gS n c a b)),some (.box 26 zS),some (.box 40 zR),.pt 4294967297 0,.pt 4294967298 0,30):=ci
variable{A:Int}{a n:Nat}
section
variable{P:Fd}{T:EQ->bz}{CT:Do kq}(hp:Place P T CT)
include hp in
def TL.G6{f l2:bs}{g:IR->St->Prop}:∀{l:bs} {E:cT} {R:Type} {k:cT->At R} {r:R},_root_.Go.Proofs.YtpndmjnaljjbaaaGreatDoor.G6 T CT f l E k=some r->(∀c,k c=some r->TL P f.toArray l2 (bu c) g)->TL P f.toArray (l++l2) (bu E) g
 |[],E,R,k,r,h,d=>d E h
 |o::l,E,R,k,r,h,d=>by
  simp only[_root_.Go.Proofs.YtpndmjnaljjbaaaGreatDoor.G6]at h;refine TL.cons λu n=>?_;have a:=ago hp h;intro t j e m w next Q p q
  refine a t j e m w next Q p λi s=>q i (n i ?_)
  obtain⟨c,rfl,b⟩:=s;exact TL.G6 b d
end
def atP(o:Oper):Prop:=∃(c:EQ) (p:String) (a:dM) (b:jk),o=⟨some 21,.call ⟨.value (.func 44), #[.tmp 18,.tmp 19,.tmp 20],b⟩,c,p,a,none⟩
def atQ:∃o,pO=pO.take 3++[o]/\atP o:=⟨_,rfl,_,_,_,_,rfl⟩
noncomputable def qy:Code:=pq [1,1,1,1,1]
def aqy{H:Hp}{o:eh}(g:22000+1000<=n)(h:bc H n=some (cx o))(e:Ob.kX (ox (1000*(21+1))) (cx o)=cx o):bc (pJ [(4294967296,17)]++iu (ox (1000*(21+1))) (bE (gQ (λ_=>none) [])++H)) n=some (cx o):=by
 have d:bE (gQ (λ_=>none) [])=[]:=rfl;rw[d,ax3,eB];have b:(pJ [(4294967296,17)]).any (λp=>p.1==n)=false:=by simp[pJ];omega
 rw[b,xC,h];have c:ox (1000*(21+1)) n=false:=by
  cases a:ox (1000*(21+1)) n with
  |false=>rfl
  |true=>
   unfold ox at a;have f:=axv (aCh.1 a).2;omega
 rw[c];simp[e]
def amO(n:Int)(j:Do bq)(e i k:Int)(t:bj)(y:lP)(m r g P:Int)(w:bj)(h:NF (a+1) (k,t,y,m,r,g,P,w,n,j,e,i,0,0,[])=some A)(R:A≠0):
 TC Tryz.prog (.seq (pq [1,1,1,0]) (.seq (pq [1,1,1,1,0]) qy)) (bu (qE n j e i k t y m r g P w)) λx s=>x=.panic [{v:=oE A,recovered:=false}]/\bc s.h 4294967296=some (cx (.box 26 (gS n j e i)))/\bc s.h 4294967297=some (cx (.box 26 zS))/\bc s.h 4294967298=some (cx (.box 40 zR))/\bM s.t 6=.pt 4294967297 0/\bM s.t 7=.pt 4294967298 0/\s.n=30:=by
 have hp:=EJ nV (a+1);have C:=atO (a+1) n j e i k t y m r g P w;unfold qC px at C;have V:FZ (pq [1,1,1,0])=true:=ci
 generalize Y:((k,t,y,m,r,g,P,w,n,j,e,i,(0:Int),(0:Int),([]:aX)),([]:a_),[((4294967296:Nat),(17:Nat))],some (eh.box 26 (gS n j e i)),some (eh.box 26 zS),some (eh.box 40 zR),EV.pt 4294967297 0,EV.pt 4294967298 0,30)=rr at C;refine TC.Xm hp V C λF hn U=>?_;obtain⟨id,hid⟩:=pq5;rw[hid];refine TC.seq (TC.region ?_);obtain⟨o,W,ty,p,G,tt,rfl⟩:=atQ
 suffices X:∀l,l=pO->TL Tryz.prog pO.toArray l (bu F) (Q8 (λa0=>TC Tryz.prog qy a0 _) _)from X _ rfl
 intro l E;rw[W]at E;subst E;refine TL.G6 hp U λb u=>?_;refine TL.last rfl ?_;cases B:ag0 (ll.c (a+1)) 21 (bG b.h) [c6 b.t 18,c6 b.t 19,c6 b.t 20]with
 |none=>rw[B]at u;cases u
 |some q=>
  obtain⟨x,gs,D⟩:=q;rw[B]at u;have c:=axt (u.trans (axD some Y.symm));have Z:x=(k,t,y,m,r,g,P,w,n,j,e,i,(0:Int),(0:Int),([]:aX)):=axD (λz=>z.1) c;have S:gs=[]:=axD (λz=>z.2.1) c;have Q:D=[(4294967296,17)]:=axD (λz=>z.2.2.1) c;have H:bG b.h 4294967296=_:=axD (λz=>z.2.2.2.1) c;have I:bG b.h 4294967297=_:=axD (λz=>z.2.2.2.2.1) c;have J:bG b.h 4294967298=_:=axD (λz=>z.2.2.2.2.2.1) c;have K:c6 b.t 6=_:=axD (λz=>z.2.2.2.2.2.2.1) c;have L:c6 b.t 7=_:=axD (λz=>z.2.2.2.2.2.2.2.1) c;have M:b.n=30:=axD (λz=>z.2.2.2.2.2.2.2.2) c;clear u c;subst S;subst Q;refine SP.ctr B (by rw[Z];exact ajs h R) ?_ (λk _=>dc _ _) ?_
  .have O:=QV.func (P:=Tryz.prog) (st:=bu b) (d:=21) (f:=44) (args:= #[.tmp 18,.tmp 19,.tmp 20]) (ts:=tt) (ty:=ty) (pos:=p) (af:=G) (gd:=none)
   have N:([.tmp 18,.tmp 19,.tmp 20]:oL).map (bu b).ev=cg [c6 b.t 18,c6 b.t 19,c6 b.t 20]:=by
    simp only[axJ,ayy,cg,St.ev];rw[show(bu b).t=gD b.t from rfl,cN,cN,cN]
   rw[<-N];exact O
  .exact⟨rfl,aqy d6 ((dc _ _).trans (by rw[H];rfl)) rfl,aqy d6 ((dc _ _).trans (by rw[I];rfl)) rfl,aqy d6 ((dc _ _).trans (by rw[J];rfl)) rfl,(nh _ _ _).trans ((axD _ ((cN _ _).trans (axD enc K))).trans rfl),(nh _ _ _).trans ((axD _ ((cN _ _).trans (axD enc L))).trans rfl),M⟩
abbrev GR6:Type:=At eh×At eh×EV×EV
noncomputable def gK6:IR->cT->At GR6
 |.normal,E=>some (bG E.h 4294967297,bG E.h 4294967298,c6 E.t 6,c6 E.t 7)
 |.ret,E=>some (bG E.h 4294967297,bG E.h 4294967298,c6 E.t 6,c6 E.t 7)
 |_,_=>none
def atS N n i c h k d f a b g P e:px N GR6 (pq [1,1,1,0]) (qE n i c h k d f a b g P e) (λE=>px N GR6 (pq [1,1,1,1,0]) E λE=>yB T (Y1 nV N) N qy .z E GR6 gK6)=
 aW (E2 N (k,d,f,a,b,g,P,e,n,i,c,h,0,0,([]:aX))) λ(y:Int×Do bq×Int×Int×Int×Int×aX)=>some (some (.box 26 (gS y.1 y.2.1 y.2.2.1 y.2.2.2.1)),some (.box 40 [.sc j1 y.2.2.2.2.1,.sc j1 y.2.2.2.2.2.1,.sc j6 y.2.2.2.2.2.2]),.pt 4294967297 0,.pt 4294967298 0):=ci
def aqz(n:Int)(t:Do bq)(j r k:Int)(m:bj)(q:lP)(e f g P:Int)(p:bj){y:Int×Do bq×Int×Int×Int×Int×aX}(h:E2 a (k,m,q,e,f,g,P,p,n,t,j,r,0,0,[])=some y):
 TC Tryz.prog (.seq (pq [1,1,1,0]) (.seq (pq [1,1,1,1,0]) qy)) (bu (qE n t j r k m q e f g P p)) λx s=>(x=.normal\/x=.ret)/\bc s.h 4294967297=some (cx (.box 26 (gS y.1 y.2.1 y.2.2.1 y.2.2.2.1)))/\bc s.h 4294967298=some (cx (.box 40 [.sc j1 y.2.2.2.2.1,.sc j1 y.2.2.2.2.2.1,.sc j6 y.2.2.2.2.2.2]))/\bM s.t 6=.pt 4294967297 0/\bM s.t 7=.pt 4294967298 0/\s.n=30:=by
 have u:=EJ nV a;have d:=atS a n t j r k m q e f g P p;rw[h]at d;simp only[aW]at d;have N:FZ (pq [1,1,1,0])=true:=ci
 have O:FZ (pq [1,1,1,1,0])=true:=ci
 have Q:FZ qy=true:=ci
 generalize J:((some (eh.box 26 (gS y.1 y.2.1 y.2.2.1 y.2.2.2.1)),some (eh.box 40 [.sc j1 y.2.2.2.2.1,.sc j1 y.2.2.2.2.2.1,.sc j6 y.2.2.2.2.2.2]),EV.pt 4294967297 0,EV.pt 4294967298 0):GR6)=A at d;unfold px at d;have I:yB T (Y1 nV a) a (pq [1,1,1,0]) .z (qE n t j r k m q e f g P p) GR6 (kGo λE=>yB T (Y1 nV a) a (pq [1,1,1,1,0]) .z E GR6 (kGo λE=>yB T (Y1 nV a) a qy .z E GR6 gK6))=some A:=d;refine TC.Xm u N I λR K G=>TC.Xm u O G λS L H=>(TC.ex u Q H).mono λx s w=>?_;obtain⟨b,rfl,M,c⟩:=w;have v:(x=.normal\/x=.ret)/\(bG b.h 4294967297,bG b.h 4294967298,c6 b.t 6,c6 b.t 7)=A:=by
  cases x with
  |normal=>exact⟨.inl rfl,axt c⟩
  |ret=>exact⟨.inr rfl,axt c⟩
  |_=>cases c
 obtain⟨w,v⟩:=v;have o:=v.trans J.symm;have B:bG b.h 4294967297=_:=axD (λz=>z.1) o;have C:bG b.h 4294967298=_:=axD (λz=>z.2.1) o;have D:c6 b.t 6=_:=axD (λz=>z.2.2.1) o;have F:c6 b.t 7=_:=axD (λz=>z.2.2.2) o;exact⟨w,(dc _ _).trans (by rw[B];rfl),(dc _ _).trans (by rw[C];rfl),(cN _ _).trans (by rw[D];rfl),(cN _ _).trans (by rw[F];rfl),M.trans (L.trans K)⟩
variable{d:Int}
def Fu:Nat:=18446744073709551616
def bP:Fu=18446744073709551616:=rfl
def NG:maxLen=9223372036854775807:=rfl
def cd{p:Prop} [Decidable p](x y:i):cond (decide p) x y=if p then x else y:=by
 by_cases h:p<;>simp[h]
def Eb{p:Prop} [Decidable p](x y:i):cond (!(decide p)) x y=if p then y else x:=by
 by_cases h:p<;>simp[h]
def cb(b:In)(x y:i):cond b x y=if b=true then x else y:=by cases b<;>rfl
def ob{α β:Type}(x:α)(f:α->At β):aW (some x) f=f x:=rfl
def fF{x:Int}(a: -9223372036854775808<=x)(b:x<=9223372036854775807):wZ x=x:=by
 simp[wZ,wrap,IntKind.bits,IntKind.signed];omega
def b9(h:a<9223372036854775807):wZ ((a:Int)+1)=((a+1:Nat):Int):=by
 rw[fF bv bv];omega
def wu8(a:0<=d)(b:d<=255):wrap .u8 d=d:=by
 simp[wZ,wrap,IntKind.bits,IntKind.signed];omega
def avW(a:0<=d)(b:d<=4294967295):wrap .u32 d=d:=by
 simp[wZ,wrap,IntKind.bits,IntKind.signed];omega
def ba{α:Type}{a:Do α}{i:Nat}{x:α}(h:a[i]? =some x):aZ a (i:Int)=some x:=by
 simp[aZ,h]
def aqA{b:Do i}{x:i}(h:b[a]? =some x)(c:d=a):aZ b d=some x:=by
 subst c;exact ba h
def get_at{α:Type}{xs:Do α}{i:Nat}(h:i<xs.length):∃x,xs[i]? =some x:=⟨_,axz h⟩
def PL{α:Type}{a:Do α}(c:0<=d)(h:d<a.length):∃x,a[d.toNat]? =some x/\aZ a d=some x:=by
 obtain⟨x,b⟩:=get_at (xs:=a) (i:=d.toNat) bv;exact⟨x,b,aqA b bv⟩
def cQ{b:Do i}{x:i}(h:b[a]? =some x):b.drop a=x::b.drop (a+1):=by
 obtain⟨d,c⟩:=axs.1 h;rw[<-c];exact List.drop_eq_getElem_cons d
def bU{b:Do i}{x:i}(h:b[a]? =some x):b.take (a+1)=b.take a++[x]:=by
 rw[List.take_add_one,h];rfl
def Xo{a:Do i}(b:0<=d)(c:d<=A)(e:A<=a.length):j0 a d A=some ((a.take A.toNat).drop d.toNat):=by
 simp[j0,b,c,e]
def wB{a:Do i}(b:0<=d)(c:d<=a.length):j0 a 0 d=some (a.take d.toNat):=by
 rw[Xo bv b c];rfl
def wC{a:Do i}(b:0<=d)(c:d<=a.length):j0 a d ((a.length:Nat):Int)=some (a.drop d.toNat):=by
 rw[Xo b c bv];simp
def aju(a:Do i):Rv a 0 ((a.length:Nat):Int) ((a.length:Nat):Int)=some a:=by
 simp[Rv]
def bW{b ys:Do i}(c:a<=1000)(h:b.length+ys.length<=100000000000):er a b ys=some (b++ys):=by
 unfold er;rw[axn];refine⟨?_,by rw[NG];omega⟩
 calc (b.length+ys.length)*a<=100000000000*1000:=ay1 h c
  _<=140737488355328:=d6
def jH(c:a<=1000)(b:0<=d)(h:d<=100000000000):oD d a=some d.toNat:=by
 unfold oD;rw[axn];refine⟨b,?_,by rw[NG];omega⟩
 calc a*d.toNat<=1000*100000000000:=ay1 c bv
  _<=140737488355328:=d6
def Xp(h:A≠0):LS d A=some (d.tmod A):=by simp[LS,h]
def PM(h:A≠0):IX d A=some (d.tdiv A):=by simp[IX,h]
def Kj(a b:Nat):Int.tmod (a:Int) (b:Int)=((a % b:Nat):Int):=by
 rw[Int.tmod_eq_emod_of_nonneg bv];omega
def wD(a b:Nat):Int.tdiv (a:Int) (b:Int)=((a/b:Nat):Int):=by
 rw[Int.tdiv_eq_ediv_of_nonneg bv];omega
variable{u:Int×Int}{C c:Nat}{B e:Nat->Nat}{s:bw}{m:bj}{g:bO}{j k t:a_}{b o:aX}
def oZ:∀(g:bj) (c d v:Int),bL (.i .i64) (dO (.i .i64) g c v) d=if c=d then some v else bL (.i .i64) g d
 |[],c,d,v=>by
  by_cases h:c=d
  .subst h;simp[dO,bL,jc]
  .have b:jc (.i .i64) c d=false:=by simp[jc,h]
   simp[dO,bL,b,h]
 |(x,y)::g,c,d,v=>by
  rw[dO];by_cases h:x=c
  .subst h
   by_cases a:x=d
   .subst a;simp[jc,bL]
   .have b:jc (.i .i64) x d=false:=by simp[jc,a]
    have f:jc (.i .i64) x x=true:=by simp[jc]
    simp[bL,b,f,a]
  .have b:jc (.i .i64) x c=false:=by simp[jc,h]
   simp only[b,axr,bL];by_cases a:x=d
   .subst a
    have f:jc (.i .i64) x x=true:=by simp[jc]
    rw[f,axm (λe=>h e.symm)];rfl
   .have f:jc (.i .i64) x d=false:=by simp[jc,a]
    rw[f];simp only[axr];exact oZ g c d v
def C6:∀(a:bj) (c v:Int),(dO (.i .i64) a c v).length=a.length+if(bL (.i .i64) a c).isSome then 0 else 1
 |[],c,v=>by simp[dO,bL]
 |(x,y)::a,c,v=>by
  rw[dO,bL];by_cases h:x=c
  .subst h
   have d:jc (.i .i64) x x=true:=by simp[jc]
   simp[d]
  .have b:jc (.i .i64) x c=false:=by simp[jc,h]
   simp only[b,axr,axN,C6 a c v];omega
def Hb(l:aX):Prop:=∀t∈l,0<=t/\t<=10000
def fe(l:aX):Prop:=l.length<=1000/\Hb l/\l.Nodup
instance(l:aX):Decidable (Hb l):=by unfold Hb;exact inferInstance
instance(l:aX):Decidable (fe l):=by unfold fe;exact inferInstance
def amP(N:Nat)(a:Fu<=N)(t:Int):Zh N t=some (decide (¬(0<=t/\t<=10000))):=by
 obtain⟨N,rfl⟩:∃n,N=n+1:=⟨N - 1,by have:=bP;omega⟩;rw[ahf,cd];by_cases h:t<0
 .rw[axn h]
  have:¬(0<=t/\t<=10000):=bv
  simp[this]
 .rw[axm h]
  congr 1;simp only[ay2];omega
def NH(N:Nat)(f:Fu<=N)(l:aX)(n:l.length<=9223372036854775807):∀(k i m:Nat),i+k=l.length->k<m->
 ∃j:Nat,HK N m (l,((l.length:Nat):Int),(i:Int))=some (if Hb (l.drop i)then .inl ()else .inr (j:Int))
 |k,i,0,c,d=>by omega
 |0,i,m+1,c,d=>by
  refine⟨0,?_⟩;rw[MQ,cU bv,aym bv,axn (by intro t h;cases h)]
 |k+1,i,m+1,c,d=>by
  obtain⟨x,g⟩:=get_at (xs:=l) (i:=i) bv;obtain⟨j,o⟩:=NH N f l n k (i+1) m bv bv;rw[MQ,dS bv,ba g,ob,amP N f x,ob,cd,b9 bv,o,cQ g];by_cases h:0<=x/\x<=10000
  .refine⟨j,?_⟩
   rw[axm (λe=>e h)];have:Hb (x::l.drop (i+1))↔Hb (l.drop (i+1)):=⟨λe t a=>e t (by simp[a]),λe t a=>by
    rcases axP.1 a with rfl|a
    .exact h
    .exact e t a⟩
   by_cases b:Hb (l.drop (i+1))
   .rw[axn b,axn (this.2 b)]
   .rw[axm b,axm (λe=>b (this.1 e))]
  .refine⟨i,?_⟩
   rw[axn h,axm (λe=>h (e x d5))]
def amQ(N:Nat)(c:Fu+2<=N)(l:aX)(b:l.length<=9223372036854775807):Zl N l=some (!decide (Hb l)):=by
 obtain⟨N,rfl⟩:=sC N 2;rw[ahi,ahh];obtain⟨j,h⟩:=NH N bv l b l.length 0 N bv (by have:=bP;omega);rw[show((0:Int)=((0:Nat):Int))from rfl,h,ayg];by_cases a:Hb l<;>simp[ob,a]
structure Met(l:aX)(met:bj):Prop where
 mem:∀c,(bL (.i .i64) met c).isSome=decide (c∈l)
 le:met.length<=l.length
 eq:met.length=l.length↔l.Nodup
def amR:Met [] []:=⟨λc=>rfl,d5,d5⟩
def amS(h:Met b m)(x v:Int):Met (b++[x]) (dO (.i .i64) m x v):=by
 refine⟨λc=>?_,?_,?_⟩
 .rw[oZ]
  by_cases g:x=c
  .subst g;simp
  .rw[axm g,h.mem c]
   have l:¬c=x:=λe=>g e.symm;simp[l]
 .rw[C6]
  have:=h.le;simp only[axG,azz];split<;>omega
 .rw[C6,h.mem x]
  have n:=h.le;have i:=h.eq;simp only[axG,azz];by_cases f:x∈b
  .simp only[f,ayD,ax0]
   constructor
   .intro e;omega
   .intro e
    rw[ayc]at e;exact absurd rfl (e.2.2 x f x d5)
  .simp only[f,decide_false,ayW,ayl]
   constructor
   .intro e
    rw[ayc];refine⟨i.1 bv,d5,λa k d j=>?_⟩;simp at j;subst j;rintro rfl;exact f k
   .intro e
    rw[ayc]at e;have:=i.2 e.1;omega
def NI(N:Nat)(l c:aX)(h:l.length<=9223372036854775807):∀(k i m:Nat) (a:bj),i+k=l.length->k<m->Met (l.take i) a->
 ∃g,HL N m (c,l,((l.length:Nat):Int),(i:Int),a)=some (c,g)/\Met l g
 |k,i,0,a,d,e,b=>by omega
 |0,i,m+1,a,d,e,b=>by
  rw[MS,cU bv];rw[axV bv]at b;exact⟨a,rfl,b⟩
 |k+1,i,m+1,a,d,e,b=>by
  obtain⟨x,f⟩:=get_at (xs:=l) (i:=i) bv;rw[MS,dS bv,ba f,ob,b9 bv];refine NI N l c h k (i+1) m _ bv bv ?_;rw[bU f];exact amS b x _
def PN(N:Nat)(d:Fu+1<=N)(l:aX)(c:l.length<=9223372036854775807):Zp N l=some (decide l.Nodup):=by
 obtain⟨N,rfl⟩:=sC N 1;obtain⟨f,a,b⟩:=NI N l l c l.length 0 N [] bv (by have:=bP;omega) amR;rw[ahj,show((0:Int)=((0:Nat):Int))from rfl,a,ob];congr 1;rw[ay2];have:=b.eq;constructor
 .intro e;simp only at e;exact this.1 bv
 .intro e;have:=this.2 e;simp only;omega
def PQ(N:Nat)(e:Fu+3<=N)(l:aX)(c:l.length<=9223372036854775807):EK N l=some (decide (fe l)):=by
 obtain⟨N,rfl⟩:=sC N 1;rw[adG,cd];by_cases d:1000<l.length
 .rw[axn bv]
  have:¬fe l:=λh=>by have:=h.1;omega
  simp[this]
 rw[axm bv,amQ N bv l c,ob,PN N bv l c];by_cases a:Hb l
 .by_cases b:l.Nodup
  .have:fe l:=⟨bv,a,b⟩
   simp[a,b,this,ob]
  .have:¬fe l:=λh=>b h.2.2
   simp[a,b,this,ob]
 .have:¬fe l:=λh=>a h.2.1
  simp[a,this,ob]
def atT(l:aX):Prop:=Hb l/\l.Nodup
instance(l:aX):Decidable (atT l):=by unfold atT;exact inferInstance
def ix:aX->Int->Nat
 |[],_=>0
 |x::l,v=>if x=v then 0 else ix l v+1
def Hc(l:aX)(p:Nat):aX:=l.drop p++l.take p
def ep(l:aX)(v:Int):aX:=Hc l (ix l v)
def ajv:∀{l:aX} {v:Int},v∈l->ix l v<l.length
 |x::l,v,h=>by
  rw[ix];by_cases c:x=v
  .rw[axn c];simp
  .rw[axm c]
   have:=ajv (l:=l) (v:=v) ((axP.1 h).resolve_left λe=>c e.symm);simp;omega
def abY:∀{a:aX} (b:aX) {v:Int},v∉a->ix (a++b) v=a.length+ix b v
 |[],b,v,h=>by simp
 |x::a,b,v,h=>by
  rw[ayB,ix,axm (λe=>h (by simp[e])),abY b (λe=>h (by simp[e]))];simp;omega
def aqB{v:Int}(h:v∉b):ix (b++v::o) v=b.length:=by
 rw[abY _ h,ix,axn rfl,ayO]
def C7:∀{l:aX} {v:Int},v∈l->∃u t,l=u++v::t/\v∉u/\ix l v=u.length
 |x::l,v,h=>by
  by_cases c:x=v
  .exact⟨[],l,by rw[c];rfl,d5,by rw[ix,axn c];rfl⟩
  .obtain⟨u,t,a,b,d⟩:=C7 ((axP.1 h).resolve_left λe=>c e.symm)
   exact⟨x::u,t,by rw[a];rfl,by simp[b,show¬v=x fromλe=>c e.symm],by rw[ix,axm c,d];rfl⟩
def aov:∀{l:aX},l.Nodup->∀{i:Nat} {v:Int},l[i]? =some v->ix l v=i
 |[],_,i,v,h=>by simp at h
 |x::l,a,0,v,h=>by
  simp at h;rw[ix,axn h]
 |x::l,a,i+1,v,h=>by
  have b:v∈l:=axB (by simpa using h);rw[ix,axm (λe:x=v=>(ayx.1 a).1 (by rw[e];exact b)),aov (ayx.1 a).2 (by simpa using h)]
def PR(l:aX)(p:Nat):(Hc l p).length=l.length:=by simp[Hc];omega
def C8(l:aX)(p:Nat):(Hc l p).Perm l:=by
 unfold Hc;have:= @aAu Int (l.drop p) (l.take p);rwa[ayP]at this
def abZ:d∈Hc b a↔d∈b:=(C8 b a).mem_iff
def aeG:(Hc b a).Nodup↔b.Nodup:=(C8 b a).nodup_iff
def UN:fe (Hc b a)↔fe b:=by
 unfold fe Hb;rw[PR,aeG];simp only[abZ]
def amT(A B:aX):Hc (A++B) A.length=B++A:=by simp[Hc]
def qZ{u t:aX}{v:Int}(h:v∉u):ep (u++v::t) v=v::t++u:=by
 rw[ep,aqB h,amT]
def Xq{A B:aX}{v:Int}(e:(A++B).Nodup)(f:v∈A++B):ep (A++B) v=ep (B++A) v:=by
 have d:=ayc.1 e;by_cases h:v∈A
 .obtain⟨u,t,rfl,a,_⟩:=C7 h
  have b:v∉B:=λc=>d.2.2 v h v c rfl;rw[show u++v::t++B=u++v::(t++B) by simp,qZ a,show B++(u++v::t)=(B++u)++v::t by simp,qZ (by simp[a,b])];simp
 .have b:v∈B:=by simpa[h]using f
  obtain⟨u,t,rfl,a,_⟩:=C7 b;rw[show A++(u++v::t)=(A++u)++v::t by simp,qZ (by simp[a,h]),show u++v::t++A=u++v::(t++A) by simp,qZ a];simp
def aeH{l:aX}(b:l.Nodup)(c:d∈l):ep (Hc l a) d=ep l d:=by
 have e:l=l.take a++l.drop a:=(ayP a l).symm;unfold Hc;rw[<-Xq (by rw[<-e];exact b) (by rw[<-e];exact c),<-e]
def Xr:fe (ep b d)↔fe b:=UN
def NJ(l:aX)(v:Int):(ep l v).length=l.length:=PR _ _
def NK:A∈ep b d↔A∈b:=abZ
def wF(h:d∈b):(ep b d)[0]? =some d:=by
 obtain⟨u,t,rfl,a,_⟩:=C7 h;rw[qZ a];rfl
def oH:aX->Int
 |[]=>0
 |[x]=>x
 |x::y::l=>if x<=oH (y::l)then x else oH (y::l)
def o0:∀{l:aX},l≠[]->oH l∈l/\∀y∈l,oH l<=y
 |[],h=>absurd rfl h
 |[x],_=>by simp[oH]
 |x::y::l,_=>by
  obtain⟨d,b⟩:=o0 (l:=y::l) d5;rw[oH];by_cases c:x<=oH (y::l)
  .rw[axn c]
   refine⟨d5,λz a=>?_⟩;rcases axP.1 a with rfl|a
   .exact azh _
   .exact Int.le_trans c (b z a)
  .rw[axm c]
   refine⟨ayr _ d,λz a=>?_⟩;rcases axP.1 a with rfl|a
   .omega
   .exact b z a
def E3(a:d∈b)(c:∀y∈b,d<=y):oH b=d:=by
 obtain⟨e,f⟩:=o0 (List.ne_nil_of_mem a);exact Int.le_antisymm (f d a) (c _ e)
def aeI(h:b.Perm o):oH b=oH o:=by
 by_cases c:o=[]
 .subst c;rw[h.eq_nil]
 .obtain⟨a,d⟩:=o0 c
  exact E3 (h.mem_iff.2 a) λy e=>d y (h.mem_iff.1 e)
def dh(l:aX):aX:=if fe l/\l≠[]then ep l (oH l)else []
def fT(h:fe b)(a:b≠[]):dh b=ep b (oH b):=axn ⟨h,a⟩
def aeJ(h:fe b):dh (Hc b a)=dh b:=by
 by_cases c:b=[]
 .subst c;simp[Hc]
 .have d:Hc b a≠[]:=λe=>c (by have:=PR b a;rw[e]at this;exact ayn this.symm)
  rw[fT h c,fT (UN.2 h) d,aeI (C8 b a),aeH h.2.2 (o0 c).1]
def UO(h:fe b):dh (dh b)=dh b:=by
 by_cases c:b=[]
 .subst c;rfl
 .rw[fT h c]
  exact(aeJ h).trans (fT h c)
def Xs(h:fe b):fe (dh b):=by
 by_cases c:b=[]
 .subst c;simpa[dh]using h
 .rw[fT h c];exact Xr.2 h
def PT(l:aX)(x:Int):In×aX:=if fe l/\x∈l then(true,ep l x)else(false,[])
def ixI(l:aX)(v:Int):Int:=if v∈l then(ix l v:Int)else -1
def Ik(h:d∈b):ixI b d=(ix b d:Int):=axn h
def PU(h:d∉b):ixI b d= -1:=axm h
def ajw:(0<=ixI b d)↔d∈b:=by
 by_cases h:d∈b
 .rw[Ik h];simp[h]
 .rw[PU h];simp[h]
def Kk(N:Nat)(l:aX)(v:Int)(f:l.length<=9223372036854775807):∀(k i m:Nat),i+k=l.length->k<m->
 HO N m (l,v,((l.length:Nat):Int),(i:Int))=some (if v∈l.drop i then .inr ((i+ix (l.drop i) v:Nat):Int)else .inl ())
 |k,i,0,b,a=>by omega
 |0,i,m+1,b,a=>by
  rw[MY,cU bv,aym bv];simp
 |k+1,i,m+1,b,a=>by
  obtain⟨x,c⟩:=get_at (xs:=l) (i:=i) bv;rw[MY,dS bv,ba c,ob,cd,b9 bv,cQ c];by_cases h:v=x
  .subst h
   rw[axn rfl,axn d5,ix,axn rfl];rfl
  .have d:ix (x::l.drop (i+1)) v=ix (l.drop (i+1)) v+1:=by rw[ix,axm (λe:x=v=>h e.symm)]
   rw[axm h,Kk N l v f k (i+1) m bv bv,d];by_cases a:v∈l.drop (i+1)
   .rw[axn a,axn (by simp[a])];congr 3;omega
   .rw[axm a,axm (by simp[h,a])]
def Kl(N:Nat)(b:Fu+1<=N)(l:aX)(v:Int)(a:l.length<=9223372036854775807):MX N (l,v)=some (ixI l v):=by
 obtain⟨N,rfl⟩:=sC N 1;have h:=Kk N l v a l.length 0 N bv (by have:=bP;omega);rw[ayg,axY]at h;rw[ahs,show((0:Int)=((0:Nat):Int))from rfl,h,ob,ixI];by_cases c:v∈l
 .rw[axn c,axn c]
 .rw[axm c,axm c]
def has_eq(N:Nat)(b:Fu+2<=N)(l:aX)(v:Int)(a:l.length<=9223372036854775807):Jx N (l,v)=some (decide (v∈l)):=by
 obtain⟨N,rfl⟩:=sC N 1;rw[aht,Kl N bv l v a,ob];congr 1;exact ay2.2 ajw
def UP(N:Nat)(l:aX)(o:l.length<=1000):∀(k i m:Nat) (a:Int),i+k=l.length->k<m->a∈l->(∀(j:Nat) y,j<i->l[j]? =some y->a<=y)->
 HM N m (l,a,(i:Int))=some (oH l)
 |k,i,0,a,h,n,c,d=>by omega
 |0,i,m+1,a,h,n,c,d=>by
  rw[MT,cU bv];congr 1;refine(E3 c λy b=>?_).symm;obtain⟨j,f⟩:=az6 b;exact d j y (by have:=(axs.1 f).1;omega) f
 |k+1,i,m+1,a,h,n,c,d=>by
  obtain⟨x,g⟩:=get_at (xs:=l) (i:=i) bv;rw[MT,dS bv,ba g,ob,b9 bv];refine UP N l o k (i+1) m _ bv bv ?_ λj y f b=>?_
  .split
   .exact axB g
   .exact c
  .by_cases e:j=i
   .subst e
    rw[g]at b;cases b;split<;>omega
   .have:=d j y bv b
    split<;>omega
def min_eq(N:Nat)(f:Fu+1<=N)(l:aX)(d:l.length<=1000)(c:l≠[]):Sy N l=some (oH l):=by
 obtain⟨N,rfl⟩:=sC N 1;have e:=aza.2 c;obtain⟨x,a⟩:=get_at (xs:=l) (i:=0) e;rw[ahk,cU bv,show((0:Int)=((0:Nat):Int))from rfl,ba a,ob,show((1:Int)=((1:Nat):Int))from rfl,UP N l d (l.length - 1) 1 N x bv (by have:=bP;omega) (axB a) (λj y g b=>by
  have:j=0:=bv
  subst this;rw[a]at b;cases b;exact azh _),ob]
structure Cl(n:Nat)(l:bw)(c:Nat->Nat):Prop where
 le:∀v,v<n->c v<=v
 fix:∀v,v<n->c (c v)=c v
 ed:∀e∈l,c e.1=c e.2
 uni:∀f:Nat->Nat,(∀e∈l,f e.1=f e.2)->∀v,v<n->f (c v)=f v
def Cl.uniq{l m:bw}(h:Cl n l e)(k:Cl n m B)(d:∀a,a∈l↔a∈m):∀v,v<n->e v=B v:=λv b=>by
 have f:e (B v)=e v:=k.uni e (λa c=>h.ed a ((d a).2 c)) v b;have g:B (e v)=B v:=h.uni B (λa c=>k.ed a ((d a).1 c)) v b;have i:=h.le (B v) (aBF (k.le v b) b);have j:=k.le (e v) (aBF (h.le v b) b);omega
def Cl.nil(n:Nat):Cl n [] id:=⟨λv _=>axp v,λ_ _=>rfl,(λe h=>by cases h),λ_ _ _ _=>rfl⟩
def jn(c:Nat->Nat)(u v:Nat):Nat->Nat:=λx=>if c x=max (c u) (c v)then min (c u) (c v)else c x
def ab0(h:e a=e c):jn e a c=e:=by
 funext x;unfold jn;rw[h];split
 next b=>omega
 .rfl
def Cl.jn{n:Nat}{l:bw}{c:Nat->Nat}(h:Cl n l c){u v:Nat}(i:u<n)(j:v<n):Cl n (l++[(u,v)]) (jn c u v):=by
 have p:=h.fix u i;have r:=h.fix v j;have o:c (min (c u) (c v))=min (c u) (c v):=by
  rcases azA (c u) (c v)with q|q
  .rw[ayE q];exact p
  .rw[azP q];exact r
 refine⟨λx d=>?_,λx d=>?_,λe a=>?_,λf k x d=>?_⟩
 .have:=h.le x d
  unfold Proofs.YtpndmjnaljjbaaaGreatDoor.jn;split<;>omega
 .have:=h.fix x d
  by_cases q:c x=max (c u) (c v)
  .have g:Proofs.YtpndmjnaljjbaaaGreatDoor.jn c u v x=min (c u) (c v):=axn q
   rw[g];unfold Proofs.YtpndmjnaljjbaaaGreatDoor.jn;rw[o];split<;>rfl
  .have g:Proofs.YtpndmjnaljjbaaaGreatDoor.jn c u v x=c x:=axm q
   rw[g];unfold Proofs.YtpndmjnaljjbaaaGreatDoor.jn;rw[this,axm q]
 .rcases axy.1 a with a|a
  .unfold Proofs.YtpndmjnaljjbaaaGreatDoor.jn;rw[h.ed e a]
  .simp only[axK]at a
   subst a;have:∀y,(c y=c u\/c y=c v)->Proofs.YtpndmjnaljjbaaaGreatDoor.jn c u v y=min (c u) (c v):=λy t=>by
    unfold Proofs.YtpndmjnaljjbaaaGreatDoor.jn;split
    .rfl
    .omega
   rw[this u (.inl rfl),this v (.inr rfl)]
 .have b:=h.uni f (λe a=>k e (by simp[a]))
  have m:f u=f v:=k (u,v) d5;have s:f (min (c u) (c v))=f (max (c u) (c v)):=by
   rcases azA (c u) (c v)with q|q
   .rw[ayE q,aAV q,b u i,b v j,m]
   .rw[azP q,aAW q,b u i,b v j,m]
  unfold Proofs.YtpndmjnaljjbaaaGreatDoor.jn;split
  next q=>rw[s,<-q,b x d]
  .exact b x d
def LZ(n:Nat)(c:Nat->Nat):Nat:=((List.range n).filter λv=>c v==v).length
def NL(p:Nat->In)(M:Nat):∀n,((List.range n).filter λx=>p x && x !=M).length+(if M<n/\p M=true then 1 else 0)=((List.range n).filter p).length
 |0=>by simp
 |n+1=>by
  have g:=NL p M n;rw[aAv,ayU,ayU,axG,axG];by_cases q:n=M
  .subst q
   rw[axm bv]at g;cases f:p n<;>simp[f]<;>omega
  .have c:(n !=M)=true:=by simpa using q
   have d:(M<n+1/\p M=true)↔(M<n/\p M=true):=by constructor<;>(rintro⟨a,b⟩;exact⟨bv,b⟩)
   have e:([n].filter λx=>p x && x !=M)=[n].filter p:=by simp[ayF,c]
   rw[e];simp only[d];omega
def Km{p q:Nat->In}(h:∀x,x<n->p x=q x):(List.range n).filter p=(List.range n).filter q:=
 List.filter_congr λx a=>h x (ayi.1 a)
def aeK(h:∀v,v<n->e v=B v):LZ n e=LZ n B:=by
 unfold LZ;rw[Km λx a=>by rw[h x a]]
def aqC(h:Cl n s e)(j:a<n)(l:c<n):LZ n (jn e a c)+(if e a=e c then 0 else 1)=LZ n e:=by
 by_cases q:e a=e c
 .rw[axn q,ab0 q];rfl
 rw[axm q];have f:=h.fix a j;have g:=h.fix c l;have t:=h.le a j;have u:=h.le c l;have i:e (max (e a) (e c))=max (e a) (e c):=by
  rcases azA (e a) (e c)with k|k
  .rw[aAV k];exact g
  .rw[aAW k];exact f
 have m:e (min (e a) (e c))=min (e a) (e c):=by
  rcases azA (e a) (e c)with k|k
  .rw[ayE k];exact f
  .rw[azP k];exact g
 have:=NL (λc=>e c==c) (max (e a) (e c)) n;rw[axn ⟨bv,by simpa using i⟩]at this;unfold LZ;rw[<-this];congr 2;refine Km λx r=>?_;have p:min (e a) (e c)<max (e a) (e c):=bv
 unfold jn;by_cases k:e x=max (e a) (e c)
 .rw[axn k]
  have:¬(min (e a) (e c)=x):=λb=>by rw[<-b,m]at k;omega
  by_cases d:x=max (e a) (e c)
  .simp[d];omega
  .have o:¬max (e a) (e c)=x:=λb=>d b.symm
   rw[k,aCi.2 this,aCi.2 o];rfl
 .rw[axm k]
  by_cases d:x=max (e a) (e c)
  .exact absurd (by rw[d];exact i) k
  .simp[d]
def aqD(n:Nat):LZ n id=n:=by
 unfold LZ;rw[aAw.2 (λx _=>by simp)];exact aBG
def mN(l:bw):Nat->Nat:=l.foldl (λc e=>jn c e.1 e.2) id
def wG(l:bw)(e:Nat×Nat):mN (l++[e])=jn (mN l) e.1 e.2:=by simp[mN]
def h9(n:Nat)(l:bw):Prop:=∀e∈l,e.1<n/\e.2<n
def ab1{p:Do i->Prop}(a:p [])(b:∀l x,p l->p (l++[x]))(l:Do i):p l:=by
 have:∀m:Do i,p m.reverse:=λm=>by
  induction m with
  |nil=>exact a
  |cons x m c=>rw[List.reverse_cons];exact b _ _ c
 have h:=this l.reverse;rwa[List.reverse_reverse]at h
def h9.app{l m:bw}:h9 n (l++m)↔h9 n l/\h9 n m:=by
 unfold h9;constructor
 .exactλh=>⟨λe a=>h e (by simp[a]),λe a=>h e (by simp[a])⟩
 .rintro⟨h,k⟩ e a
  rcases axy.1 a with a|a
  .exact h e a
  .exact k e a
def wH:∀(l:bw),h9 n l->Cl n l (mN l):=by
 refine ab1 (λ_=>Cl.nil n) λl x c h=>?_;have a:=h9.app.1 h;have b:=a.2 x d5;rw[wG];exact(c a.1).jn b.1 b.2
def nW(l:bw)(e:Nat×Nat):In:=mN l e.1 !=mN l e.2
def gy(p:bw):bw->bh
 |[]=>[]
 |e::l=>nW p e::gy (p++[e]) l
def e5(p:bw):bw->bw
 |[]=>[]
 |e::l=>if nW p e then e::e5 (p++[e]) l else e5 (p++[e]) l
def Aq(l:bw):bw:=e5 [] l
def tD(x:Nat×Nat):∀(l p:bw),e5 p (l++[x])=e5 p l++(if nW (p++l) x then [x]else [])
 |[],p=>by
  simp only[ax3,e5,ax6]
 |e::l,p=>by
  have a:=tD x l (p++[e]);simp only[ayB,e5,a,axS,ayI];split<;>rfl
def UQ(l:bw)(x:Nat×Nat):Aq (l++[x])=Aq l++(if nW l x then [x]else []):=by
 simp[Aq,tD]
def C9{x:Nat×Nat}(h:h9 n (s++[x])):LZ n (mN (s++[x]))+(if nW s x then 1 else 0)=LZ n (mN s):=by
 have a:=h9.app.1 h;have b:=a.2 x d5;have:=aqC (wH s a.1) b.1 b.2;rw[wG,<-this];unfold nW;by_cases q:mN s x.1=mN s x.2
 .simp[q]
 .simp[q]
def Ko:∀(l:bw),h9 n l->LZ n (mN l)+(Aq l).length=n:=by
 refine ab1 (λ_=>by simp[mN,Aq,e5,aqD]) λl x b h=>?_;have c:=b (h9.app.1 h).1;have a:=C9 h;rw[UQ,axG];by_cases q:nW l x=true
 .rw[axn q]at a⊢;simp;omega
 .rw[axm q]at a⊢;simp;omega
def aqE(l:bw)(h:h9 n l):n<=LZ n (mN l)+l.length:=by
 have a:=Ko l h;have b:∀l p:bw,(e5 p l).length<=l.length:=λl=>by
  induction l with
  |nil=>intro p;exact axp _
  |cons e l c=>
   intro p;have:=c (p++[e]);rw[e5];split
   .simp;omega
   .simp;omega
 have:=b l [];unfold Aq at a;omega
def UR{l m:bw}(h:h9 n l)(a:∀e,e∈l↔e∈m):LZ n (mN l)=LZ n (mN m):=
 aeK ((wH l h).uniq (wH m λe b=>h e ((a e).2 b)) a)
def rtf(p:Nat->Nat):Nat->Nat->Nat
 |0,v=>v
 |k+1,v=>if p v=v then v else rtf p k (p v)
def root(p:Nat->Nat)(v:Nat):Nat:=rtf p v v
def sx{p:Nat->Nat}(a:∀v,p v<=v):∀(k v:Nat),v<=k->rtf p k v=root p v
 |0,v,h=>by
  have:v=0:=bv
  subst this;rfl
 |k+1,v,h=>by
  unfold root;cases v with
  |zero=>
   have:p 0=0:=by have:=a 0;omega
   simp only[rtf,axn this]
  |succ v=>
   rw[rtf,rtf];by_cases c:p (v+1)=v+1
   .rw[axn c,axn c]
   .have b:=a (v+1)
    rw[axm c,axm c,sx a k _ bv,sx a v _ bv]
def hU(a:∀v,e v<=v)(v:Nat):root e v=if e v=v then v else root e (e v):=by
 rw[<-sx a (v+1) v bv,rtf];split
 .rfl
 next c=>have b:=a v;exact sx a v _ bv
def wI(a:∀v,e v<=v)(v:Nat):root e (e v)=root e v:=by
 rw[hU a v];split
 next c=>rw[c,hU a v,axn c]
 .rfl
def C_(a:∀v,e v<=v):∀v,e (root e v)=root e v:=λv=>by
 induction v using Nat.strongRecOn with
 |_ v b=>
  rw[hU a v];split
  .assumption
  next c=>have d:=a v;exact b _ bv
def Da(a:∀v,e v<=v):∀v,root e v<=v:=λv=>by
 induction v using Nat.strongRecOn with
 |_ v b=>
  rw[hU a v];have d:=a v;split
  .exact axp _
  next c=>have:=b (e v) bv;omega
def ln(b:∀a,e a<=a)(h:e a=a):root e a=a:=by rw[hU b,axn h]
def cK(p:Nat->Nat)(a b:Nat):Nat->Nat:=λx=>if x=a then b else p x
def aeL(b:∀v,e v<=v)(v x:Nat):root (cK e v (e (e v))) x=root e x:=by
 have h:∀y,cK e v (e (e v)) y<=y:=λy=>by
  unfold cK;split
  next c=>subst c;exact ayj (b _) (b _)
  .exact b y
 induction x using Nat.strongRecOn with
 |_ x f=>
  rw[hU h x];by_cases c:x=v
  .subst c
   have a:cK e x (e (e x)) x=e (e x):=axn rfl;rw[a];split
   next c=>have d:=b x;have g:=b (e x);exact(ln b bv).symm
   next c=>have d:=b x;have g:=b (e x);rw[f _ bv,wI b,wI b]
  .have a:cK e v (e (e v)) x=e x:=axm c
   rw[a,hU b x];split
   .rfl
   .have d:=b x
    exact f _ bv
def aeM(f:∀v,e v<=v)(k:e a=a)(i:e c=c)(j:a<=c)(x:Nat):root (cK e c a) x=if root e x=c then a else root e x:=by
 have g:∀y,cK e c a y<=y:=λy=>by
  unfold cK;split
  next b=>subst b;exact j
  .exact f y
 induction x using Nat.strongRecOn with
 |_ x l=>
  rw[hU g x];by_cases b:x=c
  .subst b
   have d:cK e x a x=a:=axn rfl;rw[d,ln f i,axn rfl];split
   next b=>exact b.symm
   next b=>refine ln g ?_;unfold cK;rw[axm b,k]
  .have d:cK e c a x=e x:=axm b
   rw[d];split
   next h=>rw[ln f h,axm b]
   .have m:=f x
    rw[l _ bv,wI f]
def par(s:aX)(v:Nat):Nat:=(s.getD v 0).toNat
structure NM(n:Nat)(s:aX)(c:Nat->Nat):Prop where
 len:s.length=n
 at_:∀i,i<n->∃w:Nat,s[i]? =some (w:Int)/\w<=i
 cls:∀x,x<n->root (par s) x=c x
def NM.Xt(h:NM n b e)(v:Nat):par b v<=v:=by
 unfold par;by_cases c:v<n
 .obtain⟨w,a,d⟩:=h.at_ v c
  simp only[ayL,a,aBk];omega
 .rw[ayL,ax4 (by have:=h.len;omega)];simp
def NM.nth(h:NM n b e)(d:a<n):aZ b (a:Int)=some ((par b a:Nat):Int):=by
 obtain⟨w,c,f⟩:=h.at_ a d;rw[ba c];unfold par;simp[ayL,c]
def Db(f:a<b.length):par (b.set a (c:Int))=cK (par b) a c:=by
 funext x;unfold par cK;simp only[ayL,ayk];by_cases d:a=x
 .subst d;simp[f]
 .rw[axm d,axm (λe=>d e.symm)]
def NM.set{c c':Nat->Nat}(h:NM n b c){v w:Nat}(a:v<n)(f:w<=v)(d:∀x,x<n->root (cK (par b) v w) x=c' x):NM n (b.set v (w:Int)) c':=by
 refine⟨by rw[ayA];exact h.len,λi e=>?_,λx g=>by rw[Db (by rw[h.len];exact a)];exact d x g⟩;rw[ayk];by_cases q:v=i
 .subst q
  rw[axn rfl,axn (by rw[h.len];exact a)];exact⟨w,rfl,f⟩
 .rw[axm q]
  exact h.at_ i e
def Kq(N:Nat){n:Nat}:∀(m v:Nat) (s:aX) {c:Nat->Nat},v<m->v<n->NM n s c->
 ∃f,Ia N m ((v:Int),s)=some (((c v:Nat):Int),f)/\NM n f c/\∀j,j<n->par s j=c j->par f j=c j
 |0,v,s,c,h,_,_=>absurd h bv
 |m+1,v,s,c,w,d,a=>by
  rw[aer];simp only[a.nth d,ob,Eb];have b:=a.Xt;have z:=b v;by_cases q:((par s v:Nat):Int)=(v:Int)
  .rw[axn q]
   have l:par s v=v:=bv
   refine⟨s,?_,a,λj _ h=>h⟩;rw[<-a.cls v d,ln b l]
  .rw[axm q]
   have l:¬par s v=v:=λe=>q (by rw[e]);have y:=b (par s v);simp only[a.nth (show par s v<n by omega),ob,axw];have k:NM n (s.set v ((par s (par s v):Nat):Int)) c:=a.set d bv λx u=>by rw[aeL b,a.cls x u]
   have g:par (s.set v ((par s (par s v):Nat):Int))=cK (par s) v (par s (par s v)):=Db (by rw[a.len];exact d);have o:par (s.set v ((par s (par s v):Nat):Int)) v=par s (par s v):=by rw[g];exact axn rfl
   simp only[k.nth d,ob,o];obtain⟨f,p,r,t⟩:=Kq N m (par s (par s v)) _ bv bv k;refine⟨f,?_,r,λj i h=>t j i ?_⟩
   .rw[p]
    have:c (par s (par s v))=c v:=by rw[<-a.cls _ bv,wI b,wI b,a.cls _ d]
    rw[this]
   .rw[g]
    unfold cK;split
    next e=>subst e;rw[h,<-a.cls j i,C_ b]
    .exact h
def Kr{N:Nat}(h:Fu+1<=N)(l:n<=1000)(k:a<n)(i:NM n b e):∃c,Nv N ((a:Int),b)=some (((e a:Nat):Int),c)/\NM n c e/\∀j,j<n->par b j=e j->par c j=e j:=by
 obtain⟨M,rfl⟩:=sC N 1;obtain⟨c,d,f,g⟩:=Kq M M a b (by rw[bP]at h;omega) k i;exact⟨c,by rw[aiL,d];rfl,f,g⟩
def join_eq(E:Fu+2<=a)(o:n<=1000)(h:c<n)(i:C<n)(y:NM n b e):
 ∃p,abh a ((c:Int),(C:Int),b)=some (e c !=e C,p)/\NM n p (jn e c C):=by
 obtain⟨M,rfl⟩:=sC a 1;obtain⟨F,s,A,_⟩:=Kr (N:=M) bv o h y;obtain⟨g,t,d,_⟩:=Kr (N:=M) bv o i A;have f:=d.Xt;have B:e c<=c:=by rw[<-d.cls c h];exact Da f c
 have D:e C<=C:=by rw[<-d.cls C i];exact Da f C
 have j:par g (e c)=e c:=by rw[<-d.cls c h];exact C_ f c
 have l:par g (e C)=e C:=by rw[<-d.cls C i];exact C_ f C
 have r:(if((e C:Nat):Int)>((e c:Nat):Int)then((e C:Nat):Int)else((e c:Nat):Int))=((max (e c) (e C):Nat):Int):=by
  split<;>omega
 have em:(if((e C:Nat):Int)<((e c:Nat):Int)then((e C:Nat):Int)else((e c:Nat):Int))=((min (e c) (e C):Nat):Int):=by
  split<;>omega
 have m:max (e c) (e C)<n:=bv
 rw[aiM];simp only[s,t,ob,r,em,d.nth m,axw];refine⟨_,?_,d.set (w:=min (e c) (e C)) m bv (c':=jn e c C) λx z=>?_⟩
 .congr 2
  by_cases q:e c=e C
  .simp[q]
  .have:¬((e c:Nat):Int)=((e C:Nat):Int):=bv
   simp[q,this]
 .have u:par g (max (e c) (e C))=max (e c) (e C):=by
   rcases azA (e c) (e C)with k|k
   .rw[aAV k];exact l
   .rw[aAW k];exact j
  have v:par g (min (e c) (e C))=min (e c) (e C):=by
   rcases azA (e c) (e C)with k|k
   .rw[ayE k];exact j
   .rw[azP k];exact l
  rw[aeM f v u bv,d.cls x z];rfl
def Ks(N:Nat){n:Nat}(e:n<=1000):∀(m i:Nat) (s:aX),n - i<m->i<=n->s.length=n->(∀j,j<i->s[j]? =some (j:Int))->
 ∃a,CL N m ((n:Int),(i:Int),s)=some a/\a.length=n/\∀j,j<n->a[j]? =some (j:Int)
 |0,i,s,h,_,_,_=>absurd h bv
 |m+1,i,s,l,g,b,c=>by
  rw[Xj,cd];by_cases q:i<n
  .rw[axn bv]
   obtain⟨x,f⟩:=get_at (xs:=s) (i:=i) bv;simp only[ba f,ob,b9 (show i<9223372036854775807 by omega),axw];refine Ks N e m (i+1) _ bv bv (by rw[ayA];exact b) λj d=>?_;rw[ayk];by_cases k:i=j
   .subst k;rw[axn rfl,axn bv]
   .rw[axm k];exact c j bv
  .rw[axm bv]
   exact⟨s,rfl,b,λj d=>c j bv⟩
def US{N:Nat}(d:Fu+1<=N){n:Nat}(f:n<=1000):∃s,J8 N (n:Int)=some s/\NM n s id:=by
 obtain⟨N,rfl⟩:=sC N 1;rw[aeq,jH bv bv bv,ob];simp only[axw,aAs];obtain⟨s,b,c,a⟩:=Ks N f N 0 (List.replicate n 0) (by rw[bP]at d;omega) bv d5 (λj l=>by omega);refine⟨s,?_,c,λi e=>⟨i,a i e,axp _⟩,λx k=>?_⟩
 .rw[show((0:Nat):Int)=0 from rfl]at b
  rw[b];rfl
 .have g:∀v,par s v<=v:=λv=>by
   unfold par;by_cases h:v<n
   .simp[ayL,a v h]
   .rw[ayL,ax4 bv];simp
  refine ln g ?_;unfold par;simp[ayL,a x k]
def NN(e:Nat×Nat):Int×Int:=((e.1:Int),(e.2:Int))
def oz(e:Int×Int):Nat×Nat:=(e.1.toNat,e.2.toNat)
def mO(n:Int)(e:Int×Int):Prop:=(0<=e.1/\e.1<n)/\0<=e.2/\e.2<n
instance(n:Int)(e:Int×Int):Decidable (mO n e):=inferInstanceAs (Decidable (_/\_))
def aow(h:mO d u):NN (oz u)=u:=by
 obtain⟨a,b⟩:=u;have c:=h.1.1;have e:=h.2.1;simp only at c e;exact azx (aAH c) (aAH e)
def mO.nat(h:mO (n:Int) u):(oz u).1<n/\(oz u).2<n:=by
 have a:=h.1;have b:=h.2;exact⟨by unfold oz;omega,by unfold oz;omega⟩
def Kt(N:Nat)(d:Fu+2<=N){n:Nat}(e:n<=1000){l:bw}(t:l.length<=100000)(c:h9 n l):∀(m i:Nat) (s:aX) (a:bh),l.length - i<m->i<=l.length->a.length=i->NM n s (mN (l.take i))->
 ∃k,Ib N m (l.map NN,(l.length:Int),(i:Int),s,a)=some (a++gy (l.take i) (l.drop i),k)/\NM n k (mN l)
 |0,i,s,a,h,_,_,_=>absurd h bv
 |m+1,i,s,a,B,A,u,f=>by
  rw[aes,cd];by_cases q:i<l.length
  .rw[axn bv]
   obtain⟨x,b⟩:=get_at (xs:=l) (i:=i) q;have g:=c x (axB b);have v:(l.map NN)[i]? =some (NN x):=by rw[axM,b];rfl
   obtain⟨y,p,j⟩:=join_eq d e g.1 g.2 f;have o:jn (mN (l.take i)) x.1 x.2=mN (l.take (i+1)):=by rw[bU b,wG]
   rw[o]at j;rw[ba v,ob];simp only[NN,p,ob];rw[bW bv d7,ob,b9 bv];obtain⟨z,r,w⟩:=Kt N d e t c m (i+1) y (a++[mN (l.take i) x.1 !=mN (l.take i) x.2]) bv bv (by simp[u]) j;refine⟨z,?_,w⟩;rw[r,cQ b,gy,bU b];simp[nW]
  .rw[axm bv]
   refine⟨s,?_,?_⟩
   .rw[aym bv];simp[gy]
   .rwa[axV bv]at f
def UT{N:Nat}(f:Fu+4<=N){n:Nat}(h:n<=1000){l:bw}(g:l.length<=100000)(e:h9 n l)(i:NM n b id):
 ∃a,Uo N (l.map NN,b)=some (gy [] l,a)/\NM n a (mN l):=by
 obtain⟨M,rfl⟩:=sC N 2;obtain⟨a,c,d⟩:=Kt M bv h g e M 0 b [] (by rw[bP]at f;omega) bv rfl i;refine⟨a,?_,d⟩;rw[aiP,aiO,axx,zQ.symm,c];rfl
def Ku(N:Nat)(n:Int)(l:bj)(p:l.length<=9223372036854775807):∀(m i:Nat),l.length - i<m->i<=l.length->
 CI N m (n,l,(l.length:Int),(i:Int))=some (if∀e∈l.drop i,mO n e then .inl ()else .inr 10)
 |0,i,h,_=>absurd h bv
 |m+1,i,s,r=>by
  rw[Xi,cd];by_cases q:i<l.length
  .rw[axn bv]
   obtain⟨x,g⟩:=get_at (xs:=l) (i:=i) q;obtain⟨a,b⟩:=x;rw[ba g,ob,cQ g,cd,cd,b9 bv,Ku N n l p m (i+1) bv bv];simp only;by_cases c:mO n (a,b)
   .have k:=c.1
    have o:=c.2;simp only at k o;rw[axm (by split<;>omega),axm (by split<;>omega)];by_cases d:∀e∈l.drop (i+1),mO n e
    .rw[axn d,axn (az7.2 ⟨c,d⟩)]
    .rw[axm d,axm (λh=>d (az7.1 h).2)]
   .have:¬((0<=a/\a<n)/\0<=b/\b<n):=c
    rw[axm (λh=>c (az7.1 h).1)];by_cases f:(if b<a then b else a)<0
    .rw[axn f]
    .rw[axm f]
     by_cases j:n<=(if b>a then b else a)
     .rw[axn j]
     .exfalso
      refine this ?_;split at f<;>split at j<;>omega
  .rw[axm bv,aym bv,axn d5]
def ym(n:Int)(l:bj):Int:=if n<1\/64<n then 1 else if∀e∈l,mO n e then 0 else 10
def UU(g:Fu+1<=a)(n:Int)(l:bj)(h:l.length<=9223372036854775807):J6 a (n,l)=some (ym n l):=by
 obtain⟨M,rfl⟩:=sC a 1;have f:=Ku M n l h M 0 (by rw[bP]at g;omega) bv;rw[aen,cd,cd,zQ.symm,f,ob,ayg];unfold ym;by_cases c:n<1
 .rw[axn c,axn (.inl c)]
 .rw[axm c]
  by_cases d:64<n
  .rw[axn d,axn (.inr d)]
  .rw[axm d,axm (show¬(n<1\/64<n) by omega)]
   by_cases b:∀e∈l,mO n e
   .rw[axn b,axn b];rfl
   .rw[axm b,axm b]
def aeN(b:∀v,e v<=v)(v x:Nat):root (cK e v (root e v)) x=root e x:=by
 have g:∀y,cK e v (root e v) y<=y:=λy=>by
  unfold cK;split
  next c=>subst c;exact Da b _
  .exact b y
 induction x using Nat.strongRecOn with
 |_ x d=>
  rw[hU g x];by_cases c:x=v
  .subst c
   have a:cK e x (root e x) x=root e x:=axn rfl;rw[a];split
   next c=>exact c.symm
   next c=>have f:=Da b x;rw[d _ bv,ln b (C_ b x)]
  .have a:cK e v (root e v) x=e x:=axm c
   rw[a,hU b x];split
   .rfl
   .have f:=b x
    exact d _ bv
def Dc(N:Nat)(f:Fu+1<=N){n:Nat}(l:n<=1000){c:Nat->Nat}:∀(m i:Nat) (s:aX),n - i<m->i<=n->NM n s c->(∀j,j<i->par s j=c j)->
 Ii N m ((n:Int),(i:Int),s)=some ((List.range n).map λv=>((c v:Nat):Int))
 |0,i,s,h,_,_,_=>absurd h bv
 |m+1,i,s,B,z,d,g=>by
  rw[aey,cd];by_cases q:i<n
  .rw[axn bv]
   obtain⟨p,b,a,t⟩:=Kr f l q d;rw[b,ob];simp only[a.nth q,ob,axw];rw[b9 bv];have o:=a.Xt;have u:c i<=i:=by rw[<-a.cls i q];exact Da o i
   have r:par (p.set i ((c i:Nat):Int))=cK (par p) i (c i):=Db (by rw[a.len];exact q);refine Dc N f l m (i+1) _ bv bv (a.set q u λx y=>?_) λj A=>?_
   .rw[<-a.cls i q,aeN o,a.cls x y]
   .rw[r]
    unfold cK;split
    next e=>rw[e]
    .exact t j bv (g j bv)
  .rw[axm bv]
   congr 1;refine ayR λj=>?_;rw[axM];by_cases k:j<n
   .obtain⟨w,b,_⟩:=d.at_ j k
    have:=g j bv;unfold par at this;rw[ayL,b]at this;simp at this;rw[b,azn k,this];rfl
   .rw[ax4 (by have:=d.len;omega),ax4 d7]
    rfl
def Hd(n:Int)(l:bj):aX:=(List.range n.toNat).map λv=>((mN (l.map oz) v:Nat):Int)
def PW(h:∀e∈m,mO d e):m=(m.map oz).map NN:=by
 rw[ayz];exact(azv m).symm.trans (ayp λe a=>(aow (h e a)).symm)
def x3{n:Int}(a:0<=n)(h:∀e∈m,mO n e):h9 n.toNat (m.map oz):=λe b=>by
 obtain⟨x,c,rfl⟩:=axC.1 b;have:=h x c;have e0:((n.toNat:Nat):Int)=n:=aAH a;exact mO.nat (by rw[e0];exact this)
def Ar(n:Int)(l:bj):(ym n l=1/\(n<1\/64<n))\/(ym n l=10/\(1<=n/\n<=64)/\¬∀e∈l,mO n e)\/(ym n l=0/\(1<=n/\n<=64)/\∀e∈l,mO n e):=by
 unfold ym;by_cases b:n<1\/64<n
 .exact .inl ⟨axn b,b⟩
 .rw[axm b]
  by_cases a:∀e∈l,mO n e
  .exact .inr (.inr ⟨axn a,bv,a⟩)
  .exact .inr (.inl ⟨axm a,bv,a⟩)
def Xu(g:Fu+5<=a)(n:Int)(l:bj)(i:l.length<=100000):abM a (n,l)=some (ym n l,if ym n l=0 then Hd n l else []):=by
 obtain⟨M,rfl⟩:=sC a 1;rw[ai8,UU bv n l bv,ob,Eb];rcases Ar n l with⟨h,_⟩|⟨h,_⟩|⟨h,o,d⟩
 .rw[h];rfl
 .rw[h];rfl
 .rw[h,axn rfl,axn rfl]
  obtain⟨k,rfl⟩:=nN n;obtain⟨q,e,f⟩:=US (N:=M) bv (n:=k) bv;obtain⟨m,b,c⟩:=UT (N:=M) bv (n:=k) bv (l:=l.map oz) (by simpa using i) (x3 bv d) f;rw[<-PW d]at b;rw[e,ob,b,ob];simp only[c.len];rw[zQ.symm,Dc M bv bv M 0 m (by rw[bP]at g;omega) bv c (λj p=>by omega)];rfl
def Xv:Nat->aX->Nat
 |_,[]=>0
 |i,x::l=>(if x=(i:Int)then 1 else 0)+Xv (i+1) l
def Kv(c:Nat->Nat):∀(k i:Nat),Xv i ((List.range' i k).map λv=>((c v:Nat):Int))=((List.range' i k).filter λv=>c v==v).length
 |0,i=>rfl
 |k+1,i=>by
  rw[aAX,axJ,Xv,Kv c k (i+1),ayF];by_cases q:c i=i
  .rw[axn bv,axn (by simpa using q)];simp;omega
  .rw[axm bv,axm (by simpa using q)];omega
def ajy(n:Int)(l:bj):Xv 0 (Hd n l)=LZ n.toNat (mN (l.map oz)):=by
 unfold Hd LZ;rw[aBH,Kv]
abbrev Tk:=Nat×Nat
def k6:a_->Tk->At a_
 |[],_=>none
 |[u],t=>if t.1=u then(if t.2=u then some [u]else some [t.2,u])else none
 |u::w::r,t=>if t.1=u then(if t.2=u then some (u::w::r)else if t.2=w then some (w::r)else some (t.2::u::w::r))else none
def run:a_->Do Tk->At a_
 |s,[]=>some s
 |s,t::l=>match k6 s t with
  |some z=>run z l
  |none=>none
def eR{t:Tk}{l:Do Tk}:run j (t::l)=some k↔∃y,k6 j t=some y/\run y l=some k:=by
 rw[run];cases h:k6 j t with
 |_=>simp
def lq:∀{l m:Do Tk} {s z:a_},run s (l++m)=some z↔∃y,run s l=some y/\run y m=some z
 |[],m,s,z=>by simp[run]
 |t::l,m,s,z=>by
  rw[ayB,eR];constructor
  .rintro⟨y,a,b⟩
   obtain⟨x,c,d⟩:=lq.1 b;exact⟨x,eR.2 ⟨y,a,c⟩,d⟩
  .rintro⟨x,c,d⟩
   obtain⟨y,a,b⟩:=eR.1 c;exact⟨y,a,lq.2 ⟨x,b,d⟩⟩
def iO{t:Tk}(h:k6 j t=some k):∃r,j=t.1::r/\((t.2=t.1/\k=j)\/(t.2≠t.1/\∃d,r=t.2::d/\k=r)\/(t.2≠t.1/\r.head?≠some t.2/\k=t.2::j)):=by
 match j with
 |[]=>simp[k6]at h
 |[u]=>
  simp only[k6]at h;split at h
  next b=>
   subst b;refine⟨[],rfl,?_⟩;split at h
   next a=>cases h;exact .inl ⟨a,rfl⟩
   next a=>cases h;exact .inr (.inr ⟨a,d5,rfl⟩)
  .cases h
 |u::w::r=>
  simp only[k6]at h;split at h
  next b=>
   subst b;refine⟨w::r,rfl,?_⟩;split at h
   next a=>cases h;exact .inl ⟨a,rfl⟩
   next a=>
    split at h
    next c=>cases h;exact .inr (.inl ⟨a,r,by rw[c],rfl⟩)
    next c=>cases h;exact .inr (.inr ⟨a,by simpa usingλe=>c e.symm,rfl⟩)
  .cases h
def l_(u:Nat)(r:a_):k6 (u::r) (u,u)=some (u::r):=by
 cases r<;>simp[k6]
def sA(h:c≠a)(r:a_):k6 (a::c::r) (a,c)=some (c::r):=by
 simp[k6,h]
def mb(h:c≠a)(b:j.head?≠some c):k6 (a::j) (a,c)=some (c::a::j):=by
 cases j with
 |nil=>simp[k6,h]
 |cons w j=>simp[k6,h,show¬c=w fromλe=>b (by rw[e];rfl)]
def ab2:∀{l:Do Tk} {s z:a_} {t:Tk},run s (l++[t])=some z->∃r,z=t.2::r:=by
 intro l s z t h;obtain⟨y,j,c⟩:=lq.1 h;obtain⟨x,d,a⟩:=eR.1 c;obtain⟨r,f,g⟩:=iO d;have a:x=z:=by simpa[run]using a
 subst a;rcases g with⟨e,rfl⟩|⟨e,i,b,rfl⟩|⟨e,b,rfl⟩
 .exact⟨r,by rw[e,f]⟩
 .exact⟨i,b⟩
 .exact⟨_,rfl⟩
def nX{t:Tk}{l:Do Tk}(h:run j (t::l)=some k):j.head?=some t.1:=by
 obtain⟨y,a,c⟩:=eR.1 h;obtain⟨r,b,_⟩:=iO a;rw[b];rfl
def Rb(u v:Nat)(s b:a_):Prop:=(∃a,s=a++[v,u]/\b=a++[v])\/∃a,s=a++[u]/\b=a++[u,v]/\a.getLast?≠some v
def aqG{f:Tk}(h:Rb a c j k)(D:k6 j f=some t):∃C,k6 k f=some C/\Rb a c t C:=by
 obtain⟨E,g⟩:=f;obtain⟨r,l,s⟩:=iO D;simp only at l s;rcases h with⟨d,n,o⟩|⟨d,n,o,B⟩
 .cases d with
  |nil=>
   simp only[ax3]at n o;subst n;subst o;simp only[ayv]at l;obtain⟨rfl,rfl⟩:=l;rcases s with⟨rfl,rfl⟩|⟨i,A,m,rfl⟩|⟨i,v,rfl⟩
   .exact⟨[g],l_ _ _,.inl ⟨[],rfl,rfl⟩⟩
   .simp only[ayv]at m
    obtain⟨rfl,rfl⟩:=m;exact⟨[a,c],mb i d5,.inr ⟨[],rfl,rfl,d5⟩⟩
   .exact⟨[g,c],mb i d5,.inl ⟨[g],rfl,rfl⟩⟩
  |cons x b=>
   subst n;subst o;simp only[ayB,ayv]at l;obtain⟨rfl,rfl⟩:=l;have v:∀y,(b++[c,a]).head?=some y->(b++[c]).head?=some y:=λy h=>by cases b<;>simpa using h
   have w:∀y,(b++[c]).head?=some y->(b++[c,a]).head?=some y:=λy h=>by cases b<;>simpa using h
   rcases s with⟨rfl,rfl⟩|⟨i,A,m,rfl⟩|⟨i,p,rfl⟩
   .exact⟨_,l_ _ _,.inl ⟨g::b,rfl,rfl⟩⟩
   .have:(b++[c]).head?=some g:=v _ (by rw[m];rfl)
    obtain⟨q,p⟩:∃q,b++[c]=g::q:=by
     cases u:b++[c]with
     |nil=>simp at u
     |cons y q=>rw[u]at this;simp at this;exact⟨q,by rw[this]⟩
    refine⟨b++[c],?_,.inl ⟨b,rfl,rfl⟩⟩;rw[ayB,p];exact sA i _
   .refine⟨g::x::b++[c],mb i λh=>p (w _ h),.inl ⟨g::x::b,rfl,rfl⟩⟩
 .cases d with
  |nil=>
   simp only[ax3]at n o;subst n;subst o;simp only[ayv]at l;obtain⟨rfl,rfl⟩:=l;rcases s with⟨rfl,rfl⟩|⟨i,A,m,rfl⟩|⟨i,v,rfl⟩
   .exact⟨[g,c],l_ _ _,.inr ⟨[],rfl,rfl,d5⟩⟩
   .cases m
   .by_cases z:g=c
    .subst z
     exact⟨[g],sA i _,.inl ⟨[],rfl,rfl⟩⟩
    .exact⟨[g,a,c],mb i (by simpa usingλe:c=g=>z e.symm),.inr ⟨[g],rfl,rfl,by simpa using z⟩⟩
  |cons x b=>
   subst n;subst o;simp only[ayB,ayv]at l;obtain⟨rfl,rfl⟩:=l;have v:∀y,(b++[a]).head?=some y->(b++[a,c]).head?=some y:=λy h=>by cases b<;>simpa using h
   have w:∀y,(b++[a,c]).head?=some y->(b++[a]).head?=some y:=λy h=>by cases b<;>simpa using h
   rcases s with⟨rfl,rfl⟩|⟨i,A,m,rfl⟩|⟨i,p,rfl⟩
   .exact⟨_,l_ _ _,.inr ⟨g::b,rfl,rfl,B⟩⟩
   .have:(b++[a,c]).head?=some g:=v _ (by rw[m];rfl)
    obtain⟨q,p⟩:∃q,b++[a,c]=g::q:=by
     cases u:b++[a,c]with
     |nil=>simp at u
     |cons y q=>rw[u]at this;simp at this;exact⟨q,by rw[this]⟩
    refine⟨b++[a,c],?_,.inr ⟨b,rfl,rfl,?_⟩⟩
    .rw[ayB,p]
     exact sA i _
    .cases b with
     |nil=>simp
     |cons y b=>rwa[aAY]at B
   .refine⟨g::x::b++[a,c],mb i λh=>p (w _ h),.inr ⟨g::x::b,rfl,rfl,by rwa[aAY]⟩⟩
def ajz{u v:Nat}:∀{l:Do Tk} {s s' z:a_},Rb u v s s'->run s l=some z->∃a,run s' l=some a/\Rb u v z a
 |[],s,s',z,h,b=>⟨s',rfl,by have:s=z:=by simpa[run]using b
                            exact this▸h⟩
 |t::l,s,s',z,h,b=>by
  obtain⟨y,c,d⟩:=eR.1 b;obtain⟨j,e,f⟩:=aqG h c;obtain⟨a,g,i⟩:=ajz f d;exact⟨a,eR.2 ⟨j,e,g⟩,i⟩
def Clo(l:Do Tk)(r:Nat):Prop:=run [r] l=some [r]
def ajB{t:Tk}{l:Do Tk}(h:Clo (t::l) a):t.1=a/\Clo (l++[t]) t.2:=by
 obtain⟨f,c⟩:=t;have m:f=a:=by have:=nX h;simpa using this.symm
 subst m;refine⟨rfl,?_⟩;obtain⟨y,n,g⟩:=eR.1 h;obtain⟨q,i,j⟩:=iO n;simp only[ayv,true_and]at i j;subst i;rcases j with⟨rfl,rfl⟩|⟨k,B,r,rfl⟩|⟨k,A,rfl⟩
 .exact lq.2 ⟨_,g,by simp[run,k6]⟩
 .cases r
 .obtain⟨w,o,p⟩:=ajz (u:=f) (v:=c) (s:=[c,f]) (s':=[c]) (.inl ⟨[],rfl,rfl⟩) g
  refine lq.2 ⟨w,o,?_⟩;rcases p with⟨b,d,e⟩|⟨b,d,e,z⟩
  .have:=axD List.length d
   simp at this
  .cases b with
   |nil=>
    simp only[ax3]at e;subst e;refine eR.2 ⟨[c],sA k _,rfl⟩
   |cons x b=>
    have:=axD List.length d;simp at this
def ab3:∀{a b:Do Tk} {r:Nat},Clo (a++b) r->∃c,Clo (b++a) c
 |[],b,r,h=>⟨r,by simpa using h⟩
 |t::a,b,r,h=>by
  obtain⟨f,d⟩:=ajB (by simpa using h:Clo (t::(a++b)) r);rw[axS]at d;obtain⟨c,e⟩:=ab3 d;exact⟨c,by simpa using e⟩
def PX:a_->Do Tk->a_
 |_,[]=>[]
 |s,t::l=>match k6 s t with
  |some z=>if s.length<z.length then t.2::PX z l else PX z l
  |none=>[]
def wJ(l:Do Tk):Nat:=(l.filter λt=>t.1 !=t.2).length
def e8(l:Do Tk):a_:=(l.filter λt=>t.1==t.2).map (·.1)
def UW{t:Tk}{l:Do Tk}(h:k6 j t=some k):PX j (t::l)=if j.length<k.length then t.2::PX k l else PX k l:=by
 rw[PX,h]
def x5(t:Tk)(l:Do Tk):wJ (t::l)=(if t.1=t.2 then 0 else 1)+wJ l:=by
 unfold wJ;by_cases h:t.1=t.2
 .simp[ayF,h]
 .simp[ayF,h];omega
def UX(l m:Do Tk):wJ (l++m)=wJ l+wJ m:=by simp[wJ]
def PY:∀{l:Do Tk} {s z:a_},run s l=some z->2*(PX s l).length+s.length=wJ l+z.length
 |[],s,z,h=>by
  have:s=z:=by simpa[run]using h
  subst this;simp[PX,wJ]
 |t::l,s,z,h=>by
  obtain⟨y,b,d⟩:=eR.1 h;have g:=PY d;obtain⟨r,c,f⟩:=iO b;rw[UW b,x5];rcases f with⟨e,rfl⟩|⟨a,k,j,rfl⟩|⟨a,i,rfl⟩
  .rw[axm (az8 _),axn e.symm];omega
  .rw[axm (by rw[c];simp),axm (λe=>a e.symm)]
   have:s.length=y.length+1:=by rw[c];rfl
   omega
  .rw[axn d5,axm (λe=>a e.symm)]
   simp at g⊢;omega
def PZ:∀{l:Do Tk} {s z:a_},run s l=some z->∀t∈l,t.1∈s\/t.1∈PX s l
 |[],s,z,h,t,b=>by cases b
 |x::l,s,z,h,t,b=>by
  obtain⟨y,d,f⟩:=eR.1 h;obtain⟨r,c,g⟩:=iO d;rw[UW d];rcases axP.1 b with rfl|b
  .exact .inl (by rw[c];simp)
  .have a:=PZ f t b
   rcases g with⟨e,rfl⟩|⟨i,m,k,rfl⟩|⟨i,j,rfl⟩
   .rw[axm (az8 _)];exact a
   .rw[axm (by rw[c];simp)]
    rcases a with a|a
    .exact .inl (by rw[c];exact ayr _ a)
    .exact .inr a
   .rw[axn d5]
    rcases a with a|a
    .rcases axP.1 a with a|a
     .exact .inr (by rw[a];simp)
     .exact .inl a
    .exact .inr (ayr _ a)
def o2{α:Type} [BEq α] [LawfulBEq α]:∀{A B:Do α},A.Nodup->(∀x∈A,x∈B)->B.length<=A.length->B.Perm A
 |[],B,_,_,b=>by
  have:B=[]:=ayn (by simpa using b);subst this;exact aAZ _
 |a::A,B,j,f,b=>by
  have h:a∈B:=f a d5;have c:=aCj h;have d:=ayx.1 j;have i:=c.length_eq;have l:(B.erase a).Perm A:=o2 d.2 (λx g=>by
   have k:=f x (by simp[g]);have:=c.mem_iff.1 k;rcases axP.1 this with e|e
   .exact absurd (e▸g) d.1
   .exact e) (by simp at b i;omega)
  exact c.trans (l.cons a)
def x6{l:Do Tk}:a∈e8 l↔(a,a)∈l:=by
 unfold e8;simp only[axC,ay8,aAf];constructor
 .rintro⟨⟨c,b⟩,⟨f,d⟩,e⟩
  simp only at d e;subst d;subst e;exact f
 .exactλh=>⟨(a,a),⟨h,rfl⟩,rfl⟩
def jI(t:Tk)(l:Do Tk):e8 (t::l)=if t.1=t.2 then t.1::e8 l else e8 l:=by
 unfold e8;by_cases h:t.1=t.2
 .simp[ayF,h]
 .simp[ayF,h]
def P0(l m:Do Tk):e8 (l++m)=e8 l++e8 m:=by simp[e8]
def mc:∀{l:Do Tk},l.Nodup->(e8 l).Nodup
 |[],_=>by simp[e8]
 |t::l,h=>by
  have c:=ayx.1 h;rw[jI];split
  next e=>refine ayx.2 ⟨λd=>c.1 ?_,mc c.2⟩;have:=x6.1 d;obtain⟨a,b⟩:=t;simp only at e this;rw[e]at this;rw[e];exact this
  .exact mc c.2
structure He(l:List Tk):Prop where
 nod:l.Nodup
 mN:∃r,Clo l r
 own:∀t∈l,(t.1,t.1)∈l
 num:wJ l+2=2*(e8 l).length
def He.perm{l m:Do Tk}(h:He l)(a:l.Perm m)(c:∃r,Clo m r):He m:=by
 have e:(e8 l).length=(e8 m).length:=((a.filter _).map _).length_eq;have b:wJ l=wJ m:=(a.filter _).length_eq;exact⟨a.nodup_iff.1 h.nod,c,λt d=>a.mem_iff.1 (h.own t (a.mem_iff.2 d)),by rw[<-b,<-e];exact h.num⟩
def He.Hc{a b:Do Tk}(h:He (a++b)):He (b++a):=by
 obtain⟨r,c⟩:=h.mN;exact h.perm aAu (ab3 c)
def He.ne{l:Do Tk}(h:He l):l≠[]:=λe=>by
 have:=h.num;subst e;simp[wJ,e8]at this
def He.atU{l:Do Tk}(h:He l)(c:Clo l a):(a::PX [a] l).Perm (e8 l):=by
 have d:=PY c;have:=h.num;refine o2 (mc h.nod) (λx b=>?_) (by simp at d⊢;omega);have b:=x6.1 b;rcases PZ c _ b with e|e
 .simp at e;simp[e]
 .exact ayr _ e
def He.once{l:Do Tk}(h:He l)(b:Clo l a):(a::PX [a] l).Nodup:=(h.atU b).nodup_iff.2 (mc h.nod)
def Kw{l:Do Tk}(c:l.Nodup):(run [a] l=some [a]/\(a::PX [a] l).Nodup/\(e8 l).length=(PX [a] l).length+1)↔(He l/\Clo l a):=by
 constructor
 .rintro⟨b,j,d⟩
  have f:(a::PX [a] l).Perm (e8 l):=o2 (mc c) (λx i=>by
   rcases PZ b _ (x6.1 i)with e|e
   .simp at e;simp[e]
   .exact ayr _ e) (by simp[d])
  refine⟨⟨c,⟨a,b⟩,λt g=>?_,?_⟩,b⟩
  .refine x6.1 (f.mem_iff.1 ?_)
   rcases PZ b _ g with e|e
   .simp at e;simp[e]
   .exact ayr _ e
  .have:=PY b
   simp at this;omega
 .rintro⟨h,b⟩
  exact⟨b,h.once b,by have:=(h.atU b).length_eq;simpa using this.symm⟩
def He.aqI{l:Do Tk}(h:He l){t:Tk}(o:t∈l):(t.2,t.2)∈l:=by
 obtain⟨a,b,rfl⟩:=List.append_of_mem o;have i:He (t::b++a):=h.Hc;have g:He ((b++a)++[t]):=by
  have:=(show He ([t]++(b++a))from by simpa using i).Hc;exact this
 obtain⟨r,d⟩:=g.mN;obtain⟨q,e⟩:=ab2 d;have n:r=t.2:=(aBI e).1;subst n;have j:∃x m,(b++a)++[t]=x::m:=by
  cases k:(b++a)++[t]with
  |nil=>simp at k
  |cons x m=>exact⟨x,m,rfl⟩
 obtain⟨x,m,f⟩:=j;rw[f]at d;have p:x.1=t.2:=by have:=nX d;simpa using this.symm
 have c:=g.own x (by rw[f];simp);rw[p]at c;simp only[axy,axP,List.not_mem_nil,or_false]at c⊢;rcases c with(c|c)|c
 .exact .inr (.inr c)
 .exact .inl c
 .exact .inr (.inl c)
def ajC{a:Tk}{w:Nat}(f:a.2≠w)(h:k6 j a=some k):k6 (j++w::t) a=some (k++w::t):=by
 obtain⟨m,n⟩:=a;obtain⟨r,c,d⟩:=iO h;simp only at c d f;subst c;rcases d with⟨rfl,rfl⟩|⟨b,l,i,rfl⟩|⟨b,g,rfl⟩
 .exact l_ _ _
 .subst i
  exact sA b _
 .refine mb b ?_
  cases r with
  |nil=>simpa usingλe=>f e.symm
  |cons x r=>simpa using g
def run_lift{b:a_}{w:Nat}:∀{l:Do Tk} {s z:a_},(∀t∈l,t.2≠w)->run s l=some z->run (s++w::b) l=some (z++w::b)
 |[],s,z,_,h=>by
  have:s=z:=by simpa[run]using h
  subst this;rfl
 |t::l,s,z,a,h=>by
  obtain⟨y,c,d⟩:=eR.1 h;exact eR.2 ⟨_,ajC (a t d5) c,run_lift (λx e=>a x (by simp[e])) d⟩
def He.link{d b:Do Tk}(i:He ((a,a)::d))(g:He ((c,c)::b))(j:∀x,(x,x)∈(a,a)::d->(x,x)∉(c,c)::b):He ((a,a)::(a,c)::((c,c)::b++(c,a)::d)):=by
 have k:a≠c:=λe=>by subst e;exact j a d5 d5
 obtain⟨r,p⟩:=i.mN;have:r=a:=by have:=nX p;simpa using this
 subst this;obtain⟨f,q⟩:=g.mN;have:f=c:=by have:=nX q;simpa using this
 subst this;have w:∀t∈(f,f)::b,t.2≠r:=λt o e=>j r d5 (by have:=g.aqI o;rwa[e]at this);have v:∀t,t∈(r,r)::d->t∉(f,f)::b:=λt l n=>j _ (i.own t l) (g.own t n);have B:(r,f)∉(r,r)::d:=λh=>j _ (i.aqI h) d5;have E:(f,r)∉(r,r)::d:=λh=>j _ (i.own _ h) d5;have C:(r,f)∉(f,f)::b:=λh=>j _ d5 (g.own _ h);have F:(f,r)∉(f,f)::b:=λh=>j _ d5 (g.aqI h);have m:((r,r)::(r,f)::((f,f)::b++(f,r)::d)).Perm ((r,f)::(f,r)::((r,r)::d++(f,f)::b)):=by
  refine(List.Perm.swap (r,f) (r,r) _).trans (List.Perm.cons _ ?_);have l:((f,f)::b++(f,r)::d).Perm ((f,r)::(d++(f,f)::b)):=by
   have:= @aAu _ ((f,f)::b) ((f,r)::d);simpa using this
  exact(l.cons (r,r)).trans (List.Perm.swap _ _ _)
 have A:((r,f)::(f,r)::((r,r)::d++(f,f)::b)).Nodup:=by
  refine ayx.2 ⟨λh=>?_,ayx.2 ⟨λh=>?_,ayc.2 ⟨i.nod,g.nod,λx G y H e=>v x G (e▸H)⟩⟩⟩
  .rcases axP.1 h with h|h
   .simp at h;exact k h.1
   .rcases axy.1 h with h|h
    .exact B h
    .exact C h
  .rcases axy.1 h with h|h
   .exact E h
   .exact F h
 refine⟨m.nodup_iff.2 A,⟨r,?_⟩,λt o=>?_,?_⟩
 .refine eR.2 ⟨[r],l_ _ _,eR.2 ⟨[f,r],mb (λe=>k e.symm) d5,?_⟩⟩
  refine lq.2 ⟨[f,r],?_,eR.2 ⟨[r],sA k _,?_⟩⟩
  .exact run_lift (s:=[f]) (z:=[f]) (b:=[]) w q
  .obtain⟨y,l,n⟩:=eR.1 p
   obtain rfl:=axt ((l_ _ _:k6 [r] (r,r)=_).symm.trans l);exact n
 .have:=m.mem_iff.1 o
  refine m.mem_iff.2 ?_;refine ayr _ (ayr _ ?_);rcases axP.1 this with rfl|h
  .exact aBi _ d5
  rcases axP.1 h with rfl|h
  .exact aBj _ d5
  rcases axy.1 h with h|h
  .exact aBi _ (i.own t h)
  .exact aBj _ (g.own t h)
 .have D:(e8 ((r,r)::(r,f)::((f,f)::b++(f,r)::d))).length=(e8 ((r,f)::(f,r)::((r,r)::d++(f,f)::b))).length:=((m.filter _).map _).length_eq
  have u:wJ ((r,r)::(r,f)::((f,f)::b++(f,r)::d))=wJ ((r,f)::(f,r)::((r,r)::d++(f,f)::b)):=(m.filter _).length_eq;rw[D,u];have l:=i.num;have n:=g.num;rw[x5,x5,jI,jI,axm k,axm k,axm (λe:f=r=>k e.symm),axm (λe:f=r=>k e.symm),UX,P0,axG];omega
def UY:∀l:Do Tk,wJ l+(e8 l).length=l.length
 |[]=>rfl
 |t::l=>by
  have:=UY l;rw[x5,jI];split<;>simp<;>omega
def He.len{l:Do Tk}(h:He l):l.length+2=3*(e8 l).length:=by
 have:=h.num;have:=UY l;omega
def dk(n:Nat)(t:Int):At Tk:=
 if 0<=t/\t<n then some (t.toNat,t.toNat)
 else if(n:Int)<=t/\t.toNat<n*(n+1)then(if t.toNat/n - 1=t.toNat % n then none else some (t.toNat/n - 1,t.toNat % n))
 else none
def ek(n:Nat)(e:Tk):Int:=if e.1=e.2 then(e.1:Int)else((n*(e.1+1)+e.2:Nat):Int)
def De{e:Tk}(h:dk n d=some e):ek n e=d/\e.1<n/\e.2<n:=by
 unfold dk at h;split at h
 next c=>cases h;refine⟨?_,bv,bv⟩;unfold ek;rw[axn rfl];omega
 .split at h
  next f c=>
   split at h
   .cases h
   next b=>
    cases h;have a:0<n:=by
     rcases az4 n with e|e
     .subst e;simp at c
     .exact e
    have g:d.toNat/n<n+1:=aCk c.2;have i:1<=d.toNat/n:=(aAx a).2 bv;refine⟨?_,by simp only;omega,azX _ a⟩;unfold ek;rw[axm b];simp only;rw[show d.toNat/n - 1+1=d.toNat/n by omega,Nat.div_add_mod];omega
  .cases h
def ajD{n:Nat}{e:Tk}(f:e.1<n)(a:e.2<n):dk n (ek n e)=some e:=by
 obtain⟨u,v⟩:=e;simp only at f a;unfold ek dk;by_cases c:u=v
 .subst c
  simp only[ax0];rw[axn bv];simp
 .simp only[c,ayl]
  have h:n*1<=n*(u+1):=azf n bv;have g:n*(u+1)+v<n*(n+1):=by
   have:n*(u+1)+n<=n*(n+1):=by
    have:=azf n (show u+1+1<=n+1 by omega);rw[Nat.mul_add n (u+1) 1,ayQ]at this;exact this
   omega
  rw[axm bv,axn ⟨bv,by rw[axw];exact g⟩];have b:(n*(u+1)+v)/n=u+1:=by
   rw[Nat.mul_add_div bv,aBD a]
  have d:(n*(u+1)+v) % n=v:=by
   rw[Nat.mul_add_mod,azL a]
  rw[axw,b,d,axm bv];simp
def aqJ{e:Tk}(h:dk n d=some e)(k:dk n A=some e):d=A:=(De h).1.symm.trans (De k).1
def Il(h:dk n d=some (a,a)):d=(a:Int)/\a<n:=by
 have:=De h;unfold ek at this;simp only[ax0]at this;exact⟨this.1.symm,this.2.1⟩
def iI(h:a<n):dk n (a:Int)=some (a,a):=by
 have:=ajD (e:=(a,a)) h h;unfold ek at this;simpa using this
def UZ(n:Nat)(t:Int):Int×Int×In×In:=match dk n t with
 |none=>(0,0,false,false)
 |some (u,v)=>if u=v then((u:Int),0,false,true)else((u:Int),(v:Int),true,true)
def avX(h:n<=64):n*(n+1)<=4160:=ayj (ay1 h (show n+1<=65 by omega)) d6
def Dg(b:1<=a)(n:Int):Al a n=some (decide (1<=n/\n<=64)):=by
 obtain⟨a,rfl⟩:=sC a 1;rw[adE,cd];by_cases c:1<=n<;>simp[c]
def U0(d:2<=a)(n v:Int):pV a (n,v)=some (decide ((1<=n/\n<=64)/\0<=v/\v<n)):=by
 obtain⟨a,rfl⟩:=sC a 1;rw[adH,Dg bv,ob];by_cases c:1<=n/\n<=64
 .simp only[c,and_self,ayD,axL,cd,true_and]
  by_cases b:0<=v<;>simp[b]
 .simp[c]
def ajE(m:2<=a)(h:1<=n)(f:n<=64)(t:Int):O7 a ((n:Int),t)=some (UZ n t):=by
 obtain⟨a,rfl⟩:=sC a 1;have p:=avX f;have g:wZ ((n:Int)*(wZ ((n:Int)+(1:Int))))=((n*(n+1):Nat):Int):=by
  rw[fF (x:=(n:Int)+1) bv bv,show(n:Int)*((n:Int)+1)=((n*(n+1):Nat):Int) by rw[azi,Int.natCast_add];rfl,fF bv bv]
 rw[adI,Dg bv,ob,g];rw[axQ (show(1:Int)<=(n:Int)/\(n:Int)<=64 by omega)];simp only[axA,axr,cd];unfold UZ dk;by_cases c:t<0
 .rw[axn c,axm bv,axm bv]
 rw[axm c];by_cases d:((n*(n+1):Nat):Int)<=t
 .have o:n*1<=n*(n+1):=azf n bv
  rw[axn d,axm bv,axm bv]
 rw[axm d];by_cases e:t<n
 .rw[axn e,axn bv]
  simp;omega
 rw[axm e,axm bv,axn bv];obtain⟨k,rfl⟩:=nN t;rw[PM bv,ob,Xp bv,ob,wD,Kj,axw];have i:k/n<n+1:=aCk bv;have j:1<=k/n:=(aAx bv).2 bv;have l:k % n<n:=azX _ bv;rw[fF (x:=((k/n:Nat):Int)) bv bv,fF (x:=((k/n:Nat):Int) - 1) bv bv];by_cases b:k/n - 1=k % n
 .rw[axn bv,axn b]
 .rw[axm bv,axm b]
  simp only[b,ayl];congr 2;omega
def gs:a_->a_->Do Tk->At (a_×a_)
 |s,c,[]=>some (s,c)
 |s,c,t::l=>match k6 s t with
  |none=>none
  |some z=>if s.length<z.length then(if t.2∈c then none else gs z (c++[t.2]) l)else gs z c l
def P1:∀{l:Do Tk} {s c z d:a_},c.Nodup->(gs s c l=some (z,d)↔run s l=some z/\d=c++PX s l/\(c++PX s l).Nodup)
 |[],s,c,z,d,f=>by
  simp only[gs,run,PX,ax6,axq,axI];constructor
  .rintro⟨rfl,rfl⟩;exact⟨rfl,rfl,f⟩
  .rintro⟨rfl,rfl,_⟩;exact⟨rfl,rfl⟩
 |t::l,s,c,z,d,f=>by
  rw[gs,run,PX];cases n:k6 s t with
  |none=>simp
  |some y=>
   simp only;by_cases g:s.length<y.length
   .rw[axn g,axn g]
    by_cases i:t.2∈c
    .rw[axn i]
     constructor
     .intro h;cases h
     .rintro⟨_,_,h⟩
      exact absurd rfl ((ayc.1 h).2.2 t.2 i t.2 d5)
    .rw[axm i]
     have m:(c++[t.2]).Nodup:=ayc.2 ⟨f,d5,λa k b j e=>i (by simp at j;rw[<-j,<-e];exact k)⟩;rw[P1 m];simp only[axS,ayI]
   .rw[axm g,axm g]
    exact P1 f
def nY(n:Nat)(l:aX):Prop:=∃T,l.map (dk n)=T.map some/\He T
def Dh{α:Type}:∀{a b:Do α},a.map some=b.map some->a=b
 |[],[],_=>rfl
 |[],_::_,h=>by simp at h
 |_::_,[],h=>by simp at h
 |x::a,y::b,h=>by
  simp only[axJ,ayv,axq]at h;rw[h.1,Dh h.2]
def Gx{T S:Do Tk}(h:b.map (dk n)=T.map some)(k:b.map (dk n)=S.map some):T=S:=by
 have:T.map some=S.map some:=h.symm.trans k;exact Dh this
def Kx{n:Nat}:∀{l:aX} {T:Do Tk},l.map (dk n)=T.map some->(l.Nodup↔T.Nodup)
 |[],T,h=>by cases T<;>simp at h⊢
 |x::l,[],h=>by simp at h
 |x::l,t::T,h=>by
  simp only[axJ,ayv]at h;have e:=Kx h.2;have a:x∈l↔t∈T:=by
   constructor
   .intro c
    have:dk n x∈T.map some:=by rw[<-h.2];exact axC.2 ⟨x,c,rfl⟩
    rw[h.1]at this;simpa using this
   .intro b
    have:some t∈l.map (dk n):=by rw[h.2];exact axC.2 ⟨t,b,rfl⟩
    obtain⟨y,f,d⟩:=axC.1 this;rwa[aqJ h.1 d]
  rw[ayx,ayx,e,a]
structure Cm(c:a_)(m:bj):Prop where
 at_:∀v:Nat,(bL (.i .i64) m (v:Int)).getD 0=if v∈c then 1 else 0
 len:m.length=c.length
 pos:∀v x,bL (.i .i64) m v=some x->x=1
def Cm.push{c:a_}{m:bj}(h:Cm c m){v:Nat}(i:v∉c):Cm (c++[v]) (dO (.i .i64) m (v:Int) 1):=by
 have b:=h.at_ v;rw[axm i]at b;have g:bL (.i .i64) m (v:Int)=none:=by
  cases d:bL (.i .i64) m (v:Int)with
  |none=>rfl
  |some x=>
   have:=h.pos _ _ d;rw[d,this]at b;simp at b
 refine⟨λw=>?_,?_,λw x a=>?_⟩
 .rw[oZ]
  by_cases e:v=w
  .subst e;simp
  .rw[axm bv,h.at_ w]
   have:(w∈c++[v])↔w∈c:=by simp only[axy,axK];exact⟨λh=>h.resolve_right λf=>e f.symm,.inl⟩
   simp only[this]
 .rw[C6,g,h.len];simp
 .rw[oZ]at a
  split at a
  .exact(axt a).symm
  .exact h.pos _ _ a
structure Me(ms:a_)(m:bj):Prop where
 mem:∀v:Nat,(bL (.i .i64) m (v:Int)).isSome=decide (v∈ms)
 len:m.length=ms.length
def Me.push{m:bj}(h:Me j m){v:Nat}(b:v∉j)(x:Int):Me (j++[v]) (dO (.i .i64) m (v:Int) x):=by
 refine⟨λw=>?_,?_⟩
 .rw[oZ]
  by_cases e:v=w
  .subst e;simp
  .rw[axm bv,h.mem w]
   have:(w∈j++[v])↔w∈j:=by simp only[axy,axK];exact⟨λh=>h.resolve_right λa=>e a.symm,.inl⟩
   simp only[this]
 .rw[C6,h.mem v,h.len];simp[b]
def kY(s:a_):aX:=s.reverse.map λv:Nat=>(v:Int)
def q8(s:a_):(kY s).length=s.length:=by simp[kY]
def U1(x:Nat)(r:a_):(kY (x::r))[r.length]? =some (x:Int):=by
 simp[kY,aya]
def ajF(x y:Nat)(r:a_):(kY (x::y::r))[r.length]? =some (y:Int):=by
 simp[kY,aya]
def NO(x:Nat)(s:a_):kY (x::s)=kY s++[(x:Int)]:=by simp[kY]
def ajG(w:1<=a){b d:bj}(v:j.length<=100000)(m:c≠n)(t:Cm k b):
 Zt a ((c:Int),(n:Int),kY (C::j),b,d)=some (match k6 (C::j) (c,n)with
  |none=>(false,b,d,kY (C::j))
  |some z=>if(C::j).length<z.length then(if n∈k then(false,b,d,kY (C::j))else(true,dO (.i .i64) b (n:Int) 1,d,kY z))else(true,b,d,kY z)):=by
 obtain⟨a,rfl⟩:=sC a 1;have q:wZ ((((kY (C::j)).length:Nat):Int) - (1:Int))=(j.length:Int):=by
  rw[q8,axN,fF bv bv];omega
 have u:=t.at_ n;rw[ahl,q];simp only[ba (U1 C j),ob,Eb,cd];by_cases g:C=c
 rotate_left
 .rw[axm bv]
  have:k6 (C::j) (c,n)=none:=by
   cases j with
   |_=>simp[k6,show¬c=C fromλe=>g e.symm]
  rw[this]
 subst g;rw[axn rfl,u];have l:∀h:j.head?≠some n,(if(0:Int)<(if n∈k then 1 else 0)then some (false,b,d,kY (C::j))else
  aW (er (8:Nat) (kY (C::j)) [(n:Int)]) λz=>some (true,dO (.i .i64) b (n:Int) (wZ ((if n∈k then 1 else 0)+(1:Int))),d,z))=
  some (match k6 (C::j) (C,n)with
  |none=>(false,b,d,kY (C::j))
  |some z=>if(C::j).length<z.length then(if n∈k then(false,b,d,kY (C::j))else(true,dO (.i .i64) b (n:Int) 1,d,kY z))else(true,b,d,kY z)):=λh=>by
  rw[mb (λe=>m e.symm) h];have f:(C::j).length<(n::C::j).length:=d5
  by_cases o:n∈k
  .simp only[axn o,axn f,axn (show(0:Int)<1 by decide)]
  .simp only[axm o,axn f,axm (show¬(0:Int)<0 by decide)]
   rw[bW bv (by rw[q8];simp;omega),ob,NO n];rfl
 cases j with
 |nil=>
  rw[axm d5];exact l d5
 |cons y j=>
  rw[axn (by simp only[axN];omega)];have r:wZ ((((y::j).length:Nat):Int) - (1:Int))=(j.length:Int):=by
   rw[axN,fF bv (by simp at v;omega)];omega
  rw[r];simp only[ba (ajF C y j),ob];by_cases p:y=n
  .subst p
   have f:¬(C::y::j).length<(y::j).length:=d5
   have s:j0 (kY (C::y::j)) (0:Int) (((y::j).length:Nat):Int)=some (kY (y::j)):=by
    rw[wB bv (by rw[q8];simp only[axN];omega),axw,NO C];exact axD some (aAc (l₁:=kY (y::j)) (l₂:=[(C:Int)]) (i:=(y::j).length) (q8 _))
   rw[axn rfl,s,ob];simp only[sA (λe:y=C=>m e.symm),axm f]
  .rw[axm bv]
   exact l (by simpa usingλe=>p e)
def Di{t:Tk}{T:Do Tk}(h:k6 j t=none):gs j k (t::T)=none:=by rw[gs,h]
def Ky{a:Tk}{T:Do Tk}(h:k6 j a=some t)(b:¬j.length<t.length):gs j k (a::T)=gs t k T:=by
 rw[gs,h];exact axm b
def Xw{a:Tk}{T:Do Tk}(h:k6 j a=some t)(b:j.length<t.length)(c:a.2∈k):gs j k (a::T)=none:=by
 rw[gs,h];simp only;rw[axn b,axn c]
def U2{a:Tk}{T:Do Tk}(h:k6 j a=some t)(b:j.length<t.length)(c:a.2∉k):gs j k (a::T)=gs t (k++[a.2]) T:=by
 rw[gs,h];simp only;rw[axn b,axm c]
def ab4{t:Tk}(h:k6 j t=some k):k.length<=j.length+1/\k≠[]:=by
 obtain⟨r,a,b⟩:=iO h;rcases b with⟨_,rfl⟩|⟨_,d,c,rfl⟩|⟨_,_,rfl⟩
 .exact⟨bv,by rw[a];simp⟩
 .exact⟨by rw[a];simp;omega,by rw[c];simp⟩
 .exact⟨d5,d5⟩
abbrev Im(n:Nat)(l:aX)(i:Nat)(s c e:a_)(o:(aX×bj×bj)⊕In):Prop:=
 (o=.inr false/\∀T z a,(l.drop i).map (dk n)=T.map some->gs s c T≠some (z,a))\/
  ∃T z a b d,(l.drop i).map (dk n)=T.map some/\gs s c T=some (z,a)/\o=.inl (kY z,b,d)/\Cm a b/\Me (e++e8 T) d
def sB{s c m q i p:a_}{e:Tk}{o:(aX×bj×bj)⊕In}(l:b[a]? =some d)(j:dk n d=some e)
 (k:∀T,gs s c (e::T)=gs q i T) (A:∀T,m++e8 (e::T)=p++e8 T) (h:Im n b (a+1) q i p o):Im n b a s c m o:=by
 rcases h with⟨rfl,h⟩|⟨T,z,g,r,B,t,u,v,w,y⟩
 .refine .inl ⟨rfl,λT z g f=>?_⟩
  rw[cQ l,axJ,j]at f;cases T with
  |nil=>simp at f
  |cons x T=>
   simp only[axJ,ayv,axq]at f;rw[<-f.1,k];exact h T z g f.2
 .refine .inr ⟨e::T,z,g,r,B,?_,by rw[k];exact u,v,w,by rw[A];exact y⟩
  rw[cQ l,axJ,j,t];rfl
def sD{e:Tk}(i:b[a]? =some d)(f:dk n d=some e)(g:∀T,gs j k (e::T)=none):Im n b a j k t (.inr false):=by
 refine .inl ⟨rfl,λT z l c=>?_⟩;rw[cQ i,axJ,f]at c;cases T with
 |nil=>simp at c
 |cons x T=>
  simp only[axJ,ayv,axq]at c;rw[<-c.1,g];intro h;cases h
def x7(N:Nat)(L:Fu+3<=N){n:Nat}(F:1<=n)(G:n<=64){l:aX}(O:l.length<=1000):∀(m i:Nat) (s c f:a_) (j k:bj),l.length - i<m->i<=l.length->s≠[]->s.length<=i+1->Cm c j->Me f k->(f.map (λv:Nat=>(v:Int))++l.drop i).Nodup->
 ∃o,iE N m ((n:Int),l,(l.length:Int),(i:Int),kY s,j,k)=some o/\Im n l i s c f o
 |0,i,s,c,f,j,k,h,_,_,_,_,_,_=>absurd h bv
 |m+1,i,s,c,f,j,k,hm,hi,hs,R,w,H,I=>by
  rw[W_,cd];by_cases q:i<l.length
  rotate_left
  .rw[axm bv]
   have d:l.drop i=[]:=aym bv;exact⟨_,rfl,.inr ⟨[],s,c,j,k,by rw[d];rfl,rfl,rfl,w,by simpa[e8]using H⟩⟩
  rw[axn bv];obtain⟨t,g⟩:=get_at (xs:=l) (i:=i) q;rw[ba g,ob,ajE bv F G,ob,b9 bv];obtain⟨x,r,rfl⟩:∃x r,s=x::r:=by
   cases s with
   |nil=>exact absurd rfl hs
   |cons x r=>exact⟨x,r,rfl⟩
  rw[cQ g]at I;cases d:dk n t with
  |none=>
   have D:UZ n t=(0,0,false,false):=by unfold UZ;rw[d]
   rw[D];refine⟨_,rfl,.inl ⟨rfl,λT z c2 M=>?_⟩⟩;rw[cQ g,axJ,d]at M;cases T with
   |_=>simp at M
  |some e=>
   obtain⟨u,v⟩:=e;by_cases J:u=v
   .subst J
    have D:UZ n t=((u:Int),0,false,true):=by unfold UZ;rw[d];simp
    obtain⟨S,a0⟩:=Il d;rw[D];simp only[axA,ayf,axr,axL];have W:wZ ((((kY (x::r)).length:Nat):Int) - (1:Int))=(r.length:Int):=by
     rw[q8,axN,fF bv (by simp only[axN]at R;omega)];omega
    rw[W];simp only[ba (U1 x r),ob,Eb];by_cases P:x=u
    .subst P
     rw[axn rfl];have Z:x∉f:=λhx=>(ayc.1 I).2.2 (x:Int) (axC.2 ⟨x,hx,rfl⟩) t d5 S.symm;obtain⟨o,A,B⟩:=x7 N L F G O m (i+1) (x::r) c (f++[x]) j _ bv bv d5 bv w (H.push Z _) (by
      rw[aya,axS];simp only[axJ,ayy,ayI];rw[<-S];exact I)
     refine⟨o,A,sB g d (λT=>Ky (l_ _ _) (az8 _)) (λT=>?_) B⟩;rw[jI,axn rfl,axS];rfl
    .rw[axm bv]
     refine⟨_,rfl,sD g d λT=>Di ?_⟩;cases r with
     |_=>simp[k6,show¬u=x fromλe=>P e.symm]
   .have D:UZ n t=((u:Int),(v:Int),true,true):=by unfold UZ;rw[d];simp[J]
    rw[D];simp only[axA,ayf,axr,axL];rw[ajG bv (by simp only[axN]at R;omega) J w,ob];have Q:(f.map (λv:Nat=>(v:Int))++l.drop (i+1)).Nodup:=by
     have K:=ayc.1 I;exact ayc.2 ⟨K.1,(ayx.1 K.2.1).2,λa X b Y=>K.2.2 a X b (by simp[Y])⟩
    have U:∀T,f++e8 ((u,v)::T)=f++e8 T:=λT=>by rw[jI,axm J]
    cases C:k6 (x::r) (u,v)with
    |none=>exact⟨_,rfl,sD g d λT=>Di C⟩
    |some z=>
     have V:=ab4 C;by_cases p:(x::r).length<z.length
     .by_cases E:v∈c
      .simp only[axn p,axn E]
       exact⟨_,rfl,sD g d λT=>Xw C p E⟩
      .simp only[axn p,axm E,axA,ayf,axr]
       obtain⟨o,A,B⟩:=x7 N L F G O m (i+1) z (c++[v]) f _ k bv bv V.2 bv (w.push E) H Q;exact⟨o,A,sB g d (λT=>U2 C p E) U B⟩
     .simp only[axm p,axA,ayf,axr]
      obtain⟨o,A,B⟩:=x7 N L F G O m (i+1) z c f j k bv bv V.2 bv w H Q;exact⟨o,A,sB g d (λT=>Ky C p) U B⟩
def amV{N:Nat}(Y:Fu+5<=N)(R:1<=n)(U:n<=64)(hl:b.length<=1000)(K:b.Nodup)(B:b=d::o):
 ∃f,O8 N ((n:Int),b)=some f/\(f=true↔(0<=d/\d<n)/\nY n b):=by
 obtain⟨N,rfl⟩:=sC N 1;have a7:b[0]? =some d:=by rw[B];rfl
 have a5:aZ b (0:Int)=some d:=ba (i:=0) a7;rw[adJ];simp only[a5,ob];rw[U0 bv,ob,Eb];by_cases c:0<=d/\d<n
 rotate_left
 .rw[axm bv]
  exact⟨false,rfl,by simp[c]⟩
 rw[axn ⟨bv,c⟩];obtain⟨u,rfl⟩:=nN d;have E:u<n:=bv
 have a0:Cm [u] (dO (.i .i64) [] (u:Int) 1):=by
  have:=Cm.push (c:=[]) (m:=[]) ⟨λv=>by simp[bL],rfl,λv d h=>by simp[bL]at h⟩ (v:=u) d5;simpa using this
 obtain⟨g,M,a6⟩:=x7 N bv R U hl N 0 [u] [u] [] _ [] (by rw[bP]at Y;omega) bv d5 d5 a0 ⟨λv=>by simp[bL],rfl⟩ (by simpa using K);have hw:kY [u]=[(u:Int)]:=rfl;rw[hw,zQ]at M;rw[M,ob];rcases a6 with⟨rfl,L⟩|⟨T,z,P,Q,a9,j,hg,rfl,a2,a4⟩
 .refine⟨false,rfl,?_⟩
  simp only[ayW,az2,not_and];rintro _ ⟨T,j,k⟩;rw[ayg]at L;have q:T≠[]:=k.ne;have J:T.head?=some (u,u):=by
   rw[B]at j;cases T with
   |nil=>exact absurd rfl q
   |cons t T=>
    simp only[axJ,ayv,iI E,axq]at j;rw[<-j.1];rfl
  obtain⟨r,p⟩:=k.mN;have A:r=u:=by
   cases T with
   |nil=>exact absurd rfl q
   |cons t T=>
    have:=nX p;simp at J this;rw[J]at this;exact this
  subst A;have:=((Kw k.nod).2 ⟨k,p⟩);exact L T [r] ([r]++PX [r] T) j ((P1 d5).2 ⟨this.1,rfl,this.2.1⟩)
 .rw[ayg]at j
  have q:T.Nodup:=(Kx j).1 K;have w:=(P1 d5).1 hg;have a3:a9.length=(e8 T).length:=by simpa using a4.len
  have a1:Q.length=P.length:=a2.len;simp only[q8];have a8:∃y r,z=y::r:=by
   have X:T≠[]:=λe=>by rw[B,e]at j;simp at j
   obtain⟨G,t,rfl⟩:∃G t,T=G++[t]:=by
    rcases aCl T with e|⟨a,f,e⟩
    .exact absurd e X
    .exact⟨a,f,by rw[e,aCm]⟩
   obtain⟨r,p⟩:=ab2 w.1;exact⟨_,_,p⟩
  obtain⟨y,r,rfl⟩:=a8;rw[cd];by_cases D:r=[]
  rotate_left
  .have aa:0<r.length:=aza.2 D
   rw[axm (by simp only[axN];omega)];refine⟨false,rfl,?_⟩;simp only[ayW,az2,not_and];rintro _ ⟨S,C,k⟩;obtain rfl:=Gx j C;obtain⟨F,x⟩:=k.mN;have A:F=u:=by
    cases T with
    |nil=>exact absurd rfl k.ne
    |cons t T=>
     rw[B]at j;simp only[axJ,ayv,iI E,axq]at j;have l:=nX x;simp at l;rw[l,<-j.1]
   subst A;have:=x.symm.trans w.1;simp only[axq,ayv]at this;exact D this.2.symm
  .subst D
   rw[axn d5];have O:run [u] T=some [y]:=w.1;refine⟨_,rfl,?_⟩;rw[ayd,a3,a1,w.2.1];have ab:y=u\/True:=.inr trivial;constructor
   .intro he
    refine⟨c,T,j,?_⟩;have Z:∀(b:Do Tk) (s z:a_),s≠[]->run s b=some z->z.getLast?=s.getLast?:=λb=>by
     induction b with
     |nil=>intro s z _ h;have:s=z:=by simpa[run]using h
           rw[this]
     |cons t b ih=>
      intro s z hs h;obtain⟨y,l,V⟩:=eR.1 h;rw[ih y z (ab4 l).2 V];obtain⟨r,H,W⟩:=iO l;rcases W with⟨_,rfl⟩|⟨_,r',p,rfl⟩|⟨_,_,rfl⟩
      .rfl
      .rw[H,p,aAY]
      .rw[H,aAY]
    have I:=Z T [u] [y] d5 O;simp at I;subst I;exact((Kw q).1 ⟨O,by simpa using w.2.2,by simp at he;omega⟩).1
   .rintro⟨_,S,C,k⟩
    obtain rfl:=Gx j C;obtain⟨F,x⟩:=k.mN;have A:F=u:=by
     cases T with
     |nil=>exact absurd rfl k.ne
     |cons t T=>
      rw[B]at j;simp only[axJ,ayv,iI E,axq]at j;have l:=nX x;simp at l;rw[l,<-j.1]
    subst A;have:=((Kw q).2 ⟨k,x⟩).2.2;simp;omega
def nY.Hc{n:Nat}{a b:aX}(h:nY n (a++b)):nY n (b++a):=by
 obtain⟨T,c,i⟩:=h;rw[aya]at c;obtain⟨S1,d,e,f,g⟩:=List.append_eq_map_iff.1 c;subst e;exact⟨d++S1,by rw[aya,aya,<-f,<-g],i.Hc⟩
def E4{l:aX}:nY n (Proofs.YtpndmjnaljjbaaaGreatDoor.Hc l a)↔nY n l:=by
 have e:l.take a++l.drop a=l:=ayP a l;constructor
 .intro h
  have:=nY.Hc h;rwa[e]at this
 .intro h
  rw[<-e]at h;exact h.Hc
def kV(r:aX):Int:=r.headD 0
def amW(n:Nat)(a:Int)(r:aX):Prop:=r≠[]/\a<kV r/\fe r/\oH r=kV r/\nY n r
def Dj(n:Nat):Int->bO->Prop
 |_,[]=>True
 |last,r::a=>amW n last r/\Dj n (kV r) a
def vt(n:Nat)(r:aX):aX:=r.filter λt=>decide (t<(n:Int))
def tF(n:Nat)(a:bO):aX:=a.flatMap (vt n)
structure cq(n:Nat)(rs:bO):Prop where
 lo:1<=n
 hi:n<=64
 rg:Dj n (-1) rs
 nd:(tF n rs).Nodup
 all:∀v:Nat,v<n->(v:Int)∈tF n rs
def Dl(h:b≠[]):b[0]? =some (kV b):=by
 cases b with
 |nil=>exact absurd rfl h
 |cons x b=>rfl
def P2{α:Type} [BEq α] [LawfulBEq α]:∀{A B:Do α},A.Nodup->(∀x∈A,x∈B)->A.length<=B.length
 |[],B,_,_=>by simp
 |a::A,B,i,d=>by
  have g:a∈B:=d a d5;have c:=aCj g;have b:=ayx.1 i;have h:=c.length_eq;have j:A.length<=(B.erase a).length:=P2 b.2 λx f=>by
   have:=c.mem_iff.1 (d x (by simp[f]));rcases axP.1 this with e|e
   .exact absurd (e▸f) b.1
   .exact e
  simp at h⊢;omega
def U3{n:Nat}:∀{b:bO} {c:Int},Dj n c b->∀r∈b,∃l,amW n l r
 |[],_,_,r,a=>by cases a
 |x::b,c,h,r,a=>by
  rcases axP.1 a with rfl|a
  .exact⟨_,h.1⟩
  .exact U3 h.2 r a
def ajH(h:fe b)(a:d∈vt n b):d∈b/\0<=d/\d<n:=by
 unfold vt at a;simp only[ay8,ayd]at a;exact⟨a.1,(h.2.1 d a.1).1,a.2⟩
def ajI(h:Dj n d g)(a:A∈tF n g):∃r∈g,A∈r/\0<=A/\A<n:=by
 obtain⟨r,b,a⟩:=ayJ.1 a;obtain⟨l,c⟩:=U3 h r b;exact⟨r,b,ajH c.2.2.1 a⟩
def E7(h:nY n b):vt n b≠[]:=by
 obtain⟨T,e,c⟩:=h;cases T with
 |nil=>exact absurd rfl c.ne
 |cons t T=>
  have:=c.own t d5;have d:some (t.1,t.1)∈b.map (dk n):=by rw[e];exact axC.2 ⟨_,this,rfl⟩
  obtain⟨y,f,g⟩:=axC.1 d;have i:=Il g;refine List.ne_nil_of_mem (a:=y) ?_;unfold vt;simp only[ay8,ayd];exact⟨f,bv⟩
def ab5{n:Nat}:∀{a:bO} {b:Int},Dj n b a->a.length<=(tF n a).length
 |[],_,_=>by simp
 |r::a,b,h=>by
  have:=ab5 h.2;have c:=aza.2 (E7 h.1.2.2.2.2);unfold tF at this⊢;rw[axZ,axG,axN];omega
def ajJ(h:Dj n d g)(a:(tF n g).Nodup):(tF n g).length<=n:=by
 have:=P2 (B:=(List.range n).map λv:Nat=>(v:Int)) a λx b=>by
  obtain⟨r,_,_,c,e⟩:=ajI h b;exact axC.2 ⟨x.toNat,ayi.2 bv,bv⟩
 simpa using this
def Gy(n:Nat):((List.range n).map λv:Nat=>(v:Int)).Nodup:=by
 refine List.Pairwise.map _ ?_ aBJ;intro a b h e;exact h bv
def ab6(h:Dj n d g)(c:(tF n g).Nodup):(∀v:Nat,v<n->(v:Int)∈tF n g)↔(tF n g).length=n:=by
 have l:=ajJ h c;constructor
 .intro e
  have:=P2 (A:=(List.range n).map λv:Nat=>(v:Int)) (B:=tF n g) (Gy n) λx b=>by
   obtain⟨v,a,rfl⟩:=axC.1 b;exact e v (ayi.1 a)
  simp at this;omega
 .intro f v a
  have i:=o2 (B:=(List.range n).map λv:Nat=>(v:Int)) c (λx b=>by
   obtain⟨r,_,_,j,k⟩:=ajI h b;exact axC.2 ⟨x.toNat,ayi.2 bv,bv⟩) (by simp[f])
  exact i.mem_iff.1 (axC.2 ⟨v,ayi.2 a,rfl⟩)
def Mv(n:Nat)(seen:aX)(a:bj):Prop:=∀v:Int,v<n->(bL (.i .i64) a v).getD 0=if v∈seen then 1 else 0
def Mv.avY{seen:aX}(h:Mv n seen m)(f:d<n)(c:d∉seen):Mv n (seen++[d]) (dO (.i .i64) m d (wZ ((bL (.i .i64) m d).getD 0+1))):=λv g=>by
 have a:=h d f;rw[axm c]at a;rw[oZ,a];by_cases e:d=v
 .subst e
  rw[axn rfl,axn d5];rfl
 .rw[axm e,h v g]
  have:v∈seen++[d]↔v∈seen:=by simp only[axy,axK];exact⟨λh=>h.resolve_right λb=>e b.symm,.inl⟩
  simp only[this]
def Mv.arc{seen:aX}(h:Mv n seen m)(b:¬d<n)(x:Int):Mv n seen (dO (.i .i64) m d x):=λv a=>by
 rw[oZ,axm bv];exact h v a
def Dm(n:Nat)(t:Int)(r:aX):vt n (t::r)=if t<(n:Int)then t::vt n r else vt n r:=by
 unfold vt;by_cases c:t<(n:Int)<;>simp[ayF,c]
def wK(N:Nat){n:Nat}{r:aX}(u:r.length<=1000)(g a b:Int)(j l:bO):∀(m k:Nat) (seen:aX) (f:bj),r.length - k<m->k<=r.length->seen.Nodup->Mv n seen f->
 ∃o,vN N m (g,j,a,b,r,(r.length:Int),(k:Int),(n:Int),l,f)=some o/\((o=.inr false/\¬(seen++vt n (r.drop k)).Nodup)\/
  ∃z,o=.inl (g,j,a,b,(n:Int),l,z)/\(seen++vt n (r.drop k)).Nodup/\Mv n (seen++vt n (r.drop k)) z)
 |0,k,seen,f,h,_,_,_=>absurd h bv
 |m+1,k,seen,f,D,C,p,d=>by
  rw[Xb,cd];by_cases q:k<r.length
  rotate_left
  .rw[axm bv,aym bv]
   exact⟨_,rfl,.inr ⟨f,rfl,by simpa[vt]using p,by simpa[vt]using d⟩⟩
  rw[axn bv];obtain⟨t,v⟩:=get_at (xs:=r) (i:=k) q;rw[ba v,ob,b9 bv,cd,cQ v,Dm];by_cases c:t<(n:Int)
  .rw[axn c,axn c,d t c,cd]
   by_cases eX:t∈seen
   .simp only[axn eX,axn (show(0:Int)<1 by decide)]
    exact⟨_,rfl,.inl ⟨rfl,λh=>(ayc.1 h).2.2 t eX t d5 rfl⟩⟩
   .simp only[axm eX,axm (show¬(0:Int)<0 by decide)]
    have s:=d.avY c eX;rw[d t c,axm eX]at s;obtain⟨o,A,h⟩:=wK N u g a b j l m (k+1) (seen++[t]) _ bv bv (ayc.2 ⟨p,d5,λx B y w e=>eX (by simp at w;rw[<-w,<-e];exact B)⟩) s;refine⟨o,A,?_⟩;rw[axS]at h;exact h
  .rw[axm c,axm c]
   exact wK N u g a b j l m (k+1) seen _ bv bv p (d.arc c _)
def P3(h:b≠[])(a:oH b=kV b):∀x∈b,kV b<=x:=λx c=>by
 rw[<-a];exact(o0 h).2 x c
def Gz(N:Nat)(C:Fu+6<=N){n:Nat}(z:1<=n)(A:n<=64){a:bO}(M:a.length<=9223372036854775807)(E:∀r∈a,r.length<=9223372036854775807):∀(m i:Nat) (c:Int) (seen:aX) (k:bj),a.length - i<m->i<=a.length->seen.Nodup->Mv n seen k->
 ∃o,BC N m (c,a,(a.length:Int),(i:Int),(n:Int),a,k)=some o/\((o=.inr false/\¬(Dj n c (a.drop i)/\(seen++tF n (a.drop i)).Nodup))\/
  ∃f,o=.inl ((n:Int),a,f)/\Dj n c (a.drop i)/\(seen++tF n (a.drop i)).Nodup/\Mv n (seen++tF n (a.drop i)) f)
 |0,i,c,seen,k,h,_,_,_=>absurd h bv
 |m+1,i,c,seen,k,V,S,G,F=>by
  rw[Xc,cd];by_cases q:i<a.length
  rotate_left
  .rw[axm bv,aym bv]
   exact⟨_,rfl,.inr ⟨k,rfl,trivial,by simpa[tF]using G,by simpa[tF]using F⟩⟩
  rw[axn bv];obtain⟨r,v⟩:=get_at (xs:=a) (i:=i) q;have W:=E r (axB v);rw[ba v,ob,cQ v,cd];have l:¬amW n c r->∃o,(some (.inr false):At ((Int×bO×bj)⊕In))=some o/\((o=.inr false/\¬(Dj n c (r::a.drop (i+1))/\(seen++tF n (r::a.drop (i+1))).Nodup))\/
   ∃f,o=.inl ((n:Int),a,f)/\Dj n c (r::a.drop (i+1))/\(seen++tF n (r::a.drop (i+1))).Nodup/\Mv n (seen++tF n (r::a.drop (i+1))) f):=λh=>⟨_,rfl,.inl ⟨rfl,λd=>h d.1.1⟩⟩
  by_cases e:r=[]
  .subst e
   rw[axn (show(((([]:aX).length):Nat):Int)=0 from rfl)];exact l λh=>h.1 rfl
  have U:=aza.2 e;rw[axm bv];have P:aZ r (0:Int)=some (kV r):=ba (i:=0) (Dl e);simp only[P,ob,cd,Eb];by_cases u:kV r<=c
  .rw[axn u]
   exact l λh=>by have:=h.2.1;omega
  rw[axm u,PQ N bv r bv,ob];by_cases b:fe r
  rotate_left
  .rw[axU b]
   exact l λh=>b h.2.2.1
  rw[axQ b];simp only[axA,axr];rw[min_eq N bv r b.1 e,ob];by_cases p:oH r=kV r
  rotate_left
  .rw[axm p]
   exact l λh=>p h.2.2.2.1
  rw[axn p];obtain⟨x,t,w⟩:∃x t,r=x::t:=by
   cases r with
   |nil=>exact absurd rfl e
   |cons x t=>exact⟨x,t,rfl⟩
  have X:kV r=x:=by rw[w];rfl
  obtain⟨g,K,L⟩:=amV (N:=N) bv z A b.1 b.2.2 w;rw[K,ob];have D:g=true↔nY n r:=by
   rw[L];constructor
   .exactλh=>h.2
   .intro h
    refine⟨?_,h⟩;obtain⟨y,Q⟩:=aAm _ (E7 h);have d:=ajH b Q;have B:=P3 e p y d.1;have j:=(b.2.1 x (by rw[w];simp)).1;omega
  cases g with
  |false=>
   exact l λh=>by
    have:=D.2 h.2.2.2.2;cases this
  |true=>
   have O:¬(kV r<=c)->amW n c r:=λh=>⟨e,bv,b,p,D.1 rfl⟩;simp only[axA,axr];obtain⟨o,s,d⟩:=wK N (n:=n) b.1 (kV r) ((a.length:Nat):Int) (i:Int) a a N 0 seen k (by rw[bP]at C;have:=b.1;omega) bv G F;rw[zQ]at s;rw[s,ob];rw[ayg]at d;rcases d with⟨rfl,d⟩|⟨f,rfl,d,B⟩
   .refine⟨_,rfl,.inl ⟨rfl,λh=>d ?_⟩⟩
    have:=h.2;unfold tF at this;rw[axZ,<-axS]at this;exact(ayc.1 this).1
   .simp only
    rw[b9 bv];obtain⟨o,s,j⟩:=Gz N C z A M E m (i+1) (kV r) (seen++vt n r) f bv bv d B;refine⟨o,s,?_⟩;have H:seen++tF n (r::a.drop (i+1))=seen++vt n r++tF n (a.drop (i+1)):=by
     unfold tF;rw[axZ,axS]
    rw[H];rcases j with⟨rfl,j⟩|⟨R,rfl,j,I,J⟩
    .exact .inl ⟨rfl,λh=>j ⟨h.1.2,h.2⟩⟩
    .exact .inr ⟨R,rfl,⟨O u,j⟩,I,J⟩
def GA(N:Nat){n:Nat}(f:n<=64){seen:aX}{d:bj}(c:Mv n seen d):∀(m v:Nat),n - v<m->v<=n->
 ∃o,BB N m ((n:Int),(v:Int),d)=some o/\((o=.inr false/\¬∀w:Nat,v<=w->w<n->(w:Int)∈seen)\/(o=.inl ()/\∀w:Nat,v<=w->w<n->(w:Int)∈seen))
 |0,v,h,_=>absurd h bv
 |m+1,v,i,j=>by
  rw[Xa,cd];by_cases q:v<n
  rotate_left
  .rw[axm bv]
   exact⟨_,rfl,.inr ⟨rfl,λw a b=>by omega⟩⟩
  rw[axn bv,c v bv,cd,b9 bv];by_cases eX:(v:Int)∈seen
  .simp only[axn eX,axm (show¬(1:Int)=0 by decide)]
   obtain⟨o,g,a⟩:=GA N f c m (v+1) bv bv;refine⟨o,g,?_⟩;have e:(∀w:Nat,v<=w->w<n->(w:Int)∈seen)↔∀w:Nat,v+1<=w->w<n->(w:Int)∈seen:=by
    constructor
    .exactλh w a b=>h w bv b
    .intro h w a b
     by_cases e:w=v
     .subst e;exact eX
     .exact h w bv b
   rw[e];exact a
  .simp only[axm eX,axn (show(0:Int)=0 from rfl)]
   exact⟨_,rfl,.inl ⟨rfl,λh=>eX (h v bv q)⟩⟩
def x8(i:Fu+7<=a)(f:Int){rs:bO}(l:rs.length<=9223372036854775807)(m:∀r∈rs,r.length<=9223372036854775807):∃b,vO a (f,rs)=some b/\(b=true↔0<=f/\cq f.toNat rs):=by
 obtain⟨a,rfl⟩:=sC a 1;rw[adK,Dg bv,ob];by_cases c:1<=f/\f<=64
 rotate_left
 .rw[axU c]
  exact⟨false,rfl,by simp only[ayW,az2];rintro⟨s,h⟩;exact c ⟨by have:=h.lo;omega,by have:=h.hi;omega⟩⟩
 rw[axQ c];obtain⟨n,rfl⟩:=nN f;simp only[axA,axr,axw];obtain⟨o,g,d⟩:=Gz a bv (n:=n) bv bv l m a 0 (-1) [] [] (by rw[bP]at i;omega) bv d5 (λv _=>by simp[bL]);rw[zQ]at g;rw[g,ob];rw[ayg,ax3]at d;rcases d with⟨rfl,d⟩|⟨t,rfl,d,j,k⟩
 .exact⟨false,rfl,by simp only[ayW,az2];rintro⟨_,h⟩;exact d ⟨h.rg,h.nd⟩⟩
 .simp only
  obtain⟨o,g,e⟩:=GA a (n:=n) bv k a 0 (by rw[bP]at i;omega) bv;rw[zQ]at g;rw[g,ob];rcases e with⟨rfl,e⟩|⟨rfl,e⟩
  .exact⟨false,rfl,by simp only[ayW,az2];rintro⟨_,h⟩;exact e λw _ q=>h.all w q⟩
  .exact⟨true,rfl,by simp only[true_iff];exact⟨bv,bv,bv,d,j,λv p=>e v bv p⟩⟩
def Xx(h:fe b)(a:b≠[]):dh b=b↔oH b=kV b:=by
 rw[fT h a];have d:=(o0 a).1;constructor
 .intro e
  have:=wF d;rw[e,Dl a]at this;exact(axt this).symm
 .intro e
  have c:ix b (oH b)=0:=aov h.2.2 (by rw[e];exact Dl a);unfold ep;rw[c];simp[Hc]
def Body(n:Nat)(r:aX):Prop:=r≠[]/\fe r/\oH r=kV r/\nY n r
def Dn(h:b≠[]):kV b∈b:=axB (Dl h)
def Dp{n:Nat}:∀{c:bO} {e:Int},Dj n e c↔(∀r∈c,Body n r)/\c.Pairwise (λa b=>kV a<kV b)/\∀r∈c,e<kV r
 |[],e=>by simp[Dj]
 |r::c,e=>by
  rw[Dj,Dp];simp only[az7,azb];constructor
  .rintro⟨⟨f,g,h,i,j⟩,k,l,d⟩
   exact⟨⟨⟨f,h,i,j⟩,k⟩,⟨d,l⟩,g,λx m=>by have:=d x m;omega⟩
  .rintro⟨⟨⟨f,h,i,j⟩,k⟩,⟨d,l⟩,g,o⟩
   exact⟨⟨f,g,h,i,j⟩,k,l,d⟩
def cq.body(h:cq n g):∀r∈g,Body n r:=(Dp.1 h.rg).1
def cq.srt(h:cq n g):g.Pairwise λa b=>kV a<kV b:=(Dp.1 h.rg).2.1
def cq.of(d:1<=n)(e:n<=64)(c:∀r∈g,Body n r)(i:g.Pairwise λa b=>kV a<kV b)(h:(tF n g).Nodup)(f:∀v:Nat,v<n->(v:Int)∈tF n g):cq n g:=
 ⟨d,e,Dp.2 ⟨c,i,λr j=>by
  have:=c r j;have:=(this.2.1.2.1 _ (Dn this.1)).1;omega⟩,h,f⟩
def Body.head(h:Body n b):0<=kV b/\kV b<n:=by
 have d:=(h.2.1.2.1 _ (Dn h.1)).1;obtain⟨y,c⟩:=aAm _ (E7 h.2.2.2);have a:=ajH h.2.1 c;have e:=P3 h.1 h.2.2.1 y a.1;omega
def Body.sE(h:Body n b):kV b∈vt n b:=by
 unfold vt;simp only[ay8,ayd];exact⟨Dn h.1,h.head.2⟩
def jf(c:a<n):(a:Int)∈vt n b↔(a:Int)∈b:=by
 unfold vt;simp only[ay8,ayd];exact⟨λh=>h.1,λh=>⟨h,bv⟩⟩
def E8{α β:Type}{f:α->Do β}:∀{g:Do α},(g.flatMap f).Nodup->∀{i j:Nat} {a b:α} {x:β},g[i]? =some a->g[j]? =some b->x∈f a->x∈f b->i=j
 |[],_,i,j,a,b,x,c,_,_,_=>by simp at c
 |r::g,e,i,j,a,b,x,c,d,h,k=>by
  rw[axZ,ayc]at e;cases i with
  |zero=>
   cases j with
   |zero=>rfl
   |succ j=>
    simp only[aAU,axq,ayT]at c d;subst c;exact absurd rfl (e.2.2 x h x (ayJ.2 ⟨b,axB d,k⟩))
  |succ i=>
   cases j with
   |zero=>
    simp only[aAU,axq,ayT]at c d;subst d;exact absurd rfl (e.2.2 x k x (ayJ.2 ⟨a,axB c,h⟩))
   |succ j=>
    simp only[ayT]at c d;rw[E8 e.2.1 c d h k]
def mg:bO->Int->Nat
 |[],_=>0
 |r::a,v=>if v∈r then 0 else mg a v+1
def ab8:∀{rs:bO} {v:Int},mg rs v<rs.length->∃r,rs[mg rs v]? =some r/\v∈r
 |[],v,h=>by simp at h
 |r::rs,v,h=>by
  rw[mg];split
  next c=>exact⟨r,rfl,c⟩
  next c=>rw[mg,axm c]at h;simp only[axN]at h;obtain⟨d,a,b⟩:=ab8 (rs:=rs) (v:=v) bv;exact⟨d,by rw[ayT];exact a,b⟩
def ajK:∀{a:bO} {v:Int} {r:aX},r∈a->v∈r->mg a v<a.length
 |x::a,v,r,h,b=>by
  rw[mg,axN];split
  .omega
  next c=>
   rcases axP.1 h with rfl|h
   .exact absurd b c
   .have:=ajK h b
    omega
def dB(a:bO)(v:Nat):aX:=a.getD (mg a (v:Int)) []
def wL(a:bO)(v:Nat):Nat:=(kV (dB a v)).toNat
def cq.ring(h:cq n g)(d:a<n):g[mg g (a:Int)]? =some (dB g a)/\(a:Int)∈dB g a/\dB g a∈g/\mg g (a:Int)<g.length:=by
 obtain⟨r,i,j⟩:=ayJ.1 (h.all a d);have c:=ajK i ((jf d).1 j);obtain⟨k,b,f⟩:=ab8 c;have e:dB g a=k:=by unfold dB;rw[ayL,b];rfl
 rw[e];exact⟨b,f,axB b,c⟩
def cq.uniq(h:cq n g)(i:a<n)(e:g[c]? =some b)(j:(a:Int)∈b):c=mg g (a:Int)/\b=dB g a:=by
 have d:=h.ring i;have:=E8 (f:=vt n) h.nd e d.1 ((jf i).2 j) ((jf i).2 d.2.1);refine⟨this,?_⟩;rw[this,d.1]at e;exact(axt e).symm
def cq.lv(h:cq n g)(e:a<n){r:aX}(b:r∈g)(d:(a:Int)∈r):kV r=(wL g a:Int)/\wL g a<n:=by
 obtain⟨i,c⟩:=az6 b;have:=(h.uniq e c d).2;have f:=(h.body r b).head;unfold wL;rw[<-this];omega
def cq.aox(h:cq n g)(b:a<n):wL g a<n:=(h.lv b (h.ring b).2.2.1 (h.ring b).2.1).2
def cq.same{n:Nat}(h:cq n g)(j:a<n)(k:c<n):mg g (a:Int)=mg g (c:Int)↔wL g a=wL g c:=by
 have b:=h.ring j;have d:=h.ring k;have l:=(h.lv j b.2.2.1 b.2.1).1;have i:=(h.lv k d.2.2.1 d.2.1).1;constructor
 .intro e
  rw[e,d.1]at b;have:=axt b.1;rw[this]at i;omega
 .intro e
  have m:=h.body _ b.2.2.1;have o:=h.body _ d.2.2.1;refine E8 (f:=vt n) h.nd b.1 d.1 m.sE ?_;rw[l,e,<-i];exact o.sE
def ajL(h:nY n b):b.length+2=3*(vt n b).length:=by
 obtain⟨T,e,k⟩:=h;have g:=k.len;have i:b.length=T.length:=by simpa using axD List.length e
 have j:∀(b:aX) (T:Do Tk),b.map (dk n)=T.map some->(vt n b).length=(e8 T).length:=λb=>by
  induction b with
  |nil=>intro T e;cases T<;>simp[vt,e8]at e⊢
  |cons x b l=>
   intro T e;cases T with
   |nil=>simp at e
   |cons t T=>
    simp only[axJ,ayv]at e;have:=l T e.2;rw[Dm,jI];obtain⟨a,d⟩:=t;have f:=De e.1;unfold ek at f;by_cases c:a=d
    .subst c
     simp only[ax0]at f;rw[axn bv,axn rfl];simp[this]
    .simp only[c,ayl]at f
     have:n*1<=n*(a+1):=azf n bv;rw[axm bv,axm c];assumption
 rw[i,j b T e];exact g
def ab9(h:b.Perm o):(vt n b).Perm (vt n o):=h.filter _
def Dq{n:Nat}{a b:bO}(h:a.Perm b):(tF n a).Perm (tF n b):=h.flatMap_right _
def q9(n:Nat)(u v:Nat)(a b:aX):aX:=[(u:Int),ek n (u,v)]++ep b (v:Int)++[ek n (v,u)]++(ep a (u:Int)).drop 1
def P4(h:a≠c)(f:a<n)(g:c<n):(n:Int)<=ek n (a,c)/\ek n (a,c)<=10000\/64<n:=by
 by_cases b:64<n
 .exact .inr b
 .refine .inl ?_
  unfold ek;simp only[h,ayl];have d:n*1<=n*(a+1):=azf n bv;have e:n*(a+1)<=64*64:=ay1 bv bv;omega
def nZ(h:d∈b):ep b d=d::(ep b d).drop 1:=by
 have:=wF h;cases a:ep b d with
 |nil=>rw[a]at this;simp at this
 |cons x l=>rw[a]at this;simp at this;rw[this];rfl
def As(a:aX)(u:Int):(ep a u).Perm a:=C8 _ _
def Kz{n u v:Nat}{a b:aX}(f:(u:Int)∈a):(q9 n u v a b).Perm (ek n (u,v)::ek n (v,u)::(a++b)):=by
 unfold q9;have c:([(u:Int),ek n (u,v)]++ep b (v:Int)++[ek n (v,u)]++(ep a (u:Int)).drop 1).Perm (ek n (u,v)::ek n (v,u)::((u:Int)::(ep a (u:Int)).drop 1++ep b (v:Int))):=by
  have d:[(u:Int),ek n (u,v)]++ep b (v:Int)++[ek n (v,u)]++(ep a (u:Int)).drop 1=(u:Int)::ek n (u,v)::(ep b (v:Int)++ek n (v,u)::(ep a (u:Int)).drop 1):=d5
  rw[d];refine(List.Perm.swap _ _ _).trans (List.Perm.cons _ ?_);have e:(ep b (v:Int)++ek n (v,u)::(ep a (u:Int)).drop 1).Perm (ek n (v,u)::((ep a (u:Int)).drop 1++ep b (v:Int))):=by
   have:= @aAu _ (ep b (v:Int)) (ek n (v,u)::(ep a (u:Int)).drop 1);simpa using this
  exact(e.cons (u:Int)).trans (List.Perm.swap _ _ _)
 rw[<-nZ f]at c;exact c.trans (((((As a u).append (As b v))).cons _).cons _)
def U4{T:Do Tk}(c:b.map (dk n)=T.map some)(d:a<n):(a:Int)∈b↔(a,a)∈T:=by
 constructor
 .intro h
  have:dk n (a:Int)∈T.map some:=by rw[<-c];exact axC.2 ⟨_,h,rfl⟩
  rw[iI d]at this;simpa using this
 .intro h
  have:some (a,a)∈b.map (dk n):=by rw[c];exact axC.2 ⟨_,h,rfl⟩
  obtain⟨y,e,f⟩:=axC.1 this;rw[<-(Il f).1];exact e
def KA(f:a<n)(l:c<n)(A:Body n b)(B:Body n o)(k:(a:Int)∈b)(q:(c:Int)∈o)(p:∀x∈vt n b,x∉vt n o):nY n (q9 n a c b o):=by
 have H:a≠c:=λe=>by subst e;exact p _ ((jf f).2 k) ((jf f).2 q)
 have s:nY n (ep b (a:Int)):=E4.2 A.2.2.2;have u:nY n (ep o (c:Int)):=E4.2 B.2.2.2;obtain⟨TA,d,v⟩:=s;obtain⟨j,g,w⟩:=u;rw[nZ k]at d;have m:=g;rw[nZ q]at g;obtain⟨TA,rfl⟩:∃T,TA=(a,a)::T:=by
  cases TA with
  |nil=>simp at d
  |cons t T=>
   simp only[axJ,ayv,iI f,axq]at d;exact⟨T,by rw[d.1]⟩
 obtain⟨j,rfl⟩:∃T,j=(c,c)::T:=by
  cases j with
  |nil=>simp at g
  |cons t T=>
   simp only[axJ,ayv,iI l,axq]at g;exact⟨T,by rw[g.1]⟩
 have C:∀{r:aX} {T:Do Tk},r.map (dk n)=T.map some->∀x,(x,x)∈T->x<n:=λ{r T} z x h=>by
  have:some (x,x)∈r.map (dk n):=by rw[z];exact axC.2 ⟨_,h,rfl⟩
  obtain⟨y,_,E⟩:=axC.1 this;exact(Il E).2
 refine⟨_,?_,v.link w λx h D=>?_⟩
 .unfold q9
  simp only[axJ,ayv]at d;simp only[aya,axJ,ayy,iI f,ajD (e:=(a,c)) f l,ajD (e:=(c,a)) l f,m,d.2,ayB,ax3,axS]
 .have i:=C d x h
  rw[<-nZ k]at d;have F:=NK.1 ((U4 d i).2 h);have G:=NK.1 ((U4 m i).2 D);exact p _ ((jf i).2 F) ((jf i).2 G)
def U5{d b:aX}(l:n<=64)(f:a<n)(h:c<n)(g:a≠c)(i:(a:Int)∈d):(vt n (q9 n a c d b)).Perm (vt n d++vt n b):=by
 refine(ab9 (Kz i)).trans ?_;have j:=P4 g f h;have k:=P4 (λe=>g e.symm) h f;rw[Dm,Dm,axm bv,axm bv];unfold vt;rw[ayU]
def atV{e:Tk}(h:dk n d=some e)(g:n<=64):0<=d/\d<=10000:=by
 have f:=De h;obtain⟨a,b⟩:=e;unfold ek at f;by_cases c:a=b
 .subst c
  simp only[ax0]at f;omega
 .simp only[c,ayl]at f
  have i:n*(a+1)<=64*64:=ay1 g bv;omega
def KB(j:n<=64)(d:a<n)(k:c<n)(m:Body n b)(p:Body n o)(g:(a:Int)∈b)(l:(c:Int)∈o)(i:∀x∈vt n b,x∉vt n o)(w:(vt n b).length+(vt n o).length<=n):fe (q9 n a c b o):=by
 obtain⟨T,f,h⟩:=KA d k m p g l i;have u:a≠c:=λe=>by subst e;exact i _ ((jf d).2 g) ((jf d).2 l)
 have v:=ajL ⟨T,f,h⟩;have r:=(U5 j d k u g (b:=o)).length_eq;rw[axG]at r;refine⟨bv,λt s=>?_,(Kx f).2 h.nod⟩;have:dk n t∈T.map some:=by rw[<-f];exact axC.2 ⟨t,s,rfl⟩
 obtain⟨e,_,q⟩:=axC.1 this;exact atV q.symm j
def KD:bO->aX->bO
 |[],r=>[r]
 |x::l,r=>if kV x<kV r then x::KD l r else r::x::l
def x9:∀(l:bO) (r:aX),(KD l r).Perm (r::l)
 |[],r=>aAZ _
 |x::l,r=>by
  rw[KD];split
  .exact((x9 l r).cons x).trans (List.Perm.swap _ _ _)
  .exact aAZ _
def U6:∀{l:bO} {r:aX},l.Pairwise (λa b=>kV a<kV b)->(∀x∈l,kV x≠kV r)->(KD l r).Pairwise λa b=>kV a<kV b
 |[],r,_,_=>by simp[KD]
 |x::l,r,g,f=>by
  rw[KD];have e:=azb.1 g;split
  next c=>
   refine azb.2 ⟨λy d=>?_,U6 e.2 λy d=>f y (by simp[d])⟩;have:=(x9 l r).mem_iff.1 d;rcases axP.1 this with rfl|h
   .exact c
   .exact e.1 y h
  next c=>
   have i:=f x d5;refine azb.2 ⟨λy d=>?_,g⟩;rcases axP.1 d with rfl|h
   .omega
   .have:=e.1 y h
    omega
def lu{α:Type}:∀{l:Do α} {i:Nat} {x:α},l[i]? =some x->l.Perm (x::l.eraseIdx i)
 |[],i,x,h=>by simp at h
 |y::l,0,x,h=>by
  simp at h;subst h;exact aAZ _
 |y::l,i+1,x,h=>by
  rw[ayT]at h;rw[List.eraseIdx_cons_succ];exact((lu h).cons y).trans (List.Perm.swap _ _ _)
def U7{l:Do i}(h:c<a):(l.eraseIdx a)[c]? =l[c]? :=by
 rw[List.getElem?_eraseIdx,axn h]
def NP(a:bO)(i j:Nat):bO:=(a.eraseIdx (max i j)).eraseIdx (min i j)
def Au(f:g[a]? =some b)(i:g[c]? =some o)(j:a≠c):g.Perm (b::o::NP g a c):=by
 unfold NP;rcases ayX a c with h|h
 .rw[aAV bv,ayE bv]
  have d:=lu i;have e:=lu (l:=g.eraseIdx c) (i:=a) (x:=b) (by rw[U7 h];exact f);exact(d.trans (e.cons o)).trans (List.Perm.swap _ _ _)
 .rw[aAW bv,azP bv]
  have d:=lu f;have e:=lu (l:=g.eraseIdx a) (i:=c) (x:=o) (by rw[U7 bv];exact i);exact d.trans (e.cons b)
def aeO(a:bO)(i j:Nat):(NP a i j).Sublist a:=(aA0 _ _).trans (aA0 _ _)
def q_(n:Nat)(a:bO)(u v:Nat):bO:=KD (NP a (mg a (u:Int)) (mg a (v:Int))) (dh (q9 n u v (dB a u) (dB a v)))
def ajM(h:fe b)(a:b≠[]):kV (dh b)=oH b:=by
 rw[fT h a];have:=wF (o0 a).1;cases c:ep b (oH b)with
 |nil=>rw[c]at this;simp at this
 |cons x r=>rw[c]at this;simp at this;rw[<-this];rfl
def Xy(h:fe b)(a:b≠[]):(dh b).Perm b:=by
 rw[fT h a];exact As _ _
def ab_(h:cq n g)(s:a<n)(t:C<n)(O:mg g (a:Int)≠mg g (C:Int)):
 cq n (q_ n g a C)/\(∀x,x<n->wL (q_ n g a C) x=jn (wL g) a C x)/\(q_ n g a C).length+1=g.length:=by
 have u:=h.ring s;have z:=h.ring t;have Z:=h.hi;have o:=h.body _ u.2.2.1;have p:=h.body _ z.2.2.1;have l:=Au u.1 z.1 O;generalize a0:NP g (mg g (a:Int)) (mg g (C:Int))=i at l;have P:i.Sublist g:=a0▸aeO _ _ _;generalize ha:dB g a=d at u o l;generalize hb:dB g C=b at z p l;have G:=Dq (n:=n) l;have a8:(tF n (d::b::i)).Nodup:=G.nodup_iff.1 h.nd;have N:=a8;unfold tF at N;rw[axZ,axZ]at N;have F:=ayc.1 N;have S:=ayc.1 F.2.1;have Y:∀x∈vt n d,x∉vt n b:=λx f E=>F.2.2 x f x (by simp[E]) rfl;have Q:a≠C:=λe=>O (by rw[e]);have a4:=(ab6 h.rg h.nd).1 h.all;have a6:(vt n d).length+(vt n b).length<=n:=by
  have:=G.length_eq;unfold tF at this a4;rw[axZ,axZ,axG,axG]at this;omega
 have U:=KA s t o p u.2.1 z.2.1 Y;have v:=KB Z s t o p u.2.1 z.2.1 Y a6;have V:=U5 (b:=b) Z s t Q u.2.1;have H:=Kz (n:=n) (v:=C) (b:=b) u.2.1;have B:q9 n a C d b≠[]:=by unfold q9;simp
 have a5:q_ n g a C=KD i (dh (q9 n a C d b)):=by
  unfold q_;rw[a0,ha,hb]
 rw[a5];generalize q9 n a C d b=J at U v V H B;have I:=Xy v B;have W:dh J≠[]:=λe=>B (by rw[e]at I;exact I.symm.eq_nil);have X:Body n (dh J):=by
  have j:=Xs v;refine⟨W,j,(Xx j W).1 (UO v),?_⟩;rw[fT v B];exact E4.2 U
 have K:(vt n (dh J)).Perm (vt n d++vt n b):=(ab9 I).trans V;have D:=x9 i (dh J);have a1:(tF n (KD i (dh J))).Perm (tF n g):=by
  refine(Dq D).trans (List.Perm.trans ?_ G.symm);unfold tF;rw[axZ,axZ,axZ,<-axS];exact K.append_right _
 have M:∀r∈i,Body n r:=λr j=>h.body r (P.subset j);have ac:kV (dh J)=min (kV d) (kV b):=by
  rw[ajM v B];refine E3 ?_ λy m=>?_
  .refine H.mem_iff.2 (ayr _ (ayr _ (axy.2 ?_)))
   rcases Int.le_total (kV d) (kV b)with c|c
   .rw[Int.min_eq_left c];exact .inl (Dn o.1)
   .rw[Int.min_eq_right c];exact .inr (Dn p.1)
  .have e1:=P4 Q s t
   have e2:=P4 (λe=>Q e.symm) t s;have ka:=o.head;have kb:=p.head;rcases axP.1 (H.mem_iff.1 m)with rfl|m
   .omega
   rcases axP.1 m with rfl|m
   .omega
   rcases axy.1 m with m|m
   .have:=P3 o.1 o.2.2.1 y m;omega
   .have:=P3 p.1 p.2.2.1 y m;omega
 have a9:∀x∈i,kV x≠kV (dh J):=λx f e=>by
  have A:=(M x f).sE;rw[e]at A;have q:=K.mem_iff.1 X.sE;have R:kV (dh J)∈i.flatMap (vt n):=ayJ.2 ⟨x,f,A⟩;rcases axy.1 q with q|q
  .exact F.2.2 _ q _ (by simp only[axy];exact .inr R) rfl
  .exact S.2.2 _ q _ R rfl
 have L:cq n (KD i (dh J)):=cq.of h.lo h.hi (λr j=>by
  rcases axP.1 (D.mem_iff.1 j)with rfl|j
  .exact X
  .exact M r j) (U6 (h.srt.sublist P) a9) (a1.nodup_iff.2 h.nd) λw hw=>a1.mem_iff.2 (h.all w hw)
 refine⟨L,λx f=>?_,?_⟩
 .have cu:=h.lv s (l.mem_iff.2 (by simp:d∈d::b::i)) u.2.1
  have cv:=h.lv t (l.mem_iff.2 (by simp:b∈d::b::i)) z.2.1;have ab:wL g a≠wL g C:=λe=>O ((h.same s t).2 e);have E:=G.mem_iff.1 (h.all x f);unfold tF at E;rw[axZ,axZ]at E;have a3:(x:Int)∈vt n d\/(x:Int)∈vt n b->wL (KD i (dh J)) x=min (wL g a) (wL g C):=λk=>by
   have a7:(x:Int)∈dh J:=(jf f).1 (K.mem_iff.2 (axy.2 k));have:=(L.lv f (D.mem_iff.2 d5) a7).1;omega
  rcases axy.1 E with k|k
  .have:=(h.lv f (l.mem_iff.2 (by simp:d∈d::b::i)) ((jf f).1 k)).1
   rw[a3 (.inl k)];unfold jn;split<;>omega
  rcases axy.1 k with k|k
  .have:=(h.lv f (l.mem_iff.2 (by simp:b∈d::b::i)) ((jf f).1 k)).1
   rw[a3 (.inr k)];unfold jn;split<;>omega
  .obtain⟨r,j,a2⟩:=ayJ.1 k
   have A:=(h.lv f (P.subset j) ((jf f).1 a2)).1;have q:=(L.lv f (D.mem_iff.2 (ayr _ j)) ((jf f).1 a2)).1;have aa:=(M r j).sE;have eX:kV r∈i.flatMap (vt n):=ayJ.2 ⟨r,j,aa⟩;have n1:kV r≠kV d:=λe=>F.2.2 _ o.sE _ (by simp only[axy];exact .inr eX) e.symm;have n2:kV r≠kV b:=λe=>S.2.2 _ p.sE _ eX e.symm;unfold jn;split
   .omega
   .omega
 .have A:=D.length_eq
  have q:=l.length_eq;simp at A q;omega
def Xz(a:bO)(v:Int):Int:=if mg a v<a.length then(mg a v:Int)else -1
def cq.small(h:cq n g):g.length<=n/\∀r∈g,r.length<=1000:=by
 have b:=ab5 h.rg;have c:=ajJ h.rg h.nd;exact⟨bv,λr a=>(h.body r a).2.1.1⟩
def cq.Xz(h:cq n g)(b:a<n):Proofs.YtpndmjnaljjbaaaGreatDoor.Xz g (a:Int)=(mg g (a:Int):Int):=axn (h.ring b).2.2.2
def kK(n:Nat):bO->bw->bO
 |a,[]=>a
 |a,e::l=>kK n (if mg a (e.1:Int)=mg a (e.2:Int)then a else q_ n a e.1 e.2) l
def lx(n:Nat):bO->bw->bh
 |_,[]=>[]
 |a,e::l=>(wL a e.1 !=wL a e.2)::lx n (if mg a (e.1:Int)=mg a (e.2:Int)then a else q_ n a e.1 e.2) l
def sF:(Nat->Nat)->bw->bh
 |_,[]=>[]
 |c,e::l=>(c e.1 !=c e.2)::sF (jn c e.1 e.2) l
def U8(h:∀C,C<n->e C=B C)(b:a<n)(d:c<n)(f:C<n):jn e a c C=jn B a c C:=by
 unfold jn;rw[h a b,h c d,h C f]
def Io(h:cq n g)(d:a<n)(f:c<n):
 cq n (if mg g (a:Int)=mg g (c:Int)then g else q_ n g a c)/\(∀x,x<n->wL (if mg g (a:Int)=mg g (c:Int)then g else q_ n g a c) x=jn (wL g) a c x)/\
  (if mg g (a:Int)=mg g (c:Int)then g else q_ n g a c).length+(if wL g a !=wL g c then 1 else 0)=g.length:=by
 by_cases b:mg g (a:Int)=mg g (c:Int)
 .rw[axn b]
  have e:=(h.same d f).1 b;exact⟨h,λx i=>by rw[ab0 e],by simp[e]⟩
 .rw[axm b]
  have e:wL g a≠wL g c:=λe=>b ((h.same d f).2 e);have:=ab_ h d f b;exact⟨this.1,this.2.1,by rw[axn (by simpa using e)];exact this.2.2⟩
def KE{n:Nat}:∀{l:bw} {d:bO} {c:Nat->Nat},cq n d->h9 n l->(∀x,x<n->wL d x=c x)->lx n d l=sF c l
 |[],_,_,_,_,_=>rfl
 |e::l,d,c,h,g,f=>by
  have a:=g e d5;have i:=Io h a.1 a.2;rw[lx,sF,f _ a.1,f _ a.2];congr 1;exact KE i.1 (λx b=>g x (by simp[b])) λx b=>by rw[i.2.1 x b,U8 f a.1 a.2 b]
def KF(d a:Nat->Nat):∀l:bw,sF (λx=>d (a x)) l=sF d (l.map λe=>(a e.1,a e.2))
 |[]=>rfl
 |e::l=>by
  have:=KF (jn d (a e.1) (a e.2)) a l;rw[axJ,sF,sF,<-this];rfl
def KG:∀(l p:bw),sF (mN p) l=gy p l
 |[],p=>rfl
 |e::l,p=>by
  rw[sF,gy,<-wG,KG l (p++[e])];rfl
def E9{n:Nat}:∀{l:bw} {a:bO},cq n a->h9 n l->cq n (kK n a l)/\(kK n a l).length+((lx n a l).filter id).length=a.length
 |[],a,h,_=>⟨h,by simp[kK,lx]⟩
 |e::l,a,h,d=>by
  have f:=d e d5;have g:=Io h f.1 f.2;have i:=E9 (l:=l) g.1 λx j=>d x (by simp[j]);rw[kK,lx];refine⟨i.1,?_⟩;have k:=i.2;have b:=g.2.2;rw[ayF];simp only[id];by_cases c:(wL a e.1 !=wL a e.2)=true
  .rw[axn c]at b⊢
   simp only[axN];omega
  .rw[axm c]at b⊢
   omega
def cq.tr(c:Fu+7<=a)(h:cq n g):vO a ((n:Int),g)=some true:=by
 obtain⟨k,i⟩:=h.small;have j:=h.hi;obtain⟨b,d,e⟩:=x8 c (n:Int) (rs:=g) bv (λr f=>by have:=i r f;omega);rw[d,e.2 ⟨bv,by rw[axw];exact h⟩]
def GB(N:Nat)(g:Fu+3<=N)(v:Int){a:bO}(j:a.length<=9223372036854775807)(f:∀r∈a,r.length<=9223372036854775807):∀(m i:Nat),a.length - i<m->i<=a.length->
 HP N m (a,(a.length:Int),(i:Int),v)=some (if mg (a.drop i) v<(a.drop i).length then .inr (((i+mg (a.drop i) v:Nat):Int),v)else .inl v)
 |0,i,h,_=>absurd h bv
 |m+1,i,l,k=>by
  rw[adN,cd];by_cases q:i<a.length
  .rw[axn bv]
   obtain⟨r,b⟩:=get_at (xs:=a) (i:=i) q;obtain⟨d,rfl⟩:∃M,N=M+1:=⟨N - 1,bv⟩;rw[ba b,ob,ahv,has_eq d bv r v (f r (axB b)),ob,ob,cQ b,b9 bv,GB (d+1) g v j f m (i+1) bv bv,mg];simp only[cd];by_cases c:v∈r
   .rw[axn c,axn c,axn d5];rfl
   .rw[axm c,axm c]
    simp only[axN];by_cases e:mg (a.drop (i+1)) v<(a.drop (i+1)).length
    .rw[axn e,axn bv]
     congr 4;omega
    .rw[axm e,axm bv]
  .rw[axm bv,aym bv];rfl
def E_{N:Nat}(a:Fu+5<=N)(f v:Int){rs:bO}(b:rs.length<=9223372036854775807)(d:∀r∈rs,r.length<=9223372036854775807):EL N (f,rs,v)=some (Xz rs v):=by
 obtain⟨N,rfl⟩:=sC N 2;have:=GB N bv v b d N 0 (by rw[bP]at a;omega) bv;rw[zQ,ayg]at this;rw[adO,ahx,this,ob];unfold Xz;by_cases c:mg rs v<rs.length
 .rw[axn c,axn c,axY];rfl
 .rw[axm c,axm c];rfl
def ajN(f:Fu+8<=a)(h:cq n g)(e:c<n):J7 a ((n:Int),g,(c:Int))=some (mg g (c:Int):Int):=by
 obtain⟨a,rfl⟩:=sC a 1;obtain⟨k,d⟩:=h.small;have j:=h.lo;have i:=h.hi;rw[aeo,U0 bv,ob,h.tr bv,axQ (show((1:Int)<=(n:Int)/\(n:Int)<=64)/\0<=(c:Int)/\(c:Int)<(n:Int) by omega)];simp only[ob,axA,axr];rw[E_ bv _ _ bv (λr b=>by have:=d r b;omega),ob,h.Xz e]
def NQ(N:Nat)(g:1<=N)(n:Int)(a:bO){s:aX}(k:s.length<=9223372036854775807):∀(m i:Nat),s.length - i<m->i<=s.length->
 ∃o,HN N m (s,(s.length:Int),(i:Int),n,a)=some o/\((o=.inl (n,a)/\∀v∈s.drop i,0<=v/\v<n)\/∃j:Nat,o=.inr ((j:Int),n,a)/\¬∀v∈s.drop i,0<=v/\v<n)
 |0,i,h,_=>absurd h bv
 |m+1,i,r,p=>by
  rw[adL,cd];by_cases q:i<s.length
  .rw[axn bv]
   obtain⟨v,e⟩:=get_at (xs:=s) (i:=i) q;obtain⟨d,rfl⟩:∃M,N=M+1:=⟨N - 1,bv⟩;have f:Zu (d+1) (v,n,a)=some (decide (v<0\/n<=v),n,a):=by
    rw[ahm,cd];by_cases c:v<0
    .rw[axn c];simp[c]
    .rw[axm c];simp[c]
   rw[ba e,ob,f,ob,cQ e,b9 bv];simp only[cd];by_cases c:v<0\/n<=v
   .rw[axn c]
    exact⟨_,rfl,.inr ⟨i,rfl,λh=>by have:=h v d5;omega⟩⟩
   .rw[axm c]
    obtain⟨o,l,b⟩:=NQ (d+1) g n a k m (i+1) bv bv;refine⟨o,l,?_⟩;simp only[az7];rcases b with⟨rfl,b⟩|⟨j,rfl,b⟩
    .exact .inl ⟨rfl,bv,b⟩
    .exact .inr ⟨j,rfl,λh=>b h.2⟩
  .rw[axm bv,aym bv]
   exact⟨_,rfl,.inl ⟨rfl,d5⟩⟩
def Fa{N:Nat}(c:Fu+8<=N)(h:cq n g)(s:aX)(d:s.length<=9223372036854775807):MW N ((n:Int),g,s)=some (if∀v∈s,0<=v/\v<(n:Int)then 0 else 10):=by
 obtain⟨N,rfl⟩:=sC N 3;obtain⟨o,b,a⟩:=NQ N bv (n:Int) g d N 0 (by rw[bP]at c;omega) bv;rw[zQ]at b;rw[ayg]at a;rw[ahq,h.tr bv,ob];simp only[axA,axr];rw[amz,aho,b,ob];rcases a with⟨rfl,a⟩|⟨j,rfl,a⟩
 .rw[axn a];rfl
 .rw[axm a]
  simp[ob]
def NR(k:Fu+9<=a)(h:cq n g)(d:c<n):Uk a ((n:Int),g,(c:Int))=some ((wL g c:Int),0):=by
 obtain⟨a,rfl⟩:=sC a 1;have b:=h.ring d;have f:=h.body _ b.2.2.1;have j:aZ (dB g c) (0:Int)=some (kV (dB g c)):=ba (i:=0) (Dl f.1);rw[aiI,Fa bv h _ d5,ob,axn (by intro w e;simp only[axK]at e;subst e;omega),xx rfl,ajN bv h d,ob,ba b.1,ob,j,ob,(h.lv d b.2.2.1 b.2.1).1]
def P5(a:bO)(l:bw):bw:=l.map λe=>(wL a e.1,wL a e.2)
def aqK(h:cq n g)(a:h9 n s):h9 n (P5 g s):=λe b=>by
 obtain⟨x,c,rfl⟩:=axC.1 b;have:=a x c;exact⟨h.aox this.1,h.aox this.2⟩
def zh(N:Nat)(f:Fu+9<=N){n:Nat}{b:bO}(h:cq n b){l:bw}(d:h9 n l)(g:l.length<=100000):∀(m i:Nat) (a:bj),l.length - i<m->i<=l.length->a.length<=i->
 H_ N m (l.map NN,(l.length:Int),(i:Int),(n:Int),b,a)=some (a++(P5 b (l.drop i)).map NN)
 |0,i,a,h,_,_=>absurd h bv
 |m+1,i,a,o,k,p=>by
  rw[aep,cd];by_cases q:i<l.length
  .rw[axn bv]
   obtain⟨x,c⟩:=get_at (xs:=l) (i:=i) q;have e:=d x (axB c);have j:(l.map NN)[i]? =some (NN x):=by rw[axM,c];rfl
   rw[ba j,ob];simp only[NN];rw[NR bv h e.1,ob,NR bv h e.2,ob,bW bv d7,ob,b9 bv];have:=zh N f h d g m (i+1) (a++[((wL b x.1:Int),(wL b x.2:Int))]) bv bv d7;rw[this,cQ c];simp[P5,NN]
  .rw[axm bv,aym bv]
   simp[P5]
def P6(d:Fu+10<=a)(h:cq n g)(l:bj)(e:l.length<=100000):
 abd a ((n:Int),g,l)=some (ym (n:Int) l,if ym (n:Int) l=0 then(P5 g (l.map oz)).map NN else []):=by
 obtain⟨a,rfl⟩:=sC a 1;have j:=h.lo;have i:=h.hi;rw[aiJ,h.tr bv,ob];simp only[axA,axr];rw[UU bv _ l bv,ob,Eb];rcases Ar (n:Int) l with⟨k,f⟩|⟨k,_⟩|⟨k,f,c⟩
 .omega
 .rw[k];rfl
 .rw[k,axn rfl,axn rfl]
  have b:=x3 (n:=(n:Int)) bv c;rw[axw]at b;have:=zh a bv h b (by simpa using e) a 0 [] (by rw[bP]at d;simp;omega) bv d5;rw[<-PW c,zQ,axx]at this;rw[this,ob];rfl
def XA(p:Fu+11<=a)(h:cq n g)(l:bj)(j:l.length<=100000):
 PB a ((n:Int),g,l)=some (ym (n:Int) l,if ym (n:Int) l=0 then lx n g (l.map oz)else []):=by
 obtain⟨a,rfl⟩:=sC a 1;have r:=h.lo;have q:=h.hi;rw[aet,P6 bv h l j,ob,Eb];rcases Ar (n:Int) l with⟨k,m⟩|⟨k,_⟩|⟨k,m,o⟩
 .omega
 .rw[k];rfl
 .rw[k,axn rfl]
  simp only[ax0];have b:=x3 (n:=(n:Int)) bv o;rw[axw]at b;obtain⟨s,d,e⟩:=US (N:=a) bv (n:=n) bv;obtain⟨t,f,_⟩:=UT (N:=a) bv (n:=n) bv (l:=P5 g (l.map oz)) (by simp[P5];omega) (aqK h b) e;rw[d,ob,f,ob];have i:lx n g (l.map oz)=gy [] (P5 g (l.map oz)):=by
   rw[KE h b (c:=λx=>(λy=>y) (wL g x)) (λx _=>rfl),KF (λy=>y) (wL g)];exact KG (P5 g (l.map oz)) []
  rw[i]
def aca(a:1<=n)(b:n<=64)(l:bj):ym (n:Int) l=if∀e∈l,mO (n:Int) e then 0 else 10:=by
 unfold ym;rw[axm bv]
def fU(n:Nat):bO:=(List.range n).map λv:Nat=>[(v:Int)]
def hV(e:1<=n)(f:n<=64):cq n (fU n):=by
 have c:tF n (fU n)=(List.range n).map λv:Nat=>(v:Int):=by
  unfold tF fU;rw[List.flatMap_map];have:∀(l:a_),(∀x∈l,x<n)->(l.flatMap λa:Nat=>vt n [(a:Int)])=l.map λv:Nat=>(v:Int):=λl=>by
   induction l with
   |nil=>intro _;rfl
   |cons a l k=>
    intro h;rw[axZ,k λx d=>h x (by simp[d]),Dm,axn (by have:=h a d5;omega)];simp[vt]
  exact this _ λx d=>ayi.1 d
 refine cq.of e f (λr g=>?_) ?_ ?_ ?_
 .obtain⟨v,c,rfl⟩:=axC.1 g
  have c:=ayi.1 c;refine⟨d5,⟨d5,λt i=>?_,d5⟩,rfl,[(v,v)],by simp[iI c],d5,⟨v,by simp[Clo,run,k6]⟩,d5,by simp[wJ,e8]⟩;simp only[axK]at i;omega
 .unfold fU
  refine List.Pairwise.map _ ?_ List.pairwise_lt_range;intro a b h;simp only[kV,ayS];omega
 .rw[c];exact Gy n
 .intro v j
  rw[c];exact axC.2 ⟨v,ayi.2 j,rfl⟩
def KI(c:1<=n)(d:n<=64)(b:a<n):wL (fU n) a=a:=by
 have:=((hV c d).lv b (r:=[(a:Int)]) (axC.2 ⟨a,ayi.2 b,rfl⟩) d5).1;simp only[kV,ayS]at this;omega
def L0(a:1<=n)(b:n<=64)(d:h9 n s):lx n (fU n) s=gy [] s:=by
 rw[KE (hV a b) d (c:=mN []) (λx e=>KI a b e)];exact KG s []
structure Iv(n:Nat)(l:bw)(out:aX):Prop where
 len:out.length=n
 at_:∀i,i<n->∃w:Nat,out[i]? =some (w:Int)/\w<=i
 uni:∀f:Nat->Nat,(∀e∈l,f e.1=f e.2)->∀v,v<n->f (par out v)=f v
def Iv.get(h:Iv n s b)(e:a<n):b[a]? =some ((par b a:Nat):Int)/\par b a<=a:=by
 obtain⟨w,c,d⟩:=h.at_ a e;have:par b a=w:=by unfold par;simp[ayL,c]
 rw[this];exact⟨c,d⟩
def sm(a:aX):Nat:=(a.map Int.toNat).sum
def XB:∀{b:aX} {v:Nat} {x y:Int},b[v]? =some x->sm (b.set v y)+x.toNat=sm b+y.toNat
 |[],v,x,y,h=>by simp at h
 |a::b,0,x,y,h=>by
  simp at h;subst h;simp[sm];omega
 |a::b,v+1,x,y,h=>by
  rw[ayT]at h;have c:=XB (y:=y) h;rw[aAN];simp only[sm,axJ,azB]at c⊢;omega
def Iv.low(h:Iv n s b)(u:(a,C)∈s)(m:a<n)(o:C<n)(z:par b a≠par b C):
 Iv n s ((b.set a ((min (par b a) (par b C):Nat):Int)).set C ((min (par b a) (par b C):Nat):Int))/\sm ((b.set a ((min (par b a) (par b C):Nat):Int)).set C ((min (par b a) (par b C):Nat):Int))<sm b:=by
 have p:=h.get m;have q:=h.get o;have B:a≠C:=λe=>z (by rw[e]);have w:=h.len;have A:par ((b.set a ((min (par b a) (par b C):Nat):Int)).set C ((min (par b a) (par b C):Nat):Int))=cK (cK (par b) a (min (par b a) (par b C))) C (min (par b a) (par b C)):=by
  rw[Db (by rw[ayA];omega),Db bv]
 constructor
 .refine⟨by simp[w],λi v=>?_,λf d x E=>?_⟩
  .simp only[ayk,ayA]
   by_cases g:C=i
   .subst g
    rw[axn rfl,axn bv];exact⟨_,rfl,bv⟩
   .rw[axm g]
    by_cases j:a=i
    .subst j
     rw[axn rfl,axn bv];exact⟨_,rfl,bv⟩
    .rw[axm j]
     exact h.at_ i v
  .have r:=h.uni f d a m
   have t:=h.uni f d C o;have k:f a=f C:=d (a,C) u;have l:f (min (par b a) (par b C))=f a:=by
    rcases azA (par b a) (par b C)with c|c
    .rw[ayE c,r]
    .rw[azP c,t,k]
   rw[A];unfold cK;split
   next e=>subst e;rw[l,k]
   .split
    next e=>subst e;exact l
    .exact h.uni f d x E
 .have F:=XB (y:=((min (par b a) (par b C):Nat):Int)) p.1
  have D:(b.set a ((min (par b a) (par b C):Nat):Int))[C]? =some ((par b C:Nat):Int):=by
   rw[ayk,axm B];exact q.1
  have G:=XB (y:=((min (par b a) (par b C):Nat):Int)) D;simp only[axw]at F G;omega
def aoy:∀{out:aX} {k:Nat},(∀x∈out,x.toNat<=k)->sm out<=out.length*k
 |[],k,_=>by simp[sm]
 |a::out,k,h=>by
  have c:=aoy (out:=out) λx b=>h x (by simp[b]);have:=h a d5;simp only[sm,axJ,azB,axN,ax2]at c⊢;omega
def GC(N:Nat)(f:Fu+1<=N)(l a:aX)(g:l.length<=9223372036854775807)(j:a.length<=1000):∀(k i m:Nat) (b:aX),i+k=a.length->k<m->b.length<=i->
 HQ N m (l,a,((a.length:Nat):Int),(i:Int),b)=some (b++(a.drop i).map (ixI l))
 |k,i,0,b,c,d,e=>by omega
 |0,i,m+1,b,c,d,e=>by
  rw[MZ,cU bv,aym bv];simp
 |k+1,i,m+1,b,c,d,e=>by
  obtain⟨x,h⟩:=get_at (xs:=a) (i:=i) bv;rw[MZ,dS bv,ba h,ob,Kl N f l x g,ob,bW bv d7,ob,b9 bv,GC N f l a g j k (i+1) m _ bv bv d7,cQ h];simp
def aeP(N:Nat)(g:Fu+4<=N)(l a:aX)(d:l.length<=9223372036854775807)(b:a.length<=1000):ZI N (l,a)=some (if fe l then(decide (∀t∈a,t∈l),a.map (ixI l))else(false,[])):=by
 obtain⟨N,rfl⟩:=sC N 1;have h:=GC N bv l a d b a.length 0 N [] bv (by have:=bP;omega) d5;rw[ayg,ax3]at h;rw[ahz,PQ N bv l d,ob];by_cases c:fe l
 .rw[axn c,axQ c,axA,axr,show((0:Int)=((0:Nat):Int))from rfl,h,ob,has_eq N bv _ _ d7,ob]
  congr 2;rw[<-decide_not];refine ay2.2 ?_;rw[axC];constructor
  .intro h t b
   refine Decidable.by_contra λf=>h ⟨t,b,PU f⟩
  .rintro h ⟨t,b,e⟩
   have:=Ik (h t b);omega
 .rw[axm c,axU c];rfl
def aeQ(N:Nat)(k:Fu+2<=N)(a b:aX)(l:a.length<=100000)(m:b.length<=100000):M0 N [a,b]=some (a++b):=by
 obtain⟨N,rfl⟩:=sC N 2;obtain⟨K,d⟩:∃K,N+1=K+3:=⟨N - 2,by have:=bP;omega⟩;have e:aZ ([a,b]:bO) (0:Int)=some a:=rfl;have f:aZ ([a,b]:bO) (1:Int)=some b:=rfl;have g:wZ ((0:Int)+1)=1:=fF bv bv;have h:wZ ((1:Int)+1)=2:=fF bv bv;have i:xT (N+1) (N+1) ([a,b],0,[a,b],((([a,b]:bO).length:Nat):Int),0)=some ([a,b],(a.length:Int)+(b.length:Int)):=by
  have:∀M,xT M (K+3) ([a,b],0,[a,b],((([a,b]:bO).length:Nat):Int),0)=some ([a,b],(a.length:Int)+(b.length:Int)):=λM=>by
   rw[xV,dS d5,e,ob,cd,fF (x:=(0:Int)+((a.length:Nat):Int)) bv bv,axm bv,g,xV,dS d5,f,ob,cd,fF (x:=(0:Int)+((a.length:Nat):Int)+((b.length:Nat):Int)) bv bv,axm bv,h,xV,cU d5];congr 2;omega
  have c:=this (N+1);rwa[<-d]at c
 have j:xS (N+1) (N+1) ([a,b],((([a,b]:bO).length:Nat):Int),0,[])=some (a++b):=by
  have:∀M,xS M (K+3) ([a,b],((([a,b]:bO).length:Nat):Int),0,[])=some (a++b):=λM=>by
   rw[xU,dS d5,e,ob,bW bv d7,ob,g,xU,dS d5,f,ob,bW bv d7,ob,h,xU,cU d5];simp
  have c:=this (N+1);rwa[<-d]at c
 rw[SL,i,ob];simp only;rw[e9,axQ ⟨bv,bv⟩,axL,ob,j,ob]
def NS(N:Nat)(a:Fu+3<=N)(l:aX)(p:Nat)(c:p<=l.length)(b:l.length<=1000):SM N (l,(p:Int))=some (Hc l p):=by
 obtain⟨N,rfl⟩:=sC N 1;rw[ahA,wC bv bv,ob,wB bv bv,ob,axw,aeQ N bv _ _ d7 d7,ob];rfl
def acb(N:Nat)(f:Fu+5<=N)(l:aX)(x:Int)(b:l.length<=9223372036854775807):Jy N (l,x)=some (PT l x):=by
 obtain⟨N,rfl⟩:=sC N 1;rw[adP,aeP N bv l [x] b d5,ob,PT];by_cases c:fe l
 .rw[axn c]
  by_cases a:x∈l
  .have:=ajv a
   rw[axn ⟨c,a⟩];have e:(decide (∀t∈[x],t∈l),[x].map (ixI l))=(true,[(ix l x:Int)]):=by simp[a,Ik a]
   rw[e];have d:aZ [(ix l x:Int)] (0:Int)=some (ix l x:Int):=rfl;simp only[axA,axr,d,ob];rw[NS N bv l _ bv c.1];rfl
  .have e:(decide (∀t∈[x],t∈l),[x].map (ixI l))=(false,[(-1:Int)]):=by simp[a,PU a]
   rw[e,axm (λh=>a h.2)];rfl
 .rw[axm c,axm (λh=>c h.1)];rfl
def ajO(N:Nat)(e:Fu+5<=N)(l:aX)(d:l.length<=9223372036854775807):Pa N l=some (dh l):=by
 obtain⟨N,rfl⟩:=sC N 1;rw[adR,PQ N bv l d,ob,Eb,dh];by_cases c:fe l
 .rw[axn c,cd]
  by_cases a:l=[]
  .subst a;simp
  .have f:=aza.2 a
   have b:=(o0 a).1;have:=ajv b;rw[axm bv,axn ⟨c,a⟩,min_eq N bv l c.1 a,ob,Kl N bv l _ d,ob,Ik b,NS N bv l _ bv c.1,ob];rfl
 .rw[axm c,axm (λh=>c h.1)]
section
open Go Go.RowKit Go.Sort
def lp{σ β:Type}{F:Nat->Nat->σ->At β}{n:Nat}{I:Nat->σ->Prop}{Q:β->Prop}(g:∀m i s,i<n->I i s->(∃d,I (i+1) d/\F (m+1) i s=F m (i+1) d)\/∃b,F (m+1) i s=some b/\Q b)
 (f:∀m s,I n s->∃b,F (m+1) n s=some b/\Q b):∀{m i:Nat} {s:σ},n - i<m->i<=n->I i s->∃b,F m i s=some b/\Q b
 |0,i,s,h,_,_=>absurd h bv
 |m+1,i,s,h,k,e=>by
  by_cases c:i<n
  .rcases g m i s c e with⟨d,a,j⟩|a
   .rw[j];exact lp g f bv bv a
   .exact a
  .obtain rfl:i=n:=bv
   exact f m s e
def lpv{σ β:Type}{F:Nat->Nat->σ->At β}{n:Nat}{I:Nat->σ->Prop}{b:β}(k:∀m i s,i<n->I i s->∃c,I (i+1) c/\F (m+1) i s=F m (i+1) c)(g:∀m s,I n s->F (m+1) n s=some b)
 {m i:Nat} {s:σ} (d:n - i<m) (e:i<=n) (f:I i s):F m i s=some b:=by
 obtain⟨l,h,rfl⟩:=lp (Q:=λx=>x=b) (λm i s j a=>.inl (k m i s j a)) (λm s a=>⟨_,g m s a,rfl⟩) d e f;exact h
def acd(g:3<=a)(b:n<=64)(h:c<n)(i:C<n)(d:c≠C):JB a ((n:Int),(c:Int),(C:Int))=some (ek n (c,C)):=by
 obtain⟨a,rfl⟩:=sC a 1;have f:n*(c+1)<=64*64:=ay1 b bv;have e:(n:Int)*((c:Int)+1)=((n*(c+1):Nat):Int):=by rw[azi];rfl
 rw[adQ,cU bv,U0 bv,ob,U0 bv,axQ (show((1:Int)<=(n:Int)/\(n:Int)<=64)/\0<=(c:Int)/\(c:Int)<(n:Int) by omega),axQ (show((1:Int)<=(n:Int)/\(n:Int)<=64)/\0<=(C:Int)/\(C:Int)<(n:Int) by omega)];simp only[ob,axA,axr];rw[show wZ ((c:Int)+1)=(c:Int)+1 from fF bv bv,e,show wZ (((n*(c+1):Nat):Int))=((n*(c+1):Nat):Int)from fF bv bv,fF bv bv];unfold ek;simp only[d,ayl];congr 1
def wo{α:Type}(i j:Nat):Nat->Do α->Do α
 |_,[]=>[]
 |k,x::l=>if k=i\/k=j then wo i j (k+1) l else x::wo i j (k+1) l
def ace{α:Type}{i j:Nat}:∀(l:Do α) (k:Nat),i<k->j<k->wo i j k l=l
 |[],_,_,_=>rfl
 |x::l,k,a,b=>by rw[wo,axm bv,ace l (k+1) bv bv]
def acf{α:Type}(i j:Nat):∀(l:Do α) (k:Nat),wo i j k l=wo j i k l
 |[],_=>rfl
 |x::l,k=>by
  rw[wo,wo,acf i j l (k+1)];by_cases c:k=i\/k=j
  .rw[axn c,axn c.symm]
  .rw[axm c,axm λh=>c h.symm]
def ajQ{α:Type}{i j:Nat}{b:α}:∀(l:Do α) (k:Nat),i<k->k<=j->l[j - k]? =some b->l.Perm (b::wo i j k l)
 |[],k,_,_,h=>by simp at h
 |x::l,k,d,e,h=>by
  rw[wo];by_cases c:k=j
  .rw[show j - k=0 by omega]at h
   have a:x=b:=by simpa using h
   rw[axn (.inr c),ace l _ bv bv,a]
  .rw[axm bv]
   rw[show j - k=(j - (k+1))+1 by omega,ayT]at h;exact((ajQ l (k+1) bv bv h).cons x).trans (List.Perm.swap _ _ _)
def P7{α:Type}{i j:Nat}{a b:α}(e:i<j):∀(l:Do α) (k:Nat),k<=i->l[i - k]? =some a->l[j - k]? =some b->l.Perm (a::b::wo i j k l)
 |[],k,_,h,_=>by simp at h
 |x::l,k,g,h,d=>by
  rw[wo];rw[show j - k=(j - (k+1))+1 by omega,ayT]at d;by_cases c:k=i
  .rw[show i - k=0 by omega]at h
   have f:x=a:=by simpa using h
   rw[axn (.inl c),f];exact(ajQ l (k+1) bv bv d).cons a
  .rw[axm bv]
   rw[show i - k=(i - (k+1))+1 by omega,ayT]at h;exact((P7 e l (k+1) bv h d).cons x).trans ((List.Perm.swap _ _ _).trans ((List.Perm.swap _ _ _).cons a))
def amX(e:g[a]? =some b)(f:g[n]? =some o)(i:a≠n):(wo a n 0 g).Perm (NP g a n):=by
 have h:=Au e f i;rcases ayX a n with c|c
 .have d:=P7 c g 0 bv e f
  exact((d.symm.trans h).cons_inv).cons_inv
 .have d:=P7 (show n<a by omega) g 0 bv f e
  rw[acf]at d;exact((d.symm.trans (h.trans (List.Perm.swap _ _ _))).cons_inv).cons_inv
def ajR{α:Type}(i j:Nat):∀(l:Do α) (k:Nat),(wo i j k l).length<=l.length
 |[],_=>by simp[wo]
 |x::l,k=>by
  have:=ajR i j l (k+1);rw[wo];split
  .simp only[axN];omega
  .simp only[axN];omega
def amY{N:Nat}(u:Fu+8<=N)(f:Int){rs:bO}(J:rs.length<=1000)(D:fe b)(s:g.Perm (wo a c 0 rs++[dh b]))(z:g.Pairwise λe i=>kV e<kV i)(A:∀r∈g,r≠[]):
 Pb N (f,rs,[(a:Int),(c:Int)],[b])=some (f,g):=by
 obtain⟨N,rfl⟩:=sC N 1;have K:=ajR a c rs 0;have t:qS N N ([(a:Int),(c:Int)],[b],rs,((rs.length:Nat):Int),(((0:Nat):Int),(f,(rs,(0,[])))))=some ([b],f,rs,0,wo a c 0 rs):=by
  refine lpv (F:=λm k (j:bO)=>qS N m ([(a:Int),(c:Int)],[b],rs,((rs.length:Nat):Int),((k:Int),(f,(rs,(0,j)))))) (n:=rs.length) (I:=λk j=>j++wo a c k (rs.drop k)=wo a c 0 rs/\j.length<=k) (λm k j E q=>?_) (λm j q=>?_) (by rw[bP]at u;omega) bv ⟨d5,d5⟩
  .obtain⟨x,p⟩:=get_at (xs:=rs) (i:=k) E
   have o:=q.1;rw[cQ p,wo]at o;by_cases d:k=a\/k=c
   .rw[axn d]at o
    refine⟨j,⟨o,bv⟩,?_⟩;rw[Am,dS bv,ba p,ob,has_eq N bv _ _ d5,ob,axQ d7,b9 bv];rfl
   .rw[axm d]at o
    refine⟨j++[x],⟨by rw[axS];exact o,by rw[axG];simp;omega⟩,?_⟩;rw[Am,dS bv,ba p,ob,has_eq N bv _ _ d5,ob,axU d7,bW bv d7,b9 bv];rfl
  .have:=q.1
   rw[aym (axp _),wo,ax6]at this;rw[Am,cU bv,this]
 obtain⟨M,rfl⟩:∃M,N=M+2:=⟨N - 2,by rw[bP]at u;omega⟩;have H:=D.1;rw[adS];rw[zQ]at t;rw[t,ob];have B:BK (M+2) (M+2) ([b],((([b].length:Nat):Int),((0:Int),(f,(rs,((0:Int),wo a c 0 rs))))))=some (f,rs,0,wo a c 0 rs++[dh b]):=by
  rw[show M+2=(M+1)+1 from rfl,JC,dS d5,show aZ [b] (0:Int)=some b from rfl,ob,ajO _ bv _ bv,ob,bW bv d7,ob,fF bv bv,JC,cU d5]
 rw[B,ob];have w:∀x y:aX,ltOf O3 x y=decide (kV x<kV y):=λx y=>ay2.2 Br;have C:bC (M+2) (wo a c 0 rs++[dh b])=some g:=by
  have v:lk (ltOf O3) (wo a c 0 rs++[dh b]):=lk.perm (l:=g) (z.imp λh=>.inl (by rw[w];exact axQ h)) s;have G:=Ak asp s v (z.imp λ{x y} h=>by rw[w];exact axU bv);unfold bC O1;rw[axn λx p=>A x (s.mem_iff.2 p),axn ⟨v,by simp;omega⟩,G]
 simp only[C,ob]
def XC(N:Nat)(r:Fu+2<=N)(a b c d e:aX)(h:a.length+b.length+c.length+d.length+e.length<=100000):M0 N [a,b,c,d,e]=some (a++b++c++d++e):=by
 obtain⟨M,rfl⟩:∃M,N=M+7:=⟨N - 7,by rw[bP]at r;omega⟩;have w:∀x:Int,0<=x->x<=1000000->wZ x=x:=λx p q=>fF bv bv;have s:∀f g i j k:aX,aZ [f,g,i,j,k] (0:Int)=some f/\aZ [f,g,i,j,k] (1:Int)=some g/\aZ [f,g,i,j,k] (2:Int)=some i/\aZ [f,g,i,j,k] (3:Int)=some j/\aZ [f,g,i,j,k] (4:Int)=some k:=λ_ _ _ _ _=>⟨rfl,rfl,rfl,rfl,rfl⟩;obtain⟨e0,l,m,n,o⟩:=s a b c d e;have p:xT (M+6) (M+6) ([a,b,c,d,e],0,[a,b,c,d,e],((([a,b,c,d,e].length:Nat):Int),(0:Int)))=some ([a,b,c,d,e],((a.length+b.length+c.length+d.length+e.length:Nat):Int)):=by
  simp only[xV,cd,axN,ayq];rw[axn d6,e0,ob,w _ bv bv,axm bv,show wZ ((0:Int)+1)=1 by decide,axn d6,l,ob,w _ bv bv,axm bv,show wZ ((1:Int)+1)=2 by decide,axn d6,m,ob,w _ bv bv,axm bv,show wZ ((2:Int)+1)=3 by decide,axn d6,n,ob,w _ bv bv,axm bv,show wZ ((3:Int)+1)=4 by decide,axn d6,o,ob,w _ bv bv,axm bv,show wZ ((4:Int)+1)=5 by decide,axm d6];congr 2;omega
 have q:xS (M+6) (M+6) ([a,b,c,d,e],((([a,b,c,d,e].length:Nat):Int),((0:Int),([]:aX))))=some (a++b++c++d++e):=by
  simp only[xU,cd,axN,ayq];rw[axn d6,e0,ob,bW bv d7,ob,show wZ ((0:Int)+1)=1 by decide,axn d6,l,ob,bW bv d7,ob,show wZ ((1:Int)+1)=2 by decide,axn d6,m,ob,bW bv d7,ob,show wZ ((2:Int)+1)=3 by decide,axn d6,n,ob,bW bv d7,ob,show wZ ((3:Int)+1)=4 by decide,axn d6,o,ob,bW bv d7,ob,show wZ ((4:Int)+1)=5 by decide,axm d6];simp
 rw[show M+7=(M+6)+1 from rfl,SL,p,ob];unfold e9;rw[axQ (by simp only;omega)];simp only[axL,ob];rw[q,ob]
def ajS(b:2<=a)(d:1<=n)(e:n<=64)(f:c<n):pV a ((n:Int),(c:Int))=some true:=by
 rw[U0 b,axQ (show((1:Int)<=(n:Int)/\(n:Int)<=64)/\0<=(c:Int)/\(c:Int)<(n:Int) by omega)]
def ajT{N:Nat}(O:Fu+9<=N)(h:cq n g)(b:a<n)(d:c<n):
 Pc N ((n:Int),g,(a:Int),(c:Int))=some (if mg g (a:Int)=mg g (c:Int)then(5,(n:Int),g)else(0,(n:Int),q_ n g a c)):=by
 obtain⟨N,rfl⟩:=sC N 2;have q:=h.lo;have k:=h.hi;obtain⟨S,w⟩:=h.small;have F:O_ (N+1) ((n:Int),g,(a:Int),(c:Int))=some 0:=by
  rw[adM,h.tr bv,ob];simp only[axA,axr];rw[ajS bv q k b,ob];simp only[axA,axr];rw[ajS bv q k d,ob];rfl
 have u:=E_ (N:=N+1) bv (n:Int) (a:Int) (rs:=g) bv (λr l=>by have:=w r l;omega);have v:=E_ (N:=N+1) bv (n:Int) (c:Int) (rs:=g) bv (λr l=>by have:=w r l;omega);rw[h.Xz b]at u;rw[h.Xz d]at v;rw[adT,F,ob];simp only[ayD,axA,axr];simp only[u,v,ob,cd];by_cases i:mg g (a:Int)=mg g (c:Int)
 .rw[axn bv,axn i]
 rw[axm bv,axm i];have f:=h.ring b;have j:=h.ring d;have m:=h.body _ f.2.2.1;have o:=h.body _ j.2.2.1;have y:a≠c:=λe=>i (by rw[e]);have P:=m.2.1.1;have R:=o.2.1.1;have t:=Au f.1 j.1 i;have p:=(Dq (n:=n) t).nodup_iff.1 h.nd;have E:=(ab6 h.rg h.nd).1 h.all;have I:(vt n (dB g a)).length+(vt n (dB g c)).length<=n:=by
  have:=(Dq (n:=n) t).length_eq;unfold tF at this E;rw[axZ,axZ,axG,axG]at this;omega
 have H:∀x∈vt n (dB g a),x∉vt n (dB g c):=λx L M=>by
  unfold tF at p;rw[axZ,axZ]at p;exact(ayc.1 p).2.2 x L x (by simp[M]) rfl
 have D:=KB k b d m o f.2.1 j.2.1 H I;have B:PT (dB g a) (a:Int)=(true,ep (dB g a) (a:Int)):=axn ⟨m.2.1,f.2.1⟩;have C:PT (dB g c) (c:Int)=(true,ep (dB g c) (c:Int)):=axn ⟨o.2.1,j.2.1⟩;have U:=NJ (dB g a) (a:Int);have V:=NJ (dB g c) (c:Int);have Q:=aza.2 m.1;rw[ba f.1,ob,acb (N+1) bv _ _ bv,ob,ba j.1,ob,acb (N+1) bv _ _ bv,ob,B,C];simp only;have G:=nZ f.2.1;have z:(ep (dB g a) (a:Int)).take (Int.toNat 1)=[(a:Int)]:=by rw[G];rfl
 rw[wB bv bv,ob,acd bv k b d y,ob,acd bv k d b (λe=>y e.symm),ob,wC bv bv,ob,z,XC (N+1) bv _ _ _ _ _ d7,ob];have A:[(a:Int)]++[ek n (a,c)]++ep (dB g c) (c:Int)++[ek n (c,a)]++(ep (dB g a) (a:Int)).drop (Int.toNat 1)=q9 n a c (dB g a) (dB g c):=rfl;have s:=(ab_ h b d i).1;have J:(q_ n g a c).Perm (wo (mg g (a:Int)) (mg g (c:Int)) 0 g++[dh (q9 n a c (dB g a) (dB g c))]):=by
  refine(x9 _ _).trans ?_;refine((amX f.1 j.1 i).symm.cons _).trans ?_;exact aAu (l₁:=[_])
 have K:=amY (N:=N+1) bv (n:Int) (rs:=g) bv D J s.srt (λr l=>(s.body r l).1);rw[A,K,ob]
end
section
open Go Go.RowKit Go.Sort
def amZ(h:Fu+2<=a)(l:bj)(o:l.length<=100000):Zg a l=some (l.flatMap λe=>[e.1,e.2]):=by
 obtain⟨a,rfl⟩:=sC a 1;have:=lpv (F:=λm k (c:aX)=>HJ a m (l,((l.length:Nat):Int),(k:Int),c)) (n:=l.length) (b:=l.flatMap λe=>[e.1,e.2]) (I:=λk c=>c++(l.drop k).flatMap (λe=>[e.1,e.2])=l.flatMap (λe=>[e.1,e.2])/\c.length<=2*k) (λm k c j f=>by
  obtain⟨x,g⟩:=get_at (xs:=l) (i:=k) j;have d:=f.1;rw[cQ g,axZ,<-axS]at d;refine⟨_,⟨d,by simp;omega⟩,?_⟩;rw[MP,dS bv,ba g,ob,bW bv d7,ob,b9 bv]) (λm c f=>by
  have d:=f.1;rw[aym (axp _),aA1,ax6]at d;rw[MP,cU bv,d]) (m:=a) (i:=0) (s:=[]) (by rw[bP]at h;omega) bv ⟨d5,d5⟩
 rw[ahe];rw[zQ]at this;rw[this,ob]
def ajU{N:Nat}(C:Fu+12<=N)(h:cq n g)(w:m.length<=100000)(l:∀e∈m,mO (n:Int) e):
 ∃j,ZT N ((n:Int),g,m)=some (0,(n:Int),kK n g (m.map oz),j):=by
 obtain⟨N,rfl⟩:=sC N 2;have B:h9 n (m.map oz):=x3 (n:=(n:Int)) bv l;have y:=Fa (N:=N) bv h (m.flatMap λe=>[e.1,e.2]) (by
  have:(m.flatMap λe=>[e.1,e.2]).length=m.length*2:=by
   clear l B w
   induction m with
   |nil=>rfl
   |cons x m J=>simp only[axZ,axG,J,axN,ayq];omega
  omega)
 rw[axn (λv f=>by
  obtain⟨e,o,f⟩:=ayJ.1 f;have:=l e o;rcases axP.1 f with rfl|f
  .exact this.1
  .rcases axP.1 f with rfl|f
   .exact this.2
   .cases f)]at y
 obtain⟨b,q,j,rfl⟩:=lp (F:=λa k (s:bO×bh)=>HS N a (m,((m.length:Nat):Int),(k:Int),(n:Int),s.1,(0:Int),s.2)) (n:=m.length) (Q:=λb=>∃j,b=((n:Int),kK n g (m.map oz),(0:Int),j))
  (I:=λk s=>cq n s.1/\kK n s.1 ((m.map oz).drop k)=kK n g (m.map oz)/\s.2.length<=k) (λa k s D d=>by
   obtain⟨x,r⟩:=get_at (xs:=m) (i:=k) D;have H:(m.map oz)[k]? =some (oz x):=by rw[axM,r];rfl
   have eX:=l x (axB r);have p:=eX.nat;have o:=aow eX;have z:x.1=(((oz x).1:Nat):Int):=(axD Prod.fst o).symm;have A:x.2=(((oz x).2:Nat):Int):=(axD Prod.snd o).symm;have G:=Io d.1 p.1 p.2;have u:=d.2.1;rw[cQ H,kK]at u;have E:=ajT (N:=N) bv d.1 p.1 p.2;refine .inl ⟨(if mg s.1 (((oz x).1:Nat):Int)=mg s.1 (((oz x).2:Nat):Int)then s.1 else q_ n s.1 (oz x).1 (oz x).2,s.2++[decide ((if mg s.1 (((oz x).1:Nat):Int)=mg s.1 (((oz x).2:Nat):Int)then(5:Int)else 0)=0)]),⟨G.1,u,by simp only[axG,axN,ayq];have:=d.2.2;omega⟩,?_⟩;have K:=d.2.2;rw[M1,dS bv,ba r,ob];simp only;rw[z,A,E,ob,bW bv (by simp only[axN,ayq];omega),ob,b9 bv];by_cases c:mg s.1 (((oz x).1:Nat):Int)=mg s.1 (((oz x).2:Nat):Int)
   .simp only[c,ax0]
   .simp only[c,ayl]) (λa s d=>by
   have t:=d.2.1;rw[aym d5,kK]at t;exact⟨_,by rw[M1,cU bv],⟨s.2,by rw[t]⟩⟩) (m:=N) (i:=0) (s:=(g,[])) (by rw[bP]at C;omega) bv ⟨h,rfl,d5⟩
 refine⟨j,?_⟩;rw[ahD,ahC,amZ bv m w,ob,y,ob];simp only[ayD,axA,axr];rw[zQ]at q;simp only at q;rw[q,ob];rfl
def am0(f:Fu+2<=a)(n:Int):O5 a n=some (if 1<=n/\n<=64 then(0,n,fU n.toNat)else(1,0,[])):=by
 obtain⟨a,rfl⟩:=sC a 1;rw[adF,Dg bv,ob,Eb];by_cases c:1<=n/\n<=64
 .rw[axn c,axn c]
  obtain⟨k,rfl⟩:=nN n;rw[axw];have:=lpv (F:=λm i (d:bO)=>Bv a m ((k:Int),(i:Int),(0:Int),(k:Int),d)) (n:=k) (b:=((0:Int),(k:Int),fU k)) (I:=λi d=>d=fU i) (λm i d g e=>by
   subst e;refine⟨fU (i+1),rfl,?_⟩;rw[Jw,dS bv,bW bv (by simp[fU];omega),ob,b9 bv];have:fU i++[[(i:Int)]]=fU (i+1):=by unfold fU;rw[aAv,aya];rfl
   rw[this]) (λm d e=>by
   subst e;rw[Jw,cU bv]) (m:=a) (i:=0) (s:=[]) (by rw[bP]at f;omega) bv rfl
  rw[zQ]at this;rw[this,ob]
 .rw[axm c,axm c]
def jJ(n:Nat)(l:bj):bO:=kK n (fU n) (l.map oz)
def KJ(a:1<=n)(b:n<=64)(c:∀e∈m,mO (n:Int) e):cq n (jJ n m):=(E9 (hV a b) (x3 (n:=(n:Int)) bv c)).1
def of_eq(i:Fu+13<=a)(b:1<=n)(c:n<=64)(g:m.length<=100000)(d:∀e∈m,mO (n:Int) e):JD a ((n:Int),m)=some (0,(n:Int),jJ n m):=by
 obtain⟨a,rfl⟩:=sC a 1;obtain⟨h,f⟩:=ajU (N:=a) bv (hV b c) g d;rw[adU,am0 bv,ob,axn bv];simp only[ayD,axA,axr,axw];rw[f,ob];rfl
def b_(b:Do bq)(a:Int):bj:=(b.filter λt=>t.2.2.2 && decide (a<=t.2.2.1)).map λt=>(t.1,t.2.1)
def U9(p:Fu+2<=a)(g:Int)(e:Do bq)(h:Int)(t:e.length<=100000):Su a (g,e,h)=some (b_ e h):=by
 obtain⟨a,rfl⟩:=sC a 1;have:=lpv (F:=λm k (f:bj)=>xQ a m (h,e,((e.length:Nat):Int),(k:Int),f)) (n:=e.length) (b:=b_ e h) (I:=λk f=>f++b_ (e.drop k) h=b_ e h/\f.length<=k) (λm k f q l=>by
  obtain⟨x,o⟩:=get_at (xs:=e) (i:=k) q;have d:=l.1;have r:=l.2;rw[cQ o,b_,ayF]at d;cases j:x.2.2.2 with
  |false=>
   rw[j,Bool.false_and,axm d6]at d;refine⟨f,⟨d,bv⟩,?_⟩;rw[xR,dS bv,ba o,ob,j,b9 bv];rfl
  |true=>
   by_cases c:h<=x.2.2.1
   .rw[j,axQ c,aBK,axn rfl,axJ,<-ayI,<-axS]at d
    refine⟨_,⟨d,by rw[axG];simp;omega⟩,?_⟩;rw[xR,dS bv,ba o,ob,j,axL,dS c,bW bv d7,ob,b9 bv]
   .rw[j,axU c,aBL,axm d6]at d
    refine⟨f,⟨d,bv⟩,?_⟩;rw[xR,dS bv,ba o,ob,j,axL,cU c,b9 bv]) (λm f l=>by
  have d:=l.1;rw[aym (axp _),b_,aBM,ayy,ax6]at d;rw[xR,cU bv,d]) (m:=a) (i:=0) (s:=[]) (by rw[bP]at p;omega) bv ⟨d5,d5⟩
 rw[ahd];rw[zQ]at this;rw[this,ob]
def acg(N:Nat)(x y:bq):Jv (N+6) (x.1,x.2.1,x.2.2.1,x.2.2.2,y.1,y.2.1,y.2.2.1,y.2.2.2)=some (u5 x y):=by
 rw[ahc,show N+5=(N+2)+3 from rfl,r4,r4,show N+2+3=N+5 from rfl];simp only[aW,W8];rfl
end
variable{h:Do bq}{v y:bq}
section
open Go Go.RowKit Go.Sort
def NT(b:1<=a)(n:Int):Ss a n=some (decide (1<=n/\n<=64)):=by
 obtain⟨a,rfl⟩:=sC a 1;rw[ag8,cd];by_cases c:1<=n<;>simp[c]
def mA(n:Nat):Nat:=if n<=1 then 0 else if n<=2 then 1 else if n<=4 then 2 else if n<=8 then 3 else if n<=16 then 4 else if n<=32 then 5 else 6
set_option maxRecDepth 100000 in
def am1(N:Nat):∀x:Fin 64,Y_ (N+3) ((x.1:Nat):Int)=some ((mA (x.1+1):Nat):Int):=by
 intro x;have a:=x.2;rw[ag9,show N+2=(N+1)+1 from rfl,adC,cU bv,ob,adB,cU bv,ob,cU bv];simp only;rw[wu8 bv bv];revert x;unfold alK;decide+kernel
def ajV(e:6<=a)(c:1<=n)(d:n<=64):Ju a (n:Int)=some (mA n:Int):=by
 obtain⟨a,rfl⟩:=sC a 5;have b:wrap .u64 (((n - 1:Nat):Nat):Int)=((n - 1:Nat):Int):=by simp[wZ,wrap,IntKind.bits,IntKind.signed];omega
 have h:=am1 a ⟨n - 1,bv⟩;rw[show n - 1+1=n by omega]at h;rw[adD,NT bv,ob,axQ bv];simp only[axA,axr];rw[show wZ ((n:Int) - 1)=((n - 1:Nat):Int) by rw[fF bv bv];omega,b,aha];simp only at h;rw[h,ob,ob]
def ee(n:Nat)(t:bq):Prop:=0<=t.1/\t.1<t.2.1/\t.2.1<(n:Int)/\0<=t.2.2.1/\t.2.2.1<=(mA n:Int)
def qb(a b:bq):Prop:=a.1<b.1\/a.1=b.1/\a.2.1<b.2.1
def kL:u5 v y<0↔qb v y:=ny
structure GR(n:Nat)(ts:List bq):Prop where
 lo:1<=n
 hi:n<=64
 len:ts.length<=400
 tie:∀t∈ts,ee n t
 srt:ts.Pairwise qb
 fst:(jJ n (b_ ts 0)).length+(b_ ts 0).length=n
def nz(a:∀t∈h,ee n t)(d:Int):∀e∈b_ h d,mO (n:Int) e:=λe b=>by
 obtain⟨t,c,rfl⟩:=axC.1 b;have:=a t (ay8.1 c).1;unfold ee at this;exact⟨⟨bv,by show t.1<_;omega⟩,by show 0<=t.2.1;omega,by show t.2.1<_;omega⟩
def ly(a:Do bq)(b:Int):(b_ a b).length<=a.length:=by
 unfold b_;rw[axx];exact aAy _ _
def U_(g:h[a]? =some v)(l:h[a+1]? =some y)(c:(h.take (a+1)).Pairwise qb):(h.take (a+2)).Pairwise qb↔qb v y:=by
 have i:=bU l;rw[i,aCn];have k:v∈h.take (a+1):=by rw[bU g];simp
 constructor
 .intro f;exact f.2.2 v k y d5
 .intro f
  refine⟨c,List.pairwise_singleton _ _,λd e b j=>?_⟩;rw[axK.1 j];rw[bU g]at e c;rcases axy.1 e with e|e
  .have:=(aCn.1 c).2.2 d e v d5
   unfold qb at*;omega
  .rw[axK.1 e];exact f
def Va{N:Nat}(G:Fu+8<=N){n:Nat}(a:Do bq)(H:a.length<=400):∃r,xW N N ((mA n:Int),a,((a.length:Nat):Int),((0:Nat):Int),(n:Int),a)=some r/\(r=.inl ((n:Int),a)/\(∀t∈a,ee n t)/\a.Pairwise qb\/r=.inr false/\¬((∀t∈a,ee n t)/\a.Pairwise qb)):=by
 have E:=bP;refine lp (F:=λm k (_:Unit)=>xW N m ((mA n:Int),a,((a.length:Nat):Int),(k:Int),(n:Int),a)) (n:=a.length) (I:=λk _=>(∀t∈a.take k,ee n t)/\(a.take k).Pairwise qb) (λm k s A d=>?_) (λm s d=>⟨_,by rw[M3,cU bv],.inl ⟨rfl,by rw[axV (axp _)]at d;exact d⟩⟩) (m:=N) (i:=0) (s:=()) bv bv ⟨d5,d5⟩;obtain⟨x,e⟩:=get_at (xs:=a) (i:=k) A;have B:=axB e;rw[M3,dS bv,ba e,ob];by_cases f:ee n x
 .obtain⟨q,u,v,w,z⟩:=f
  rw[cU bv,cU bv,cU bv,cU bv,cU bv,cd];have j:∀t∈a.take (k+1),ee n t:=λt h=>by
   rw[bU e]at h;rcases axy.1 h with h|h
   .exact d.1 t h
   .rw[axK.1 h];exact⟨q,u,v,w,z⟩
  rcases az4 k with g|g
  .subst g
   rw[axm bv,b9 bv];exact .inl ⟨(),⟨j,by rw[bU e];simp⟩,rfl⟩
  .obtain⟨k,rfl⟩:=sC k 1
   obtain⟨y,p⟩:=get_at (xs:=a) (i:=k) bv;have o:=U_ p e d.2;rw[axn bv,show wZ (((k+1:Nat):Int) - 1)=(k:Int) by rw[fF bv bv];omega,ba p,ob];have l:=acg (N - 6) y x;rw[show N - 6+6=N by omega]at l;rw[l,ob,cd];by_cases c:qb y x
   .rw[axm (by have:=kL.2 c;omega),b9 bv]
    exact .inl ⟨(),⟨j,o.2 c⟩,rfl⟩
   .rw[axn (by have:=mt kL.1 c;omega)]
    refine .inr ⟨_,rfl,.inr ⟨rfl,λh=>c (o.1 ?_)⟩⟩;exact h.2.sublist (aBN _ _)
 .refine .inr ?_
  have D:∀r:At (Int×Do bq⊕In),r=some (.inr false)->∃b,r=some b/\(b=.inl ((n:Int),a)/\(∀t∈a,ee n t)/\a.Pairwise qb\/b=.inr false/\¬((∀t∈a,ee n t)/\a.Pairwise qb)):=λr C=>⟨_,C,.inr ⟨rfl,λh=>f (h.1 x B)⟩⟩;refine D _ ?_;unfold ee at f;rw[cd];split
  .rfl
  rw[cd];split
  .rfl
  rw[cd];split
  .rfl
  rw[cd];split
  .rfl
  rw[dS bv]
def x_{N:Nat}(m:Fu+16<=N)(g:Int)(a:Do bq)(k:a.length<=100000):∃b,oW N (g,a)=some b/\(b=true↔0<=g/\GR g.toNat a):=by
 obtain⟨N,rfl⟩:=sC N 1;have l:=bP;rw[ahF,NT bv,ob,Eb];by_cases d:1<=g/\g<=64
 .rw[axn d,cd]
  obtain⟨n,rfl⟩:=nN g;rw[axw];by_cases i:(400:Int)<((a.length:Nat):Int)
  .rw[axn i]
   exact⟨_,rfl,λh=>(by cases h),λh=>absurd h.2.len bv⟩
  .rw[axm i,ajV bv bv bv,ob]
   obtain⟨r,f,h⟩:=Va (N:=N) bv (n:=n) a bv;rw[zQ]at f;rw[f,ob];rcases h with⟨rfl,c,j⟩|⟨rfl,c⟩
   .simp only
    have o:=ly a 0;rw[U9 bv _ _ _ k,ob,of_eq bv bv bv bv (nz c 0),ob,dS rfl];simp only;rw[fF bv bv];refine⟨_,rfl,?_⟩;rw[ayd];constructor
    .intro e;exact⟨bv,bv,bv,bv,c,j,bv⟩
    .intro e;have:=e.2.fst;omega
   .exact⟨_,rfl,λh=>(by cases h),λh=>absurd ⟨h.2.tie,h.2.srt⟩ c⟩
 .rw[axm d]
  exact⟨_,rfl,λh=>(by cases h),λh=>absurd (⟨by have:=h.2.lo;omega,by have:=h.2.hi;omega⟩) d⟩
def GR.right(d:Fu+16<=a)(c:GR n h):oW a ((n:Int),h)=some true:=by
 obtain⟨b,e,f⟩:=x_ d (n:Int) h (by have:=c.len;omega);rw[e,f.2 ⟨bv,by rw[axw];exact c⟩]
def cR(a:Do bq):bj:=a.map λt=>(t.1,t.2.1)
def Fb(l:Fu+17<=a)(c:GR n h):Nr a ((n:Int),h)=some (cR h):=by
 obtain⟨a,rfl⟩:=sC a 1;have j:=bP;have p:=c.len;have:=lpv (F:=λm k (d:bj)=>H9 a m (h,((h.length:Nat):Int),(k:Int),d)) (n:=h.length) (b:=cR h) (I:=λk d=>d=cR (h.take k)) (λm k d g e=>by
  obtain⟨x,f⟩:=get_at (xs:=h) (i:=k) g;have o:d.length<=400:=by rw[e,cR,axx,ax9];omega
  refine⟨d++[(x.1,x.2.1)],by rw[e,bU f];simp[cR],?_⟩;rw[Ns,dS bv,ba f,ob,bW bv d7,ob,b9 bv]) (λm d e=>by
  rw[Ns,cU bv,e,axV (axp _)]) (m:=a) (i:=0) (s:=[]) bv bv (by simp[cR])
 rw[aiu,c.right bv,ob];simp only[axA,axr];rw[zQ]at this;rw[this,ob]
def KL(d:Fu+17<=a)(b:GR n h)(c:Int):Ug a ((n:Int),h,c)=some (0,(n:Int),jJ n (b_ h c)):=by
 obtain⟨a,rfl⟩:=sC a 1;have e:=b.len;have:=ly h c;rw[aiF,b.right bv,ob];simp only[axA,axr];rw[U9 bv _ _ _ bv,ob,of_eq bv b.lo b.hi bv (nz b.tie c),ob]
def GR.P8(a:GR n h)(b:Int):cq n (jJ n (b_ h b)):=KJ a.lo a.hi (nz a.tie b)
def Fc:u5 v y=0↔v.1=y.1/\v.2.1=y.2.1:=by
 unfold u5 qQ;split
 next h=>have:=qR.1 h;rw[qR];exact⟨λk=>⟨this,k⟩,λk=>k.2⟩
 next h=>have:=mt qR.2 h;exact⟨λk=>absurd k h,λk=>absurd k.1 this⟩
def wM{l:Do i}{x:i}(h:l[a]? =some x):a<l.length:=(axs.1 h).1
def ajW{a b c:bq}(h:qb a b)(k:qb b c):qb a c:=by unfold qb at*;omega
def XD(b:h.Pairwise qb)(g:h[a]? =some v)(i:h[c]? =some y)(f:a<c):qb v y:=by
 obtain⟨d,rfl⟩:=axs.1 g;obtain⟨e,rfl⟩:=axs.1 i;exact aAo.1 b a c d e f
def XE{N:Nat}(L:Fu+8<=N)(a:Do bq)(M:a.length<=400)(t:a.Pairwise qb)(y:bq):∃(i:Int) (b:In),amF N (a,y)=some (i,b)/\(b=true->∃(k:Nat) (x:bq),i=(k:Int)/\a[k]? =some x/\u5 x y=0)/\(b=false->∀x∈a,u5 x y≠0):=by
 obtain⟨N,rfl⟩:=sC N 1;have K:=bP;have w:∀x:bq,Jv N (x.1,x.2.1,x.2.2.1,x.2.2.2,y.1,y.2.1,y.2.2.1,y.2.2.2)=some (u5 x y):=λx=>by
  have:=acg (N - 6) x y;rwa[show N - 6+6=N by omega]at this
 have J:∀(d i j m:Nat),j - i<=d->d<m->i<=j->j<=a.length->(∀(p:Nat) (x:bq),p<i->a[p]? =some x->qb x y)->(∀(p:Nat) (x:bq),j<=p->a[p]? =some x->¬qb x y)->∃k:Nat,Ka N m (a,((a.length:Nat):Int),(i:Int),(j:Int),y)=some (a,((a.length:Nat):Int),(k:Int),y)/\(∀(p:Nat) (x:bq),p<k->a[p]? =some x->qb x y)/\(∀(p:Nat) (x:bq),k<=p->a[p]? =some x->¬qb x y):=by
  intro d
  induction d with
  |zero=>
   intro i j m u E F G q r;obtain⟨m,rfl⟩:=sC m 1;obtain rfl:i=j:=bv
   exact⟨i,by rw[Kb,cU bv],q,r⟩
  |succ d B=>
   intro i j m u E F G q r;obtain⟨m,rfl⟩:=sC m 1;by_cases c:i<j
   .have C:(2:Int)^(min (Int.toNat (1:Int)) (64:Nat))=2:=d6
    have D:wZ (Int.fdiv (wrap .u64 (wZ ((i:Int)+(j:Int)))) 2)=(((i+j)/2:Nat):Int):=by
     rw[fF (x:=(i:Int)+(j:Int)) bv bv,show wrap .u64 ((i:Int)+(j:Int))=((i+j:Nat):Int) by simp[wZ,wrap,IntKind.bits,IntKind.signed];omega,aBO _ bv,fF bv bv];omega
    obtain⟨x,g⟩:=get_at (xs:=a) (i:=(i+j)/2) bv;rw[Kb,dS bv,C,D,ba g,ob,w,ob,cd];by_cases l:u5 x y<0
    .rw[axn l,b9 bv]
     refine B _ _ m bv bv bv bv (λp z o f=>?_) r;rcases ayX p ((i+j)/2)with h|h
     .exact ajW (XD t f g h) (kL.1 l)
     .obtain rfl:p=(i+j)/2:=bv
      rw[g]at f;rw[<-axt f];exact kL.1 l
    .rw[axm l]
     refine B _ _ m bv bv bv bv q λp z o f s=>?_;rcases ayX ((i+j)/2) p with h|h
     .exact l (kL.2 (ajW (XD t g f h) s))
     .obtain rfl:p=(i+j)/2:=bv
      rw[g]at f;rw[<-axt f]at s;exact l (kL.2 s)
   .obtain rfl:i=j:=bv
    exact⟨i,by rw[Kb,cU bv],q,r⟩
 obtain⟨k,A,H,I⟩:=J a.length 0 a.length N bv bv bv (axp _) (λp x h=>absurd h bv) (λp x h g=>absurd (wM g) bv);have v:∀x∈a,u5 x y=0->a[k]? =some x:=λx g n=>by
  obtain⟨p,o⟩:=az6 g;have e:=Fc.1 n;rcases ayZ p k with h|h|h
  .have:=H p x h o
   unfold qb at this;omega
  .rw[<-h];exact o
  .obtain⟨z,f⟩:=get_at (xs:=a) (i:=k) (by have:=wM o;omega)
   have u:=XD t f o h;exact absurd (by unfold qb at*;omega) (I k z (axp k) f)
 rw[zQ]at A;obtain⟨O,P,Q,R⟩:=y;rw[amG,A,ob,cd];simp only;by_cases c:k<a.length
 .obtain⟨x,g⟩:=get_at (xs:=a) (i:=k) c
  rw[axn bv,ba g,ob];have:=w x;simp only at this;rw[this,ob];refine⟨_,_,rfl,λh=>⟨k,x,rfl,g,ayh h⟩,λh z f n=>?_⟩;have:=v z f n;rw[g]at this;rw[axt this]at h;exact absurd n (ay_ h)
 .rw[axm bv]
  refine⟨_,_,rfl,(λh=>by cases h),λh z f n=>?_⟩;exact c (wM (v z f n))
def ajX{N:Nat}(g:Fu+18<=N)(a:GR n h)(u v:Int):∃i:Int,PC N ((n:Int),h,u,v)=some i/\(i= -1/\(∀x∈h,¬(x.1=min u v/\x.2.1=max u v))\/∃(k:Nat) (x:bq),i=(k:Int)/\h[k]? =some x/\x.1=min u v/\x.2.1=max u v):=by
 obtain⟨N,rfl⟩:=sC N 2;obtain⟨i,b,f,e⟩:=XE (N:=N) bv h a.len a.srt (if v<u then v else u,if v>u then v else u,0,false);rw[aev,a.right bv,ob];simp only[axA,axr];rw[aiV,f,ob,ob];cases b with
 |false=>
  refine⟨-1,rfl,.inl ⟨rfl,λx d c=>e.2 rfl x d (Fc.2 ⟨?_,?_⟩)⟩⟩
  .rw[c.1];simp only;split<;>omega
  .rw[c.2];simp only;split<;>omega
 |true=>
  obtain⟨k,x,rfl,d,c⟩:=e.1 rfl;have:=Fc.1 c;simp only at this;refine⟨(k:Int),rfl,.inr ⟨k,x,rfl,d,?_,?_⟩⟩
  .rw[this.1];split<;>omega
  .rw[this.2];split<;>omega
end
variable{D:Int×Int->Prop}
section
open Go Go.RowKit Go.Sort
def Vb{s:Sc}(f:s.key=true)(c d:s.c9)(v:i):∀a:Do (s.c9×i),(c=d->bL s (dO s a c v) d=some v)/\(c≠d->bL s (dO s a c v) d=bL s a d):=by
 have g:∀{x y:s.c9},x≠y->jc s x y=false:=λ{x y} h=>by
  cases j:jc s x y with
  |false=>rfl
  |true=>exact absurd ((fy s _ _ f).1 j) h
 intro a
 induction a with
 |nil=>
  simp only[dO,bL];exact⟨λe=>by rw[(fy s _ _ f).2 e];rfl,λe=>by rw[g e];rfl⟩
 |cons p a k=>
  simp only[dO];by_cases h:p.1=c
  .rw[(fy s _ _ f).2 h]
   simp only[axL,bL];exact⟨λe=>by rw[(fy s _ _ f).2 (h.trans e)];rfl,λe=>by rw[g λb=>e (h.symm.trans b)];rfl⟩
  .rw[g h]
   simp only[axr,bL];by_cases b:p.1=d
   .rw[(fy s _ _ f).2 b];exact⟨λe=>absurd (b.trans e.symm) h,λ_=>rfl⟩
   .rw[g b];exact k
def ach{e:i->i->In}(f:SWO e){l:Do i}(j:lk e l)(n:l.length<1099511627776):∃r,O1 e l=some r/\r.Perm l/\r.Pairwise λx y=>e x y=true:=by
 have k:=aBC l λx y=> !e y x;have o:=aCe (le:=λx y=> !e y x) (λa b c g d=>by
  simp only[ayC]at g d⊢;exact f.ntrans _ _ _ d g) (λa b=>by
  simp only[ayo,ayC];cases h:e b a with
  |false=>exact .inl rfl
  |true=>
   refine .inr ?_;cases d:e a b with
   |false=>rfl
   |true=>have:=f.trans _ _ _ h d;rw[f.irrefl]at this;cases this) l
 refine⟨_,axn ⟨j,n⟩,k,?_⟩;have m:=lk.perm j k.symm;refine(List.pairwise_and_iff.2 ⟨o,m⟩).imp λ{x y} h=>?_;rcases h.2 with d|d
 .exact d
 .have:=h.1;rw[d]at this;cases this
def dG(e:Int×Int):Int×Int:=(min e.1 e.2,max e.1 e.2)
def KM(e:Int×Int):(if e.2<e.1 then e.2 else e.1)=(dG e).1/\(if e.2>e.1 then e.2 else e.1)=(dG e).2:=by
 unfold dG;constructor<;>simp only<;>split<;>omega
def eLt(a b:Int×Int):Prop:=a.1<b.1\/a.1=b.1/\a.2<b.2
abbrev AH:Sc:=.pr (.i .i64) (.i .i64)
def Mk(m:Iw)(p:Int×Int->Prop):Prop:=∀e,(p e->(bL AH m e).getD 0=1)/\(¬p e->(bL AH m e).getD 0=0)
def Mk.put{m:Iw}(h:Mk m D)(x:Int×Int):Mk (dO AH m x (1:Int)) λe=>D e\/e=x:=λe=>by
 have d:=Vb (s:=AH) rfl x e (1:Int) m;by_cases c:x=e
 .refine⟨λ_=>?_,λb=>absurd (.inr c.symm) b⟩
  have:=d.1 c;rw[this];rfl
 .have:=d.2 c
  refine⟨λa=>?_,λb=>?_⟩
  .rw[this]
   rcases a with a|a
   .exact(h e).1 a
   .exact absurd a.symm c
  .rw[this];exact(h e).2 λa=>b (.inl a)
def Mk.imp{m:Iw}{p q:Int×Int->Prop}(h:Mk m p)(a:∀e,p e↔q e):Mk m q:=λe=>⟨λd=>(h e).1 ((a e).2 d),λb=>(h e).2 λc=>b ((a e).1 c)⟩
def ajY:u∈cR h↔∃t∈h,(t.1,t.2.1)=u:=by simp[cR]
def aci(a:∀t∈h,ee n t):∀e∈cR h,0<=e.1/\e.1<e.2/\e.2<(n:Int):=λe b=>by
 obtain⟨t,c,rfl⟩:=ajY.1 b;have:=a t c;exact⟨this.1,this.2.1,this.2.2.1⟩
def Dr(a:h.Pairwise qb):(cR h).Pairwise eLt:=az5.2 a
def ya(h:m.Pairwise eLt):m.Nodup:=h.imp λ{a b} h e=>by
 subst e;unfold eLt at h;omega
def aqL{a b:Int×Int}(h:ltOf qQ a b=true):eLt a b:=ny.1 (ayh h)
def aeR(h:m.Nodup):lk (ltOf qQ) m:=h.imp λ{a b} h=>by
 by_cases c:eLt a b
 .exact .inl (axQ (ny.2 c))
 .refine .inr (axQ (ny.2 ?_))
  have:¬(a.1=b.1/\a.2=b.2):=λe=>h (azx e.1 e.2);unfold eLt at c;omega
structure am2(n:Nat)(ts:List bq)(l kf:bj):Prop where
 srt:kf.Pairwise eLt
 mem:∀e,e∈kf↔e.1<e.2/\e∈l.map dG/\e∉cR ts
 inn:∀x∈l,mO (n:Int) x
 len:kf.length<=l.length
def am2.rng{l b:bj}(a:am2 n h l b):∀e∈b,0<=e.1/\e.1<e.2/\e.2<(n:Int):=λe f=>by
 obtain⟨c,d,_⟩:=(a.mem e).1 f;obtain⟨x,g,rfl⟩:=axC.1 d;have:=a.inn x g;unfold mO at this;refine⟨by simp only[dG];omega,c,by simp only[dG];omega⟩
def ajZ{N:Nat}(hN:Fu+18<=N)(d:GR n h)(l:bj)(hl:l.length<=100000):
 (EX N ((n:Int),h,l)=some (10,[])/\¬∀x∈l,mO (n:Int) x)\/∃j,EX N ((n:Int),h,l)=some (0,j)/\am2 n h l j:=by
 obtain⟨N,rfl⟩:=sC N 1;have hF:=bP;have a1:=d.len;have a0:(cR h).length=h.length:=by simp[cR]
 obtain⟨b1,J,A,rfl,R⟩:=lp (F:=λm k (s:Iw)=>CF N m (l,(((cR h).length:Nat):Int),(k:Int),(n:Int),h,s,cR h)) (n:=(cR h).length) (Q:=λb=>∃A,b=(l,(n:Int),h,A)/\Mk A λe=>e∈cR h) (I:=λk s=>Mk s λe=>e∈(cR h).take k) (λm k s D o=>by
  obtain⟨x,g⟩:=get_at (xs:=cR h) (i:=k) D;exact .inl ⟨dO AH s x (1:Int),(o.put x).imp λe=>by rw[bU g];simp,by rw[J5,dS bv,ba g,ob,ob,b9 bv]⟩) (λm s o=>⟨_,by rw[J5,cU bv],s,rfl,o.imp λe=>by rw[axV (axp _)]⟩) (m:=N) (i:=0) (s:=[]) bv bv (λe=>⟨λP=>by simp at P,λ_=>rfl⟩)
 obtain⟨b2,C,U⟩:=lp (F:=λm k (s:Iw×bj)=>qW N m (l,((l.length:Nat):Int),(k:Int),(n:Int),h,s.1,s.2)) (n:=l.length) (Q:=λb=>(b=.inr 10/\¬∀x∈l,mO (n:Int) x)\/∃j,b=.inl j/\j.Nodup/\(∀e,e∈j↔e.1<e.2/\e∈l.map dG/\e∉cR h)/\(∀x∈l,mO (n:Int) x)/\j.length<=l.length)
  (I:=λk s=>Mk s.1 (λe=>e∈cR h\/e∈s.2)/\s.2.Nodup/\(∀e,e∈s.2↔e.1<e.2/\e∈(l.take k).map dG/\e∉cR h)/\(∀x∈l.take k,mO (n:Int) x)/\s.2.length<=k) (λm k s D o=>by
   obtain⟨x,g⟩:=get_at (xs:=l) (i:=k) D;have L:=axB g;obtain⟨t,G,z,W,i5⟩:=o;rw[J4,dS bv,ba g,ob,(KM x).1,(KM x).2,cd];have q:mO (n:Int) x↔¬(dG x).1<0/\¬(n:Int)<=(dG x).2:=by unfold mO dG;omega
   by_cases u:(dG x).1<0
   .rw[axn u];exact .inr ⟨_,rfl,.inl ⟨rfl,λd=>(q.1 (d x L)).1 u⟩⟩
   rw[axm u,cd];by_cases v:(n:Int)<=(dG x).2
   .rw[axn v];exact .inr ⟨_,rfl,.inl ⟨rfl,λd=>(q.1 (d x L)).2 v⟩⟩
   rw[axm v,cd];have eX:∀y∈l.take (k+1),mO (n:Int) y:=λy p=>by
    rw[bU g]at p;rcases axy.1 p with p|p
    .exact W y p
    .rw[axK.1 p];exact q.2 ⟨u,v⟩
   have E:∀e,e∈(l.take (k+1)).map dG↔e∈(l.take k).map dG\/e=dG x:=λe=>by
    rw[bU g,aya,axy,List.map_singleton,axK]
   by_cases w:(dG x).1<(dG x).2
   .rw[axn w,cd]
    by_cases f:dG x∈cR h\/dG x∈s.2
    .have B:(bL AH s.1 (dG x)).getD 0=1:=(t _).1 f
     rw[show(bL AH s.1 ((dG x).1,(dG x).2)).getD 0=1 from B,axm bv,b9 bv];refine .inl ⟨s,⟨t,G,λe=>?_,eX,bv⟩,rfl⟩;rw[z e,E];constructor
     .rintro⟨a,b,c⟩;exact⟨a,.inl b,c⟩
     .rintro⟨a,b|rfl,c⟩
      .exact⟨a,b,c⟩
      .rcases f with f|f
       .exact absurd f c
       .exact(z _).1 f
    .have B:(bL AH s.1 (dG x)).getD 0=0:=(t _).2 f
     rw[show(bL AH s.1 ((dG x).1,(dG x).2)).getD 0=0 from B,axn rfl,bW bv d7,ob,b9 bv];refine .inl ⟨(dO AH s.1 (dG x) (1:Int),s.2++[dG x]),⟨(t.put _).imp λe=>by simp[or_assoc],?_,λe=>?_,eX,by simp;omega⟩,rfl⟩
     .exact ayc.2 ⟨G,d5,λa M b O e=>f (.inr (by rw[<-axK.1 O,<-e];exact M))⟩
     .rw[axy,axK,z e,E]
      constructor
      .rintro(⟨a,b,c⟩|rfl)
       .exact⟨a,.inl b,c⟩
       .exact⟨w,.inr rfl,λd=>f (.inl d)⟩
      .rintro⟨a,b|rfl,c⟩
       .exact .inl ⟨a,b,c⟩
       .exact .inr rfl
   .rw[axm w,b9 bv]
    refine .inl ⟨s,⟨t,G,λe=>?_,eX,bv⟩,rfl⟩;rw[z e,E];constructor
    .rintro⟨a,b,c⟩;exact⟨a,.inl b,c⟩
    .rintro⟨a,b|rfl,c⟩
     .exact⟨a,b,c⟩
     .exact absurd a w) (λm s o=>⟨_,by rw[J4,cU bv],.inr ⟨s.2,rfl,by have H:=o.2;rw[axV (axp _)]at H;exact H⟩⟩) (m:=N) (i:=0) (s:=(A,[])) bv bv ⟨R.imp λe=>by simp,d5,λe=>by simp,λx g=>by simp at g,d5⟩
 rw[zQ]at J C;simp only at C;rw[aek,d.right bv,ob];simp only[axA,axr];rw[Fb bv d,ob,J,ob];simp only;rw[C,ob];rcases U with⟨rfl,S⟩|⟨j,rfl,X,Y,Z,q4⟩
 .exact .inl ⟨rfl,S⟩
 .obtain⟨r,q,K,V⟩:=ach aob (aeR X) bv
  refine .inr ⟨r,?_,V.imp aqL,λe=>by rw[K.mem_iff];exact Y e,Z,by rw[K.length_eq];exact q4⟩;simp only;unfold cy;rw[q,ob]
end
section
open Go Go.RowKit Go.Sort
def yb(d:1<=a)(b:Do bq)(c:b.length<=100000000000):abl a b=some b:=by
 obtain⟨a,rfl⟩:=sC a 1;rw[aiQ,bW bv (by simpa using c),ax3];cases b with
 |nil=>exact xK.2 ⟨rfl,rfl⟩
 |cons x e=>rfl
def KN(n:Nat):∀(l:bw) (a:bO),(lx n a l).length=l.length
 |[],_=>rfl
 |e::l,a=>by rw[lx,axN,KN n l,axN]
def L1(a:bj)(c:bh):Do bq:=List.zipWith (λx b=>(x.1,x.2,(0:Int),b)) a c
def Vc{a:bh}(h:a.length=m.length):(L1 m a).length=m.length:=by simp[L1,h]
def aj0{a:bh}(h:a.length=m.length):cR (L1 m a)=m:=by
 unfold L1 cR;rw[List.map_zipWith];refine ayR λi=>?_;by_cases c:i<m.length
 .obtain⟨x,e⟩:=get_at (xs:=m) c
  obtain⟨b,d⟩:=get_at (xs:=a) (i:=i) bv;rw[aCo,e,d]
 .rw[ax4 (by simp[h];omega),ax4 bv]
def aj1(a b:Do bq):cR (a++b)=cR a++cR b:=aya
def XF(d:(cR h).Nodup):lk (ltOf u5) h:=(az5.1 d).imp λ{a b} d=>by
 by_cases c:qb a b
 .exact .inl (axQ (kL.2 c))
 .refine .inr (axQ (kL.2 ?_))
  have:¬(a.1=b.1/\a.2.1=b.2.1):=λe=>d (azx e.1 e.2);unfold qb at c⊢;omega
def aqM(h:ltOf u5 v y=true):qb v y:=kL.1 (ayh h)
structure avZ(n:Nat)(ts kf nA:List bq):Prop where
 perm:nA.Perm (ts++kf)
 srt:nA.Pairwise qb
def KQ(n:Nat)(b:Do bq)(a:bj):bh:=lx n (jJ n (b_ b 0)) (a.map oz)
def KS(n:Nat)(b:Do bq)(a:bj):(KQ n b a).length=a.length:=by rw[KQ,KN,axx]
def add_eq{N:Nat}(L:Fu+20<=N)(d:GR n h)(l:bj)(C:l.length<=100000):
 (p_ N ((n:Int),h,l)=some (0,10,(n:Int),h)/\¬∀x∈l,mO (n:Int) x)\/∃kf,am2 n h l kf/\((400<h.length+kf.length/\p_ N ((n:Int),h,l)=some (0,2,(n:Int),h))\/
  h.length+kf.length<=400/\∃v,p_ N ((n:Int),h,l)=some (((kf.length:Nat):Int),0,(n:Int),v)/\avZ n h (L1 kf (KQ n h kf)) v):=by
 obtain⟨N,rfl⟩:=sC N 1;have K:=bP;have R:=d.len;rw[aeu];rcases ajZ (N:=N) bv d l C with⟨p,w⟩|⟨kf,p,g⟩
 .rw[p,ob];exact .inl ⟨rfl,w⟩
 .refine .inr ⟨kf,g,?_⟩
  have O:=g.len;rw[p,ob,xx rfl];simp only;obtain⟨M,rfl⟩:=sC N 1;rw[aem,ob,fF bv bv,Eb];by_cases c:h.length+kf.length<=400
  .rw[axn bv,KL bv d,ob]
   simp only;have z:ym (n:Int) kf=0:=by
    rw[aca d.lo d.hi,axn λe A=>by have:=g.rng e A;exact⟨⟨bv,bv⟩,bv,bv⟩]
   rw[XA bv (d.P8 0) kf bv,z,ob,axn rfl,yb bv _ bv,ob];simp only;rw[show lx n (jJ n (b_ h 0)) (kf.map oz)=KQ n h kf from rfl];have q:=KS n h kf;generalize KQ n h kf=f at*;have P:=Vc q;have t:=lpv (F:=λm k (s:Do bq)=>CN (M+1) m (((kf.length:Nat):Int),(k:Int),(n:Int),h,(0:Int),kf,f,s)) (n:=kf.length) (b:=((n:Int),h,(0:Int),kf,h++L1 kf f)) (I:=λk s=>s=h++(L1 kf f).take k) (λm k s B j=>by
    obtain⟨x,u⟩:=get_at (xs:=kf) (i:=k) B;obtain⟨b,o⟩:=get_at (xs:=f) (i:=k) bv;have D:(L1 kf f)[k]? =some (x.1,x.2,(0:Int),b):=by unfold L1;rw[aCo,u,o]
    have Q:s.length<=100000:=by rw[j,axG,ax9];omega
    exact⟨_,by rw[bU D,<-axS,<-j],by rw[J_,dS bv,ba u,ob,ob,ba o,ob,ob,bW bv d7,ob,b9 bv]⟩) (λm s j=>by rw[J_,cU bv,j,axV bv]) (m:=M+1) (i:=0) (s:=h) bv bv d5
   rw[zQ]at t;rw[t,ob];simp only;have E:(cR (h++L1 kf f)).Nodup:=by
    rw[aj1,aj0 q];exact ayc.2 ⟨ya (Dr d.srt),ya g.srt,λa y b o e=>((g.mem b).1 o).2.2 (e▸y)⟩
   obtain⟨r,H,G,J⟩:=ach aso (XF E) (by rw[axG];omega);unfold cP;rw[H,ob];exact .inr ⟨c,r,rfl,G,J.imp aqM⟩
  .rw[axm bv]
   exact .inl ⟨bv,rfl⟩
