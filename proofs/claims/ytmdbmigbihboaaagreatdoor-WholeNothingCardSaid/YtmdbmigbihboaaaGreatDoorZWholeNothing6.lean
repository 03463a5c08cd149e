/- part 6 -/
import Derived.Test.YtmdbmigbihboaaaGreatDoorZWholeNothing5
set_option linter.all false
noncomputable section
open Go Go.RowKit
open IntKind (wrap)
set_option maxRecDepth 100000
namespace Go.Proofs.YtmdbmigbihboaaaGreatDoor
def Bs.yi(B:Bs)(l:List Deferred):Bs:=⟨B.w,B.own,B.bJ,B.sv,l⟩
section
variable{P:Program}{B:Bs}{Rd:Nat->Nat->Value->Prop}{e:Env}{h:Hp}{w:World}{st:St}{a:Act}
def SR.yi(b:SR B Rd e h w)(l:List Deferred):SR (B.yi l) Rd e h w:=
 ⟨⟨b.ext.os,b.ext.tape,b.ext.output,b.ext.size,b.ext.block,b.ext.drawn⟩,b.jG,b.ob,b.base,b.inj,b.tV⟩
def SR.NO{l:List Deferred}(b:SR (B.yi l) Rd e h w):SR B Rd e h w:=
 ⟨⟨b.ext.os,b.ext.tape,b.ext.output,b.ext.size,b.ext.block,b.ext.drawn⟩,b.jG,b.ob,b.base,b.inj,b.tV⟩
def Ga.yi(b:Ga B Rd e st a w)(l:List Deferred):Ga (B.yi l) Rd e st {a with defers:=l} w:=
 ⟨b.n,rfl,b.sr.yi l,b.tr⟩
def Ye{id d:Nat}{I s:TypeId}{p1 p2:String}{t o:Array Edge}{g:FuncId}{b:Array Operand}{r:Array TypeId}{l:List Oper}{Q:Exit->Act->World->Prop}
 (D:l=[⟨some d,.makeFunc (.func g) #[] b,I,p1,t,none⟩,⟨none,.defer ⟨.value (.tmp d), #[],r⟩,s,p2,o,none⟩]) (k:Ga B Rd e st a w) (p:d<st.n)
 (F:∀m:Act,Ga (B.yi ({target:=.fn (.func g) (b.map a.eval),args:= #[]}::B.df)) Rd e ⟨st.n,(d,.cl (.func g) [] (b.toList.map st.ev))::st.t,st.h⟩ m w->Q .normal m w):(Code.region id l.toArray false).wp P Q a w:=by
 subst D;refine wp_region_lit (atb λJ z=>?_);rw[aqd (by simp[Region.wanted])];have H:VR (bF B Rd e st.h w) (some e) (.cl (.func g) [] (b.toList.map st.ev)) (.func (.func g) #[] (b.map a.eval)):=by
  have f:=k.args b;have:=VR.cl (Rd:=bF B Rd e st.h w) (E:=some e) (fn:=.func g) (fs:=[]) [] _ rfl f.1 (λj c u C=>by cases C) f.2;have x:(b.toList.map a.eval).toArray=b.map a.eval:=by rw[<-arT]
  rw[x]at this;exact this
 refine dY (v:=.func (.func g) #[] (b.map a.eval)) (w':=w) (by simp[execOp,Instr.makeFunc]) (z _ _ ?_);have i:=k.put p H;have q:(a.put (some d) (.func (.func g) #[] (b.map a.eval))).eval (.tmp d)=.func (.func g) #[] (b.map a.eval):=by
  have y:d<a.tmps.size:=by rw[k.n.1];exact p
  simp[Act.eval,Act.put,y]
 generalize a.put (some d) (.func (.func g) #[] (b.map a.eval))=n at i q;refine atb λK A=>?_;rw[aqd (by simp[Region.wanted])];have G:(execOp n.eval ⟨none,.defer ⟨.value (.tmp d), #[],r⟩,s,p2,o,none⟩).run P w=.ok (.defer {target:=.fn (.func g) (b.map a.eval),args:= #[]}) w:=by
  simp[execOp,resolve,q,Deferred.ofValue]
 unfold Oper.wp;rw[G];refine A _ _ (F _ ?_);have f:=i.yi ({target:=.fn (.func g) (b.map a.eval),args:= #[]}::n.defers);rw[i.d]at f⊢;exact f
end
noncomputable def pb:Code:=gJ Tryz.f5
noncomputable def pq(i:List Nat):Code:=iD i pb
def amD:pb=.seq (pq [0]) (.seq (pq [1,0]) (.seq (pq [1,1,0]) (.seq (pq [1,1,1,0]) (.seq (pq [1,1,1,1,0]) (pq [1,1,1,1,1]))))):=by kernel_rfl
def ajD(c:Code):Prop:=∃(id:Nat) (ty1 ty2:TypeId) (p1 p2:String) (af1 af2:Array Edge) (ts:Array TypeId),c=.region id [⟨some 14,.makeFunc (.func 39) #[] #[.tmp 3,.tmp 6,.tmp 7],ty1,p1,af1,none⟩,⟨none,.defer ⟨.value (.tmp 14), #[],ts⟩,ty2,p2,af2,none⟩].toArray false
def af_:ajD (pq [1,1,0]):=⟨_,_,_,_,_,_,_,_,rfl⟩
noncomputable def gb:Code:=gJ Tryz.f39
noncomputable def gq(i:List Nat):Code:=iD i gb
def ajE(c:Code):Prop:=∃(id:Nat) (ty1 ty2:TypeId) (p1 p2:String) (af1 af2:Array Edge) (ts:Array TypeId),c=.region id [⟨some 6,.call ⟨.builtin .recover, #[],ts⟩,ty1,p1,af1,none⟩,⟨some 3,.assign (.tmp 6),ty2,p2,af2,none⟩].toArray false
def amE:ajE (gq [0]):=⟨_,_,_,_,_,_,_,_,rfl⟩
noncomputable def asL:List Oper:=match gq [1,0]with
 |.region _ ops _=>ops.toList.drop 2
 |_=>[]
section
variable{P:Program}{st:St}{d:Option Tmp}{ty:TypeId}{pos:String}{af:Array Edge}{gd:Option (Nat×Bool)}
def RS.assert{x:Operand}{n t:TypeId}{v:Value}{c:AV}(i:∃k,P.underlying t=some (.struct k))(m:st.ev x=.v (.iface t v))(l:∀Rd E,VR Rd E c v):RS P ⟨d,.typeAssert x n t true,ty,pos,af,gd⟩ st (.tu [c,.v (.bool true)]):=λr o e a w h=>by
 obtain⟨k,i⟩:=i;have f:=h.ev x;rw[m]at f;have f:=f.bE;refine⟨.tuple #[v,.bool true],?_,λq _=>?_⟩
 ·exact .tu [v,.bool true] rfl λj p u b g=>by
   match j with
   |0=>simp at b g;subst b;subst g;exact l _ _
   |1=>simp at b g;subst b;subst g;exact .v
   |j+2=>simp at b
 ·simp[execOp,f,Instr.typeAssert,aqF i]
def aga{c:Code}(h:ajE c){Q:Exit->Act->List Frame->World->Prop}{a:Act}{w:World}{b:Frame}{e:List Frame}{v:Value}(j:b.mode=.panicking [{v:=v,recovered:=false}])(m:6<a.tmps.size)
 (k:Q .normal ((a.put (some 6) v).put (some 3) v) ({b with mode:=.panicking [{v:=v,recovered:=true}]}::e) w):c.wpS P Q a (b::e) w:=by
 obtain⟨id,q,r,p1,p2,f,g,p,rfl⟩:=h;refine wpS_region ?_;have i:(a.put (some 6) v).eval (.tmp 6)=v:=by simp[Act.eval,Act.put,m]
 have n:(execOp a.eval ⟨some 6,.call ⟨.builtin .recover, #[],p⟩,q,p1,f,none⟩).run P w=.ok .recover w:=by simp[execOp,resolve,invoke,builtin]
 have o:(execOp (a.put (some 6) v).eval ⟨some 3,.assign (.tmp 6),r,p2,g,none⟩).run P w=.ok (.value v) w:=by simp[execOp,i]
 have l:recoverD (b::e)=some (v,{b with mode:=.panicking [{v:=v,recovered:=true}]}::e):=by simp[recoverD,j]
 show wpOpsS P _ Q [0,1] a (b::e) w;simp only[wpOpsS,arJ,atT,ar2,Region.wanted,n,o,l,aqP,Oper.upon_value];exact k
end
section
variable{P:Program}
def DCX(P:Program)(f:FuncId)(H0:Hp)(av:List AV)(u u':FrameMode)(K:Hp->Prop):Prop:=
 ∀B Rd e w vs,SR B Rd e H0 w->LR (VR (bF B Rd e H0 w) (some e)) av vs->CallsD P f vs.toArray u w λx u1 w'=>(∃v,x=.returned v)/\u1=u'/\∃e' H,K H/\SR B Rd e' H w'
def Ga.enter{fn:Func}{B:Bs}{Rd:Nat->Nat->Value->Prop}{e:Env}{w:World}{H0:Hp}{av:List AV}{vs:List Value}(k:B.df=[])(n:av.length<=fn.ntmps)(j:fn.ntmps<=1000000)(m:SR B Rd e H0 w)(c:LR (VR (bF B Rd e H0 w) (some e)) av vs):
 Ga B Rd e ⟨fn.ntmps,qP 0 av,H0⟩ {tmps:=vs.toArray++Array.replicate (fn.ntmps - vs.toArray.size) undef,defers:=[]} w:=by
 refine⟨⟨by simp[c.1];omega,j⟩,by rw[k],m,λi=>?_⟩;rw[vV];simp only[aqI,aqP,ate];by_cases b:i<av.length
 ·have d:av[i]? =some av[i]:=aqm b
  obtain⟨u,g,l⟩:=c.get d;have a:av.getD i .un=av[i]:=by simp[List.getD,d]
  have h:(vs.toArray++Array.replicate (fn.ntmps - vs.toArray.size) undef).getD i undef=u:=by
   have f:i<vs.length:=by rw[c.1];exact b
   simp[ary,atf,f];rw[aqm f]at g;simpa using g
  rw[a,h];exact l
 ·have a:av.getD i .un=.un:=by simp[List.getD,aq1 (asT b)]
  rw[a];exact .un
def DCX.rec{f:FuncId}{fn:Func}{c0 c1:Code}{i:Hp}{a:List AV}{v:Value}{K:Hp->Prop}(z:P.funcs[f]? =some fn)(u:fn.body=some (.seq c0 c1))(t:ajE c0)(E:a.length<=fn.ntmps)(y:fn.ntmps<=1000000)(n:6<fn.ntmps)(F:fn.results.toList=[])
 (h:TC P c1 ⟨fn.ntmps,(3,.v v)::(6,.v v)::qP 0 a,i⟩ λx r=>(x=.normal\/x=.ret)/\K r.h):DCX P f i a (.panicking [{v:=v,recovered:=false}]) (.panicking [{v:=v,recovered:=true}]) K:=by
 intro B Rd e w I G q;refine callsD_of_wpS z u λc J H=>wpS_seq (aga t H (by simp[q.1];omega) ?_);have A:=Ga.enter (fn:=fn) (B:=B.yi []) (H0:=i) (av:=a) (vs:=I) rfl E y (G.yi []) q;have C:=A.put (d:=6) (c:=.v v) n .v;have D:=C.put (d:=3) (c:=.v v) (Nat.lt_trans (by decide) n) .v;refine wpS_of_wp (h _ _ _ _ _ _ D λx r k m l s j=>?_);have p:l.defers=[]:=j.d;have b:∃g,(results fn l.tmps).run P s=.ok g s:=by
  refine⟨.tuple #[],?_⟩;have:fn.results= #[]:=by simpa using F
  simp[results,this]
 obtain⟨g,b⟩:=b;obtain⟨k,o⟩:=k;rcases k with rfl|rfl
 ·exact⟨p,_,rfl,g,b,⟨_,rfl⟩,rfl,m,_,o,j.sr.NO⟩
 ·exact⟨p,_,rfl,g,b,⟨_,rfl⟩,rfl,m,_,o,j.sr.NO⟩
end
noncomputable def asO:List Oper:=match gq [1,0]with
 |.region _ ops _=>ops.toList
 |_=>[]
def aoM:∃id,gq [1,0]=.region id asO.toArray false:=⟨_,rfl⟩
def ajF:∃(c d:TypeId) (p1 p2:String) (a b:Array Edge) (e:TypeId),asO=⟨some 8,.move (.tmp 3),c,p1,a,none⟩::⟨some 9,.typeAssert (.tmp 8) e 119 true,d,p2,b,none⟩::asL:=⟨_,_,_,_,_,_,_,rfl⟩
noncomputable def gAv:List EV:=[.pt 4294967296 0,.pt 4294967297 0,.pt 4294967298 0]
noncomputable def gS(n:Int)(ts:List bT)(bt st:Int):List EV:=[.sc j1 n,.sc cR ts,.sc j1 bt,.sc j1 st]
noncomputable def gH(n:Int)(ts:List bT)(bt st:Int)(z1 z2:List EV):eF:=[(4294967296,some (.box 26 (gS n ts bt st))),(4294967297,some (.box 26 z1)),(4294967298,some (.box 35 z2))]
noncomputable def gE(e n:Int)(ts:List bT)(bt st:Int)(z1 z2:List EV):cC:=⟨20,(9,.tu [.ag [.sc j1 e],.sc .b true])::(8,.v (mA e))::(3,.v (mA e))::(6,.v (mA e))::FP 0 gAv,gH n ts bt st z1 z2⟩
abbrev GR2:Type:=Option dR×Option dR
noncomputable def gK:Exit->cC->Option GR2
 |.normal,E=>some (bw E.h 4294967297,bw E.h 4294967298)
 |.ret,E=>some (bw E.h 4294967297,bw E.h 4294967298)
 |_,_=>none
noncomputable def zS:List EV:=[.sc j1 0,.nil,.sc j1 0,.sc j1 0]
noncomputable def zR:List EV:=[.sc j1 0,.sc j1 0,.nil]
def amF e n c a b:Bt T [] asO asL (gE e n c a b zS zR) (λE=>ua T [] 0 (gq [1,1]) .z E GR2 gK)=
 some (some (.box 26 (gS n c a b)),some (.box 35 [.sc j1 e,.sc j1 0,.nil])):=by kernel_rfl
def ac5(e n:Int)(ts:List bT)(bt st:Int)(H:Hp):Prop:=
 aY H 4294967297=some (bS (.box 26 (gS n ts bt st)))/\aY H 4294967298=some (bS (.box 35 [.sc j1 e,.sc j1 0,.nil]))
def Yf(e n:Int)(g:List bT)(b f:Int):DCX Tryz.prog 39 (bs (gH n g b f zS zR)) (bO gAv) (.panicking [{v:=mA e,recovered:=false}]) (.panicking [{v:=mA e,recovered:=true}]) (ac5 e n g b f):=by
 refine DCX.rec (fn:=Tryz.f39) (c0:=gq [0]) (c1:=.seq (gq [1,0]) (gq [1,1])) Tryz.func39 (by kernel_rfl) amE (by show _<=20;rw[show(bO gAv).length=3 from rfl];decide) (by show(20:Nat)<=1000000;decide) (by show 6<20;decide) rfl ?_;obtain⟨id,hid⟩:=aoM;rw[hid];refine TC.seq (TC.region ?_)
 suffices H:∀l,l=asO->TL Tryz.prog asO.toArray l ⟨20,(3,.v (mA e))::(6,.v (mA e))::qP 0 (bO gAv),bs (gH n g b f zS zR)⟩ (Kq (λh=>TC Tryz.prog (gq [1,1]) h λx h=>(x=.normal\/x=.ret)/\ac5 e n g b f h.h) λx h=>(x=.normal\/x=.ret)/\ac5 e n g b f h.h)from H _ rfl
 intro l r;obtain⟨P,R,p1,p2,M,N,S,B⟩:=ajF;rw[B]at r;subst r;have t:Place Tryz.prog T []:=zu [] 0;refine TL.cons λz m=>GS.plain rfl (SS.read (RS.ahg (c:=.v (mA e)) rfl) (by show 8<20;decide) (m _ ?_));refine TL.cons λz m=>GS.plain rfl (SS.read (RS.assert (v:=.agg #[.int .i64 e]) (c:=.ag [.v (.int .i64 e)]) (by exact⟨_,rfl⟩) rfl λRd E=>.ag [.int .i64 e] rfl λj c u o y=>?_) (by show 9<20;decide) (m _ ?_))
 ·match j with
  |0=>simp at o y;subst o;subst y;exact .v
  |j+1=>simp at o
 have C:(⟨20,(9,.tu [.ag [.v (.int .i64 e)],.v (.bool true)])::(8,.v (mA e))::(3,.v (mA e))::(6,.v (mA e))::qP 0 (bO gAv),bs (gH n g b f zS zR)⟩:St)=bg (gE e n g b f zS zR):=by
  unfold bg gE;simp only[rf,fY,aqz];rfl
 have q:=PZ t (amF e n g b f);refine TL.of ?_;have J:AL Tryz.prog asO.toArray asL ⟨20,(9,.tu [.ag [.v (.int .i64 e)],.v (.bool true)])::(8,.v (mA e))::(3,.v (mA e))::(6,.v (mA e))::qP 0 (bO gAv),bs (gH n g b f zS zR)⟩ _:=C▸q;intro K A e0 a w Q D G;refine J K A e0 a w Q D λh I=>G h ?_;obtain⟨L,rfl,F⟩:=I;refine(TC.ex t (by kernel_rfl) F).mono λx s q=>?_;obtain⟨k,rfl,_,d⟩:=q;have p:bw k.h 4294967297=some (.box 26 (gS n g b f))/\bw k.h 4294967298=some (.box 35 [.sc j1 e,.sc j1 0,.nil])/\(x=.normal\/x=.ret):=by
  cases x with
  |normal=>simp only[gK,aqg,aqx]at d;exact⟨d.1,d.2,.inl rfl⟩
  |ret=>simp only[gK,aqg,aqx]at d;exact⟨d.1,d.2,.inr rfl⟩
  |exit i=>cases d
  |goto l=>cases d
  |panic O=>cases d
  |outgrown=>cases d
 refine⟨p.2.2,?_,?_⟩
 ·show aY (bs k.h) _=_
  rw[cV,p.1];rfl
 ·show aY (bs k.h) _=_
  rw[cV,p.2.1];rfl
noncomputable def me:List CO:=[alD,jY]
noncomputable def pO:List Oper:=match pq [1,1,1,1,0]with
 |.region _ ops _=>ops.toList
 |_=>[]
def pq5:∃id,pq [1,1,1,1,0]=.region id pO.toArray false:=⟨_,rfl⟩
noncomputable def pAv(n:Int)(ts:List bT)(bt st k:Int)(es:List (Int×Int))(qs:List (Int×Int×Int))(bi bl g P:Int)(pk:List (Int×Int)):List EV:=
 [.ag (gS n ts bt st),.ag [.sc j1 k,.sc b_ es,.sc pf qs],.ag [.sc j1 bi,.sc j1 bl,.sc j1 g,.sc j1 P,.sc b_ pk]]
noncomputable def pE(n:Int)(ts:List bT)(bt st k:Int)(es:List (Int×Int))(qs:List (Int×Int×Int))(bi bl g P:Int)(pk:List (Int×Int)):cC:=⟨30,FP 0 (pAv n ts bt st k es qs bi bl g P pk),[]⟩
noncomputable abbrev px(N:Nat)(R:Type):=λ(c:Code) (E:cC) (f:cC->Option R)=>ua T (Sh me N) N c .z E R (kGo f)
noncomputable def pD(E:cC):cC:=⟨E.n,(14,.cl (.func 39) [] [cN E.t 3,cN E.t 6,cN E.t 7])::E.t,E.h⟩
noncomputable def pC{R:Type}(N:Nat)(E:cC)(f:cC->Option R):Option R:=px N R (pq [0]) E λE=>px N R (pq [1,0]) E λE=>px N R (pq [1,1,1,0]) (pD E) λE=>Bt T (Sh me N) pO (pO.take 3) E f
def p1 N n i c h k d f a b g P e:px N Nat (pq [0]) (pE n i c h k d f a b g P e) (λE=>some E.n)=some 30:=by kernel_rfl
def p2 N n d a c k h j e f g P i:px N Nat (pq [0]) (pE n d a c k h j e f g P i) (λE=>px N Nat (pq [1,0]) E λE=>some E.n)=aW (qn N (n,d,a,c)) λb=>cond (!b) none (some 30):=by kernel_rfl
def p3 N n d a c k h j e f g P i:pC N (pE n d a c k h j e f g P i) (λE=>some E.n)=aW (qn N (n,d,a,c)) λb=>cond (!b) none (some 30):=by kernel_rfl
def p4 N n d a c k h j e f g P i:pC N (pE n d a c k h j e f g P i) (λE=>aW (aat (jY.c N) 21 (bw E.h) [cN E.t 18,cN E.t 19,cN E.t 20]) λp=>some p.1)=aW (qn N (n,d,a,c)) λb=>cond (!b) none (some (k,h,j,e,f,g,P,i,n,d,a,c,0,0,([]:List Int))):=by kernel_rfl
noncomputable def qT:List (Nat×EV):=[(3,.pt 4294967296 0),(4,.pt 4294967299 0),(5,.pt 4294967300 0),(6,.pt 4294967297 0),(7,.pt 4294967298 0)]
noncomputable def qH(n:Int)(ts:List bT)(bt st k:Int)(es:List (Int×Int))(qs:List (Int×Int×Int))(bi bl g P:Int)(pk:List (Int×Int)):eF:=
 gH n ts bt st zS zR++[(4294967299,some (.box 30 [.sc j1 k,.sc b_ es,.sc pf qs])),(4294967300,some (.box 42 [.sc j1 bi,.sc j1 bl,.sc j1 g,.sc j1 P,.sc b_ pk]))]
noncomputable def qE(n:Int)(ts:List bT)(bt st k:Int)(es:List (Int×Int))(qs:List (Int×Int×Int))(bi bl g P:Int)(pk:List (Int×Int)):cC:=⟨30,qT,qH n ts bt st k es qs bi bl g P pk⟩
abbrev QR:Type:=TA×List Nat×List (Nat×Nat)×Option dR×Option dR×Option dR×EV×EV×Nat
noncomputable def qC{R:Type}(N:Nat)(E:cC)(f:cC->Option R):Option R:=px N R (pq [1,1,1,0]) E λE=>Bt T (Sh me N) pO (pO.take 3) E f
def amG N n c a b k f i d e g P h:qC N (qE n c a b k f i d e g P h) (λE=>aW (aat (jY.c N) 21 (bw E.h) [cN E.t 18,cN E.t 19,cN E.t 20]) λp=>some ((p.1,p.2.1,p.2.2,bw E.h 4294967296,bw E.h 4294967297,bw E.h 4294967298,cN E.t 6,cN E.t 7,E.n):QR))=
 some ((k,f,i,d,e,g,P,h,n,c,a,b,0,0,([]:List Int)),[],[(4294967296,17)],some (.box 26 (gS n c a b)),some (.box 26 zS),some (.box 35 zR),.pt 4294967297 0,.pt 4294967298 0,30):=by kernel_rfl
variable{g:Int}{a:Nat}
section
variable{P:Program}{T:TypeId->bj}{CT:List iS}(hp:Place P T CT)
include hp in
def TL.Bt{f l2:List Oper}{g:Exit->St->Prop}:∀{l:List Oper} {E:cC} {R:Type} {k:cC->Option R} {r:R},_root_.Go.Proofs.YtmdbmigbihboaaaGreatDoor.Bt T CT f l E k=some r->(∀c,k c=some r->TL P f.toArray l2 (bg c) g)->TL P f.toArray (l++l2) (bg E) g
 |[],E,R,k,r,h,d=>d E h
 |o::l,E,R,k,r,h,d=>by
  simp only[_root_.Go.Proofs.YtmdbmigbihboaaaGreatDoor.Bt]at h;refine TL.cons λu n=>?_;have a:=ZT hp h;intro t j e m w next Q p q
  refine a t j e m w next Q p λi s=>q i (n i ?_)
  obtain⟨c,rfl,b⟩:=s;exact TL.Bt b d
end
def amH(o:Oper):Prop:=∃(ty:TypeId) (p:String) (af:Array Edge) (ts:Array TypeId),o=⟨some 21,.call ⟨.value (.func 40), #[.tmp 18,.tmp 19,.tmp 20],ts⟩,ty,p,af,none⟩
def amI:∃o,pO=pO.take 3++[o]/\amH o:=⟨_,rfl,_,_,_,_,rfl⟩
noncomputable def qy:Code:=pq [1,1,1,1,1]
def ajH{H:Hp}{o:dR}(i:22000+1000<=a)(h:aY H a=some (bS o))(f:Ob.jH (mv (1000*(21+1))) (bS o)=bS o):aY (na [(4294967296,17)]++gW (mv (1000*(21+1))) (bs (gk (λ_=>none) [])++H)) a=some (bS o):=by
 have e:bs (gk (λ_=>none) [])=[]:=rfl;rw[e,aqZ,dZ];have c:(na [(4294967296,17)]).any (λp=>p.1==a)=false:=by simp[na];omega
 rw[c,sN,h];have d:mv (1000*(21+1)) a=false:=by
  cases b:mv (1000*(21+1)) a with
  |false=>rfl
  |true=>
   unfold mv at b;have g:=aqk (avg.1 b).2;omega
 rw[d];simp[f]
def agb(n:Int)(m:List bT)(i j k:Int)(u:List (Int×Int))(A:List (Int×Int×Int))(r t b P:Int)(y:List (Int×Int))(h:Ho (a+1) (k,u,A,r,t,b,P,y,n,m,i,j,0,0,[])=some g)(R:g≠0):
 TC Tryz.prog (.seq (pq [1,1,1,0]) (.seq (pq [1,1,1,1,0]) qy)) (bg (qE n m i j k u A r t b P y)) λx s=>x=.panic [{v:=mA g,recovered:=false}]/\aY s.h 4294967296=some (bS (.box 26 (gS n m i j)))/\aY s.h 4294967297=some (bS (.box 26 zS))/\aY s.h 4294967298=some (bS (.box 35 zR))/\bz s.t 6=.pt 4294967297 0/\bz s.t 7=.pt 4294967298 0/\s.n=30:=by
 have hp:=zu me (a+1);have C:=amG (a+1) n m i j k u A r t b P y;unfold qC px at C;have V:Am (pq [1,1,1,0])=true:=by kernel_rfl
 generalize Y:((k,u,A,r,t,b,P,y,n,m,i,j,(0:Int),(0:Int),([]:List Int)),([]:List Nat),[((4294967296:Nat),(17:Nat))],some (dR.box 26 (gS n m i j)),some (dR.box 26 zS),some (dR.box 35 zR),EV.pt 4294967297 0,EV.pt 4294967298 0,30)=rr at C;refine TC.Qu hp V C λF hn U=>?_;obtain⟨id,hid⟩:=pq5;rw[hid];refine TC.seq (TC.region ?_);obtain⟨o,W,ty,p,G,tt,rfl⟩:=amI
 suffices X:∀l,l=pO->TL Tryz.prog pO.toArray l (bg F) (Kq (λa0=>TC Tryz.prog qy a0 _) _)from X _ rfl
 intro l E;rw[W]at E;subst E;refine TL.Bt hp U λc w=>?_;refine TL.last rfl ?_;cases B:aat (jY.c (a+1)) 21 (bw c.h) [cN c.t 18,cN c.t 19,cN c.t 20]with
 |none=>rw[B]at w;cases w
 |some q=>
  obtain⟨x,gs,D⟩:=q;rw[B]at w;have e:=aql (w.trans (aqr some Y.symm));have Z:x=(k,u,A,r,t,b,P,y,n,m,i,j,(0:Int),(0:Int),([]:List Int)):=aqr (λz=>z.1) e;have S:gs=[]:=aqr (λz=>z.2.1) e;have Q:D=[(4294967296,17)]:=aqr (λz=>z.2.2.1) e;have H:bw c.h 4294967296=_:=aqr (λz=>z.2.2.2.1) e;have I:bw c.h 4294967297=_:=aqr (λz=>z.2.2.2.2.1) e;have J:bw c.h 4294967298=_:=aqr (λz=>z.2.2.2.2.2.1) e;have K:cN c.t 6=_:=aqr (λz=>z.2.2.2.2.2.2.1) e;have L:cN c.t 7=_:=aqr (λz=>z.2.2.2.2.2.2.2.1) e;have M:c.n=30:=aqr (λz=>z.2.2.2.2.2.2.2.2) e;clear w e;subst S;subst Q;refine SP.ctr (ev:=λ_=>.un) B (by rw[Z];exact ac4 h R) ?_ (λk=>cV _ _) ?_
  ·have O:=Kb.func (P:=Tryz.prog) (st:=bg c) (d:=21) (f:=40) (args:= #[.tmp 18,.tmp 19,.tmp 20]) (ts:=tt) (ty:=ty) (pos:=p) (af:=G) (gd:=none)
   have N:([.tmp 18,.tmp 19,.tmp 20]:List Operand).map (bg c).ev=bO [cN c.t 18,cN c.t 19,cN c.t 20]:=by
    simp only[aqz,aro,bO,St.ev];rw[show(bg c).t=fY c.t from rfl,cw,cw,cw]
   rw[<-N];exact O
  ·exact⟨rfl,ajH (by decide) ((cV _ _).trans (by rw[H];rfl)) rfl,ajH (by decide) ((cV _ _).trans (by rw[I];rfl)) rfl,ajH (by decide) ((cV _ _).trans (by rw[J];rfl)) rfl,(lL _ _ _).trans ((aqr _ ((cw _ _).trans (aqr enc K))).trans rfl),(lL _ _ _).trans ((aqr _ ((cw _ _).trans (aqr enc L))).trans rfl),M⟩
abbrev GR6:Type:=Option dR×Option dR×EV×EV
noncomputable def gK6:Exit->cC->Option GR6
 |.normal,E=>some (bw E.h 4294967297,bw E.h 4294967298,cN E.t 6,cN E.t 7)
 |.ret,E=>some (bw E.h 4294967297,bw E.h 4294967298,cN E.t 6,cN E.t 7)
 |_,_=>none
def amJ N n i c h k d f a b g P e:px N GR6 (pq [1,1,1,0]) (qE n i c h k d f a b g P e) (λE=>px N GR6 (pq [1,1,1,1,0]) E λE=>ua T (Sh me N) N qy .z E GR6 gK6)=
 aW (zK N (k,d,f,a,b,g,P,e,n,i,c,h,0,0,([]:List Int))) λ(y:Int×List bT×Int×Int×Int×Int×List Int)=>some (some (.box 26 (gS y.1 y.2.1 y.2.2.1 y.2.2.2.1)),some (.box 35 [.sc j1 y.2.2.2.2.1,.sc j1 y.2.2.2.2.2.1,.sc j6 y.2.2.2.2.2.2]),.pt 4294967297 0,.pt 4294967298 0):=by kernel_rfl
def ajI(n:Int)(t:List bT)(j r k:Int)(m:List (Int×Int))(q:List (Int×Int×Int))(e f g P:Int)(p:List (Int×Int)){y:Int×List bT×Int×Int×Int×Int×List Int}(h:zK a (k,m,q,e,f,g,P,p,n,t,j,r,0,0,[])=some y):
 TC Tryz.prog (.seq (pq [1,1,1,0]) (.seq (pq [1,1,1,1,0]) qy)) (bg (qE n t j r k m q e f g P p)) λx s=>(x=.normal\/x=.ret)/\aY s.h 4294967297=some (bS (.box 26 (gS y.1 y.2.1 y.2.2.1 y.2.2.2.1)))/\aY s.h 4294967298=some (bS (.box 35 [.sc j1 y.2.2.2.2.1,.sc j1 y.2.2.2.2.2.1,.sc j6 y.2.2.2.2.2.2]))/\bz s.t 6=.pt 4294967297 0/\bz s.t 7=.pt 4294967298 0/\s.n=30:=by
 have u:=zu me a;have d:=amJ a n t j r k m q e f g P p;rw[h]at d;simp only[aW]at d;have N:Am (pq [1,1,1,0])=true:=by kernel_rfl
 have O:Am (pq [1,1,1,1,0])=true:=by kernel_rfl
 have Q:Am qy=true:=by kernel_rfl
 generalize J:((some (dR.box 26 (gS y.1 y.2.1 y.2.2.1 y.2.2.2.1)),some (dR.box 35 [.sc j1 y.2.2.2.2.1,.sc j1 y.2.2.2.2.2.1,.sc j6 y.2.2.2.2.2.2]),EV.pt 4294967297 0,EV.pt 4294967298 0):GR6)=A at d;unfold px at d;have I:ua T (Sh me a) a (pq [1,1,1,0]) .z (qE n t j r k m q e f g P p) GR6 (kGo λE=>ua T (Sh me a) a (pq [1,1,1,1,0]) .z E GR6 (kGo λE=>ua T (Sh me a) a qy .z E GR6 gK6))=some A:=d;refine TC.Qu u N I λR K G=>TC.Qu u O G λS L H=>(TC.ex u Q H).mono λx s w=>?_;obtain⟨b,rfl,M,c⟩:=w;have v:(x=.normal\/x=.ret)/\(bw b.h 4294967297,bw b.h 4294967298,cN b.t 6,cN b.t 7)=A:=by
  cases x with
  |normal=>exact⟨.inl rfl,aql c⟩
  |ret=>exact⟨.inr rfl,aql c⟩
  |exit i=>cases c
  |goto l=>cases c
  |panic U=>cases c
  |outgrown=>cases c
 obtain⟨w,v⟩:=v;have o:=v.trans J.symm;have B:bw b.h 4294967297=_:=aqr (λz=>z.1) o;have C:bw b.h 4294967298=_:=aqr (λz=>z.2.1) o;have D:cN b.t 6=_:=aqr (λz=>z.2.2.1) o;have F:cN b.t 7=_:=aqr (λz=>z.2.2.2) o;exact⟨w,(cV _ _).trans (by rw[B];rfl),(cV _ _).trans (by rw[C];rfl),(cw _ _).trans (by rw[D];rfl),(cw _ _).trans (by rw[F];rfl),M.trans (L.trans K)⟩
variable{u:Int}{m:Type}
def Fu:Nat:=18446744073709551616
def bH:Fu=18446744073709551616:=rfl
def Hq:maxLen=9223372036854775807:=rfl
def cd{p:Prop} [Decidable p](x y:m):cond (decide p) x y=if p then x else y:=by
 by_cases h:p<;>simp[h]
def FQ{p:Prop} [Decidable p](x y:m):cond (!(decide p)) x y=if p then y else x:=by
 by_cases h:p<;>simp[h]
def cb(b:Bool)(x y:m):cond b x y=if b=true then x else y:=by cases b<;>rfl
def ob{α β:Type}(x:α)(f:α->Option β):aW (some x) f=f x:=rfl
def gG{x:Int}(a: -9223372036854775808<=x)(b:x<=9223372036854775807):wrap .i64 x=x:=by
 simp[wrap,IntKind.bits,IntKind.signed];omega
def cn(h:a<9223372036854775807):wrap .i64 ((a:Int)+1)=((a+1:Nat):Int):=by
 rw[gG (by omega) (by omega)];omega
def wu8(a:0<=g)(b:g<=255):wrap .u8 g=g:=by
 simp[wrap,IntKind.bits,IntKind.signed];omega
def aoN(a:0<=g)(b:g<=4294967295):wrap .u32 g=g:=by
 simp[wrap,IntKind.bits,IntKind.signed];omega
def ba{a:List m}{i:Nat}{x:m}(h:a[i]? =some x):aZ a (i:Int)=some x:=by
 simp[aZ,h]
def ajJ{b:List m}{x:m}(h:b[a]? =some x)(c:g=a):aZ b g=some x:=by
 subst c;exact ba h
def get_at{xs:List m}{i:Nat}(h:i<xs.length):∃x,xs[i]? =some x:=⟨_,aqm h⟩
def Jo{a:List m}(c:0<=g)(h:g<a.length):∃x,a[g.toNat]? =some x/\aZ a g=some x:=by
 obtain⟨x,b⟩:=get_at (xs:=a) (i:=g.toNat) (by omega);exact⟨x,b,ajJ b (by omega)⟩
def cY{b:List m}{x:m}(h:b[a]? =some x):b.drop a=x::b.drop (a+1):=by
 obtain⟨d,c⟩:=aqh.1 h;rw[<-c];exact List.drop_eq_getElem_cons d
def cG{b:List m}{x:m}(h:b[a]? =some x):b.take (a+1)=b.take a++[x]:=by
 rw[List.take_add_one,h];rfl
def Qw{a:List m}(b:0<=g)(c:g<=u)(d:u<=a.length):jf a g u=some ((a.take u.toNat).drop g.toNat):=by
 simp[jf,b,c,d]
def r6{a:List m}(b:0<=g)(c:g<=a.length):jf a 0 g=some (a.take g.toNat):=by
 rw[Qw (by omega) b c];rfl
def r7{a:List m}(b:0<=g)(c:g<=a.length):jf a g ((a.length:Nat):Int)=some (a.drop g.toNat):=by
 rw[Qw b c (by omega)];simp
def ac6(a:List m):KL a 0 ((a.length:Nat):Int) ((a.length:Nat):Int)=some a:=by
 simp[KL]
def cE{b ys:List m}(c:a<=1000)(h:b.length+ys.length<=100000000000):eC a b ys=some (b++ys):=by
 unfold eC;rw[aqd];refine⟨?_,by rw[Hq];omega⟩
 calc (b.length+ys.length)*a<=100000000000*1000:=arO h c
  _<=140737488355328:=by decide
def mf(c:a<=1000)(b:0<=g)(h:g<=100000000000):qI g a=some g.toNat:=by
 unfold qI;rw[aqd];refine⟨b,?_,by rw[Hq];omega⟩
 calc a*g.toNat<=1000*100000000000:=arO c (by omega)
  _<=140737488355328:=by decide
def Jp(h:u≠0):FJ g u=some (g.tmod u):=by simp[FJ,h]
def Qx(h:u≠0):Pq g u=some (g.tdiv u):=by simp[Pq,h]
def yj(a b:Nat):Int.tmod (a:Int) (b:Int)=((a % b:Nat):Int):=by
 rw[Int.tmod_eq_emod_of_nonneg (by omega)];omega
def yk(a b:Nat):Int.tdiv (a:Int) (b:Int)=((a/b:Nat):Int):=by
 rw[Int.tdiv_eq_ediv_of_nonneg (by omega)];omega
variable{t:Int×Int}{e:List (Int×Int)}{c:List (List Int)}{b n:List Int}{j k s:List Nat}{B d o:Nat}{i:Nat->Nat}
def pM:∀(g:List (Int×Int)) (c d v:Int),bC (.i .i64) (dI (.i .i64) g c v) d=if c=d then some v else bC (.i .i64) g d
 |[],c,d,v=>by
  by_cases h:c=d
  ·subst h;simp[dI,bC,iB]
  ·have b:iB (.i .i64) c d=false:=by simp[iB,h]
   simp[dI,bC,b,h]
 |(x,y)::g,c,d,v=>by
  rw[dI];by_cases h:x=c
  ·subst h
   by_cases a:x=d
   ·subst a;simp[iB,bC]
   ·have b:iB (.i .i64) x d=false:=by simp[iB,a]
    have f:iB (.i .i64) x x=true:=by simp[iB]
    simp[bC,b,f,a]
  ·have b:iB (.i .i64) x c=false:=by simp[iB,h]
   simp only[b,aqi,bC];by_cases a:x=d
   ·subst a
    have f:iB (.i .i64) x x=true:=by simp[iB]
    rw[f,aqc (λe=>h e.symm)];rfl
   ·have f:iB (.i .i64) x d=false:=by simp[iB,a]
    rw[f];simp only[aqi];exact pM g c d v
def yl:∀(a:List (Int×Int)) (c v:Int),(dI (.i .i64) a c v).length=a.length+if(bC (.i .i64) a c).isSome then 0 else 1
 |[],c,v=>by simp[dI,bC]
 |(x,y)::a,c,v=>by
  rw[dI,bC];by_cases h:x=c
  ·subst h
   have d:iB (.i .i64) x x=true:=by simp[iB]
   simp[d]
  ·have b:iB (.i .i64) x c=false:=by simp[iB,h]
   simp only[b,aqi,aqC,yl a c v];omega
def Hr(N:Nat)(a b:List Int)(g:a.length=b.length)(j:a.length<=9223372036854775807):∀(k i m:Nat),i+k=a.length->k<m->
 yf N m (a,b,(i:Int))=some (if a.drop i=b.drop i then .inl ()else .inr false)
 |k,i,0,c,d=>by omega
 |0,i,m+1,c,d=>by
  rw[Ex,dN (by omega),arb (by omega),arb (by omega),aqd rfl]
 |k+1,i,m+1,c,d=>by
  obtain⟨x,e⟩:=get_at (xs:=a) (i:=i) (by omega);obtain⟨y,f⟩:=get_at (xs:=b) (i:=i) (by omega);rw[Ex,dV (by omega),ba e,ob,ba f,ob,FQ,cn (by omega),Hr N a b g j k (i+1) m (by omega) (by omega),cY e,cY f];by_cases h:x=y
  ·simp[h]
  ·simp[h]
def agc(N:Nat)(f:Fu+1<=N)(a b:List Int)(d:a.length<=9223372036854775807):Jk N (a,b)=some (decide (a=b)):=by
 obtain⟨N,rfl⟩:∃n,N=n+1:=⟨N - 1,by omega⟩;rw[Yc,FQ];by_cases c:a.length=b.length
 ·rw[aqd (by omega),show((0:Int)=((0:Nat):Int))from rfl,Hr N a b c d a.length 0 N (by omega) (by have:=bH;omega),ob,aq3,aq3]
  by_cases h:a=b<;>simp[h]
 ·rw[aqc (by omega)]
  have:¬a=b:=λe=>c (by rw[e]);simp[this]
def Bz(l:List Int):Prop:=∀t∈l,0<=t/\t<=10000
def eR(l:List Int):Prop:=l.length<=1000/\Bz l/\l.Nodup
instance(l:List Int):Decidable (Bz l):=by unfold Bz;exact inferInstance
instance(l:List Int):Decidable (eR l):=by unfold eR;exact inferInstance
def agd(N:Nat)(a:Fu<=N)(t:Int):SD N t=some (decide (¬(0<=t/\t<=10000))):=by
 obtain⟨N,rfl⟩:∃n,N=n+1:=⟨N - 1,by have:=bH;omega⟩;rw[aaJ,cd];by_cases h:t<0
 ·rw[aqd h]
  have:¬(0<=t/\t<=10000):=by omega
  simp[this]
 ·rw[aqc h]
  congr 1;simp only[arP];omega
def Hs(N:Nat)(f:Fu<=N)(l:List Int)(n:l.length<=9223372036854775807):∀(k i m:Nat),i+k=l.length->k<m->
 ∃j:Nat,BU N m (l,((l.length:Nat):Int),(i:Int))=some (if Bz (l.drop i)then .inl ()else .inr (j:Int))
 |k,i,0,c,d=>by omega
 |0,i,m+1,c,d=>by
  refine⟨0,?_⟩;rw[Gu,dN (by omega),arb (by omega),aqd (by intro t h;cases h)]
 |k+1,i,m+1,c,d=>by
  obtain⟨x,g⟩:=get_at (xs:=l) (i:=i) (by omega);obtain⟨j,o⟩:=Hs N f l n k (i+1) m (by omega) (by omega);rw[Gu,dV (by omega),ba g,ob,agd N f x,ob,cd,cn (by omega),o,cY g];by_cases h:0<=x/\x<=10000
  ·refine⟨j,?_⟩
   rw[aqc (λe=>e h)];have:Bz (x::l.drop (i+1))↔Bz (l.drop (i+1)):=⟨λe t a=>e t (by simp[a]),λe t a=>by
    rcases aqG.1 a with rfl|a
    ·exact h
    ·exact e t a⟩
   by_cases b:Bz (l.drop (i+1))
   ·rw[aqd b,aqd (this.2 b)]
   ·rw[aqc b,aqc (λe=>b (this.1 e))]
  ·refine⟨i,?_⟩
   rw[aqd h,aqc (λe=>h (e x (by simp)))]
def age(N:Nat)(c:Fu+2<=N)(l:List Int)(b:l.length<=9223372036854775807):SH N l=some (!decide (Bz l)):=by
 obtain⟨N,rfl⟩:∃n,N=n+2:=⟨N - 2,by omega⟩;rw[aaM,aaL];obtain⟨j,h⟩:=Hs N (by omega) l b l.length 0 N (by omega) (by have:=bH;omega);rw[show((0:Int)=((0:Nat):Int))from rfl,h,aq3];by_cases a:Bz l<;>simp[ob,a]
structure Met(l:List Int)(met:List (Int×Int)):Prop where
 mem:∀c,(bC (.i .i64) met c).isSome=decide (c∈l)
 le:met.length<=l.length
 eq:met.length=l.length↔l.Nodup
def agf:Met [] []:=⟨λc=>rfl,by simp,by simp⟩
def agh(h:Met b e)(x v:Int):Met (b++[x]) (dI (.i .i64) e x v):=by
 refine⟨λc=>?_,?_,?_⟩
 ·rw[pM]
  by_cases i:x=c
  ·subst i;simp
  ·rw[aqc i,h.mem c]
   have m:¬c=x:=λd=>i d.symm;simp[m]
 ·rw[yl]
  have:=h.le;simp only[aqy,aso];split<;>omega
 ·rw[yl,h.mem x]
  have n:=h.le;have j:=h.eq;simp only[aqy,aso];by_cases g:x∈b
  ·simp only[g,arp,aqP]
   constructor
   ·intro d;omega
   ·intro d
    rw[aq8]at d;exact absurd rfl (d.2.2 x g x (by simp))
  ·simp only[g,decide_false,arS,aq_]
   constructor
   ·intro d
    rw[aq8];refine⟨j.1 (by omega),by simp,λa l f k=>?_⟩;simp at k;subst k;rintro rfl;exact g l
   ·intro d
    rw[aq8]at d;have:=j.2 d.1;omega
def Ht(N:Nat)(l c:List Int)(h:l.length<=9223372036854775807):∀(k i m:Nat) (a:List (Int×Int)),i+k=l.length->k<m->Met (l.take i) a->
 ∃g,BV N m (c,l,((l.length:Nat):Int),(i:Int),a)=some (c,g)/\Met l g
 |k,i,0,a,d,e,b=>by omega
 |0,i,m+1,a,d,e,b=>by
  rw[Gv,dN (by omega)];rw[aqQ (by omega)]at b;exact⟨a,rfl,b⟩
 |k+1,i,m+1,a,d,e,b=>by
  obtain⟨x,f⟩:=get_at (xs:=l) (i:=i) (by omega);rw[Gv,dV (by omega),ba f,ob,cn (by omega)];refine Ht N l c h k (i+1) m _ (by omega) (by omega) ?_;rw[cG f];exact agh b x _
def Jq(N:Nat)(d:Fu+1<=N)(l:List Int)(c:l.length<=9223372036854775807):SL N l=some (decide l.Nodup):=by
 obtain⟨N,rfl⟩:∃n,N=n+1:=⟨N - 1,by omega⟩;obtain⟨f,a,b⟩:=Ht N l l c l.length 0 N [] (by omega) (by have:=bH;omega) agf;rw[aaN,show((0:Int)=((0:Nat):Int))from rfl,a,ob];congr 1;rw[arP];have:=b.eq;constructor
 ·intro e;simp only at e;exact this.1 (by omega)
 ·intro e;have:=this.2 e;simp only;omega
def Jr(N:Nat)(e:Fu+3<=N)(l:List Int)(c:l.length<=9223372036854775807):zw N l=some (decide (eR l)):=by
 obtain⟨N,rfl⟩:∃n,N=n+1:=⟨N - 1,by omega⟩;rw[Xc,cd];by_cases d:1000<l.length
 ·rw[aqd (by omega)]
  have:¬eR l:=λh=>by have:=h.1;omega
  simp[this]
 rw[aqc (by omega),age N (by omega) l c,ob,Jq N (by omega) l c];by_cases a:Bz l
 ·by_cases b:l.Nodup
  ·have:eR l:=⟨by omega,a,b⟩
   simp[a,b,this,ob]
  ·have:¬eR l:=λh=>b h.2.2
   simp[a,b,this,ob]
 ·have:¬eR l:=λh=>a h.2.1
  simp[a,this,ob]
def amK(l:List Int):Prop:=Bz l/\l.Nodup
instance(l:List Int):Decidable (amK l):=by unfold amK;exact inferInstance
def ix:List Int->Int->Nat
 |[],_=>0
 |x::l,v=>if x=v then 0 else ix l v+1
def BA(l:List Int)(p:Nat):List Int:=l.drop p++l.take p
def dU(l:List Int)(v:Int):List Int:=BA l (ix l v)
def ac7:∀{l:List Int} {v:Int},v∈l->ix l v<l.length
 |x::l,v,h=>by
  rw[ix];by_cases c:x=v
  ·rw[aqd c];simp
  ·rw[aqc c]
   have:=ac7 (l:=l) (v:=v) ((aqG.1 h).resolve_left λe=>c e.symm);simp;omega
def Vw:∀{a:List Int} (b:List Int) {v:Int},v∉a->ix (a++b) v=a.length+ix b v
 |[],b,v,h=>by simp
 |x::a,b,v,h=>by
  rw[arw,ix,aqc (λe=>h (by simp[e])),Vw b (λe=>h (by simp[e]))];simp;omega
def ajK{v:Int}(h:v∉b):ix (b++v::n) v=b.length:=by
 rw[Vw _ h,ix,aqd rfl,arG]
def ym:∀{l:List Int} {v:Int},v∈l->∃u t,l=u++v::t/\v∉u/\ix l v=u.length
 |x::l,v,h=>by
  by_cases c:x=v
  ·exact⟨[],l,by rw[c];rfl,by simp,by rw[ix,aqd c];rfl⟩
  ·obtain⟨u,t,a,b,d⟩:=ym ((aqG.1 h).resolve_left λe=>c e.symm)
   exact⟨x::u,t,by rw[a];rfl,by simp[b,show¬v=x fromλe=>c e.symm],by rw[ix,aqc c,d];rfl⟩
def ahI:∀{l:List Int},l.Nodup->∀{i:Nat} {v:Int},l[i]? =some v->ix l v=i
 |[],_,i,v,h=>by simp at h
 |x::l,a,0,v,h=>by
  simp at h;rw[ix,aqd h]
 |x::l,a,i+1,v,h=>by
  have b:v∈l:=aqw (by simpa using h);rw[ix,aqc (λe:x=v=>(ars.1 a).1 (by rw[e];exact b)),ahI (ars.1 a).2 (by simpa using h)]
def Js(l:List Int)(p:Nat):(BA l p).length=l.length:=by simp[BA];omega
def yn(l:List Int)(p:Nat):(BA l p).Perm l:=by
 unfold BA;have:= @ats Int (l.drop p) (l.take p);rwa[ar7]at this
def Vx:g∈BA b a↔g∈b:=(yn b a).mem_iff
def Yg:(BA b a).Nodup↔b.Nodup:=(yn b a).nodup_iff
def NP:eR (BA b a)↔eR b:=by
 unfold eR Bz;rw[Js,Yg];simp only[Vx]
def agi(A B:List Int):BA (A++B) A.length=B++A:=by simp[BA]
def oy{u t:List Int}{v:Int}(h:v∉u):dU (u++v::t) v=v::t++u:=by
 rw[dU,ajK h,agi]
def Qy{A B:List Int}{v:Int}(e:(A++B).Nodup)(f:v∈A++B):dU (A++B) v=dU (B++A) v:=by
 have d:=aq8.1 e;by_cases h:v∈A
 ·obtain⟨u,t,rfl,a,_⟩:=ym h
  have b:v∉B:=λc=>d.2.2 v h v c rfl;rw[show u++v::t++B=u++v::(t++B) by simp,oy a,show B++(u++v::t)=(B++u)++v::t by simp,oy (by simp[a,b])];simp
 ·have b:v∈B:=by simpa[h]using f
  obtain⟨u,t,rfl,a,_⟩:=ym b;rw[show A++(u++v::t)=(A++u)++v::t by simp,oy (by simp[a,h]),show u++v::t++A=u++v::(t++A) by simp,oy a];simp
def Yh{l:List Int}(b:l.Nodup)(c:g∈l):dU (BA l a) g=dU l g:=by
 have e:l=l.take a++l.drop a:=(ar7 a l).symm;unfold BA;rw[<-Qy (by rw[<-e];exact b) (by rw[<-e];exact c),<-e]
def Qz:eR (dU b g)↔eR b:=NP
def Hu(l:List Int)(v:Int):(dU l v).length=l.length:=Js _ _
def Hv:u∈dU b g↔u∈b:=Vx
def r8(h:g∈b):(dU b g)[0]? =some g:=by
 obtain⟨u,t,rfl,a,_⟩:=ym h;rw[oy a];rfl
def mC:List Int->Int
 |[]=>0
 |[x]=>x
 |x::y::l=>if x<=mC (y::l)then x else mC (y::l)
def mT:∀{l:List Int},l≠[]->mC l∈l/\∀y∈l,mC l<=y
 |[],h=>absurd rfl h
 |[x],_=>by simp[mC]
 |x::y::l,_=>by
  obtain⟨d,b⟩:=mT (l:=y::l) (by simp);rw[mC];by_cases c:x<=mC (y::l)
  ·rw[aqd c]
   refine⟨by simp,λz a=>?_⟩;rcases aqG.1 a with rfl|a
   ·exact asR _
   ·exact Int.le_trans c (b z a)
  ·rw[aqc c]
   refine⟨ari _ d,λz a=>?_⟩;rcases aqG.1 a with rfl|a
   ·omega
   ·exact b z a
def zL(a:g∈b)(c:∀y∈b,g<=y):mC b=g:=by
 obtain⟨d,e⟩:=mT (List.ne_nil_of_mem a);exact Int.le_antisymm (e g a) (c _ d)
def Yi(h:b.Perm n):mC b=mC n:=by
 by_cases c:n=[]
 ·subst c;rw[h.eq_nil]
 ·obtain⟨a,d⟩:=mT c
  exact zL (h.mem_iff.2 a) λy e=>d y (h.mem_iff.1 e)
def cZ(l:List Int):List Int:=if eR l/\l≠[]then dU l (mC l)else []
def fE(h:eR b)(a:b≠[]):cZ b=dU b (mC b):=aqd ⟨h,a⟩
def Yj(h:eR b):cZ (BA b a)=cZ b:=by
 by_cases c:b=[]
 ·subst c;simp[BA]
 ·have d:BA b a≠[]:=λe=>c (by have:=Js b a;rw[e]at this;exact arh this.symm)
  rw[fE h c,fE (NP.2 h) d,Yi (yn b a),Yh h.2.2 (mT c).1]
def NQ(h:eR b):cZ (cZ b)=cZ b:=by
 by_cases c:b=[]
 ·subst c;rfl
 ·rw[fE h c]
  exact(Yj h).trans (fE h c)
def QA(h:eR b):eR (cZ b):=by
 by_cases c:b=[]
 ·subst c;simpa[cZ]using h
 ·rw[fE h c];exact Qz.2 h
def Jt(l:List Int)(x:Int):Bool×List Int:=if eR l/\x∈l then(true,dU l x)else(false,[])
def ixI(l:List Int)(v:Int):Int:=if v∈l then(ix l v:Int)else -1
def Cr(h:g∈b):ixI b g=(ix b g:Int):=aqd h
def Ju(h:g∉b):ixI b g= -1:=aqc h
def ac8:(0<=ixI b g)↔g∈b:=by
 by_cases h:g∈b
 ·rw[Cr h];simp[h]
 ·rw[Ju h];simp[h]
def Ey(N:Nat)(l:List Int)(v:Int)(f:l.length<=9223372036854775807):∀(k i m:Nat),i+k=l.length->k<m->
 BY N m (l,v,((l.length:Nat):Int),(i:Int))=some (if v∈l.drop i then .inr ((i+ix (l.drop i) v:Nat):Int)else .inl ())
 |k,i,0,b,a=>by omega
 |0,i,m+1,b,a=>by
  rw[GB,dN (by omega),arb (by omega)];simp
 |k+1,i,m+1,b,a=>by
  obtain⟨x,c⟩:=get_at (xs:=l) (i:=i) (by omega);rw[GB,dV (by omega),ba c,ob,cd,cn (by omega),cY c];by_cases h:v=x
  ·subst h
   rw[aqd rfl,aqd (by simp),ix,aqd rfl];rfl
  ·have d:ix (x::l.drop (i+1)) v=ix (l.drop (i+1)) v+1:=by rw[ix,aqc (λe:x=v=>h e.symm)]
   rw[aqc h,Ey N l v f k (i+1) m (by omega) (by omega),d];by_cases a:v∈l.drop (i+1)
   ·rw[aqd a,aqd (by simp[a])];congr 3;omega
   ·rw[aqc a,aqc (by simp[h,a])]
def Ez(N:Nat)(b:Fu+1<=N)(l:List Int)(v:Int)(a:l.length<=9223372036854775807):GA N (l,v)=some (ixI l v):=by
 obtain⟨N,rfl⟩:∃n,N=n+1:=⟨N - 1,by omega⟩;have h:=Ey N l v a l.length 0 N (by omega) (by have:=bH;omega);rw[aq3,aqN]at h;rw[aaW,show((0:Int)=((0:Nat):Int))from rfl,h,ob,ixI];by_cases c:v∈l
 ·rw[aqd c,aqd c]
 ·rw[aqc c,aqc c]
def has_eq(N:Nat)(b:Fu+2<=N)(l:List Int)(v:Int)(a:l.length<=9223372036854775807):DE N (l,v)=some (decide (v∈l)):=by
 obtain⟨N,rfl⟩:∃n,N=n+1:=⟨N - 1,by omega⟩;rw[aaX,Ez N (by omega) l v a,ob];congr 1;exact arP.2 ac8
def NR(N:Nat)(l:List Int)(o:l.length<=1000):∀(k i m:Nat) (a:Int),i+k=l.length->k<m->a∈l->(∀(j:Nat) y,j<i->l[j]? =some y->a<=y)->
 BW N m (l,a,(i:Int))=some (mC l)
 |k,i,0,a,h,n,c,d=>by omega
 |0,i,m+1,a,h,n,c,d=>by
  rw[Gw,dN (by omega)];congr 1;refine(zL c λy b=>?_).symm;obtain⟨j,f⟩:=atU b;exact d j y (by have:=(aqh.1 f).1;omega) f
 |k+1,i,m+1,a,h,n,c,d=>by
  obtain⟨x,g⟩:=get_at (xs:=l) (i:=i) (by omega);rw[Gw,dV (by omega),ba g,ob,cn (by omega)];refine NR N l o k (i+1) m _ (by omega) (by omega) ?_ λj y f b=>?_
  ·split
   ·exact aqw g
   ·exact c
  ·by_cases e:j=i
   ·subst e
    rw[g]at b;cases b;split<;>omega
   ·have:=d j y (by omega) b
    split<;>omega
def min_eq(N:Nat)(f:Fu+1<=N)(l:List Int)(d:l.length<=1000)(c:l≠[]):LG N l=some (mC l):=by
 obtain⟨N,rfl⟩:∃n,N=n+1:=⟨N - 1,by omega⟩;have e:=ar0.2 c;obtain⟨x,a⟩:=get_at (xs:=l) (i:=0) e;rw[aaO,dN (by omega),show((0:Int)=((0:Nat):Int))from rfl,ba a,ob,show((1:Int)=((1:Nat):Int))from rfl,NR N l d (l.length - 1) 1 N x (by omega) (by have:=bH;omega) (aqw a) (λj y g b=>by
  have:j=0:=by omega
  subst this;rw[a]at b;cases b;exact asR _),ob]
structure Cl(n:Nat)(l:List (Nat×Nat))(c:Nat->Nat):Prop where
 le:∀v,v<n->c v<=v
 fix:∀v,v<n->c (c v)=c v
 ed:∀e∈l,c e.1=c e.2
 uni:∀f:Nat->Nat,(∀e∈l,f e.1=f e.2)->∀v,v<n->f (c v)=f v
def jn(c:Nat->Nat)(u v:Nat):Nat->Nat:=λx=>if c x=max (c u) (c v)then min (c u) (c v)else c x
def agk(h:i a=i d):jn i a d=i:=by
 funext x;unfold jn;rw[h];split
 ·rename_i b;omega
 ·rfl
def Cl.jn{n:Nat}{l:List (Nat×Nat)}{c:Nat->Nat}(h:Cl n l c){u v:Nat}(i:u<n)(j:v<n):Cl n (l++[(u,v)]) (jn c u v):=by
 have p:=h.fix u i;have r:=h.fix v j;have o:c (min (c u) (c v))=min (c u) (c v):=by
  rcases att (c u) (c v)with q|q
  ·rw[arB q];exact p
  ·rw[atu q];exact r
 refine⟨λx d=>?_,λx d=>?_,λe a=>?_,λf k x d=>?_⟩
 ·have:=h.le x d
  unfold Proofs.YtmdbmigbihboaaaGreatDoor.jn;split<;>omega
 ·have:=h.fix x d
  by_cases q:c x=max (c u) (c v)
  ·have g:Proofs.YtmdbmigbihboaaaGreatDoor.jn c u v x=min (c u) (c v):=aqd q
   rw[g];unfold Proofs.YtmdbmigbihboaaaGreatDoor.jn;rw[o];split<;>rfl
  ·have g:Proofs.YtmdbmigbihboaaaGreatDoor.jn c u v x=c x:=aqc q
   rw[g];unfold Proofs.YtmdbmigbihboaaaGreatDoor.jn;rw[this,aqc q]
 ·rcases aqp.1 a with a|a
  ·unfold Proofs.YtmdbmigbihboaaaGreatDoor.jn;rw[h.ed e a]
  ·simp only[aqB]at a
   subst a;have:∀y,(c y=c u\/c y=c v)->Proofs.YtmdbmigbihboaaaGreatDoor.jn c u v y=min (c u) (c v):=λy t=>by
    unfold Proofs.YtmdbmigbihboaaaGreatDoor.jn;split
    ·rfl
    ·omega
   rw[this u (.inl rfl),this v (.inr rfl)]
 ·have b:=h.uni f (λe a=>k e (by simp[a]))
  have m:f u=f v:=k (u,v) (by simp);have s:f (min (c u) (c v))=f (max (c u) (c v)):=by
   rcases att (c u) (c v)with q|q
   ·rw[arB q,auJ q,b u i,b v j,m]
   ·rw[atu q,auK q,b u i,b v j,m]
  unfold Proofs.YtmdbmigbihboaaaGreatDoor.jn;split
  ·rename_i q;rw[s,<-q,b x d]
  ·exact b x d
def cnt(n:Nat)(c:Nat->Nat):Nat:=((List.range n).filter λv=>c v==v).length
def Fy(l:List (Nat×Nat)):Nat->Nat:=l.foldl (λc e=>jn c e.1 e.2) id
def NS(l:List (Nat×Nat))(e:Nat×Nat):Fy (l++[e])=jn (Fy l) e.1 e.2:=by simp[Fy]
def Jv(n:Nat)(l:List (Nat×Nat)):Prop:=∀e∈l,e.1<n/\e.2<n
def ac9(l:List (Nat×Nat))(e:Nat×Nat):Bool:=Fy l e.1 !=Fy l e.2
def je(p:List (Nat×Nat)):List (Nat×Nat)->List Bool
 |[]=>[]
 |e::l=>ac9 p e::je (p++[e]) l
def rtf(p:Nat->Nat):Nat->Nat->Nat
 |0,v=>v
 |k+1,v=>if p v=v then v else rtf p k (p v)
def root(p:Nat->Nat)(v:Nat):Nat:=rtf p v v
def pN{p:Nat->Nat}(a:∀v,p v<=v):∀(k v:Nat),v<=k->rtf p k v=root p v
 |0,v,h=>by
  have:v=0:=by omega
  subst this;rfl
 |k+1,v,h=>by
  unfold root;cases v with
  |zero=>
   have:p 0=0:=by have:=a 0;omega
   simp only[rtf,aqd this]
  |succ v=>
   rw[rtf,rtf];by_cases c:p (v+1)=v+1
   ·rw[aqd c,aqd c]
   ·have b:=a (v+1)
    rw[aqc c,aqc c,pN a k _ (by omega),pN a v _ (by omega)]
def gI(a:∀v,i v<=v)(v:Nat):root i v=if i v=v then v else root i (i v):=by
 rw[<-pN a (v+1) v (by omega),rtf];split
 ·rfl
 ·rename_i c
  have b:=a v;exact pN a v _ (by omega)
def r9(a:∀v,i v<=v)(v:Nat):root i (i v)=root i v:=by
 rw[gI a v];split
 ·rename_i c;rw[c,gI a v,aqd c]
 ·rfl
def yo(a:∀v,i v<=v):∀v,i (root i v)=root i v:=λv=>by
 induction v using Nat.strongRecOn with
 |_ v b=>
  rw[gI a v];split
  ·assumption
  ·rename_i c
   have d:=a v;exact b _ (by omega)
def yp(a:∀v,i v<=v):∀v,root i v<=v:=λv=>by
 induction v using Nat.strongRecOn with
 |_ v b=>
  rw[gI a v];have d:=a v;split
  ·exact aqf _
  ·rename_i c
   have:=b (i v) (by omega);omega
def jZ(b:∀a,i a<=a)(h:i a=a):root i a=a:=by rw[gI b,aqd h]
def cz(p:Nat->Nat)(a b:Nat):Nat->Nat:=λx=>if x=a then b else p x
def Yk(a:∀v,i v<=v)(v x:Nat):root (cz i v (i (i v))) x=root i x:=by
 have g:∀y,cz i v (i (i v)) y<=y:=λy=>by
  unfold cz;split
  ·rename_i c;subst c;exact aq9 (a _) (a _)
  ·exact a y
 induction x using Nat.strongRecOn with
 |_ x d=>
  rw[gI g x];by_cases c:x=v
  ·subst c
   have e:cz i x (i (i x)) x=i (i x):=aqd rfl;rw[e];split
   ·rename_i c
    have b:=a x;have f:=a (i x);exact(jZ a (by omega)).symm
   ·rename_i c
    have b:=a x;have f:=a (i x);rw[d _ (by omega),r9 a,r9 a]
  ·have e:cz i v (i (i v)) x=i x:=aqc c
   rw[e,gI a x];split
   ·rfl
   ·have b:=a x
    exact d _ (by omega)
def Yl(b:∀v,i v<=v)(k:i a=a)(h:i d=d)(j:a<=d)(x:Nat):root (cz i d a) x=if root i x=d then a else root i x:=by
 have f:∀y,cz i d a y<=y:=λy=>by
  unfold cz;split
  ·rename_i c;subst c;exact j
  ·exact b y
 induction x using Nat.strongRecOn with
 |_ x l=>
  rw[gI f x];by_cases c:x=d
  ·subst c
   have e:cz i x a x=a:=aqd rfl;rw[e,jZ b h,aqd rfl];split
   ·rename_i c;exact c.symm
   ·rename_i c
    refine jZ f ?_;unfold cz;rw[aqc c,k]
  ·have e:cz i d a x=i x:=aqc c
   rw[e];split
   ·rename_i g
    rw[jZ b g,aqc c]
   ·have m:=b x
    rw[l _ (by omega),r9 b]
def par(s:List Int)(v:Nat):Nat:=(s.getD v 0).toNat
structure Hw(n:Nat)(s:List Int)(c:Nat->Nat):Prop where
 len:s.length=n
 at_:∀i,i<n->∃w:Nat,s[i]? =some (w:Int)/\w<=i
 cls:∀x,x<n->root (par s) x=c x
def Hw.QB(h:Hw a b i)(v:Nat):par b v<=v:=by
 unfold par;by_cases d:v<a
 ·obtain⟨w,c,e⟩:=h.at_ v d
  simp only[arI,c,Option.getD_some];omega
 ·rw[arI,aq1 (by have:=h.len;omega)];simp
def Hw.nth(h:Hw a b i)(e:d<a):aZ b (d:Int)=some ((par b d:Nat):Int):=by
 obtain⟨w,c,f⟩:=h.at_ d e;rw[ba c];unfold par;simp[arI,c]
def Jw(f:a<b.length):par (b.set a (d:Int))=cz (par b) a d:=by
 funext x;unfold par cz;simp only[arI,arf];by_cases c:a=x
 ·subst c;simp[f]
 ·rw[aqc c,aqc (λe=>c e.symm)]
def Hw.set{c c':Nat->Nat}(h:Hw a b c){v w:Nat}(d:v<a)(g:w<=v)(e:∀x,x<a->root (cz (par b) v w) x=c' x):Hw a (b.set v (w:Int)) c':=by
 refine⟨by rw[arE];exact h.len,λi f=>?_,λx j=>by rw[Jw (by rw[h.len];exact d)];exact e x j⟩;rw[arf];by_cases q:v=i
 ·subst q
  rw[aqd rfl,aqd (by rw[h.len];exact d)];exact⟨w,rfl,g⟩
 ·rw[aqc q]
  exact h.at_ i f
def EA(N:Nat){n:Nat}:∀(m v:Nat) (s:List Int) {c:Nat->Nat},v<m->v<n->Hw n s c->
 ∃f,Cg N m ((v:Int),s)=some (((c v:Nat):Int),f)/\Hw n f c/\∀j,j<n->par s j=c j->par f j=c j
 |0,v,s,c,h,_,_=>absurd h (by omega)
 |m+1,v,s,c,w,d,a=>by
  rw[X1];simp only[a.nth d,ob,FQ];have b:=a.QB;have z:=b v;by_cases q:((par s v:Nat):Int)=(v:Int)
  ·rw[aqd q]
   have l:par s v=v:=by omega
   refine⟨s,?_,a,λj _ h=>h⟩;rw[<-a.cls v d,jZ b l]
  ·rw[aqc q]
   have l:¬par s v=v:=λe=>q (by rw[e]);have y:=b (par s v);simp only[a.nth (show par s v<n by omega),ob,aqo];have k:Hw n (s.set v ((par s (par s v):Nat):Int)) c:=a.set d (by omega) λx u=>by rw[Yk b,a.cls x u]
   have g:par (s.set v ((par s (par s v):Nat):Int))=cz (par s) v (par s (par s v)):=Jw (by rw[a.len];exact d);have o:par (s.set v ((par s (par s v):Nat):Int)) v=par s (par s v):=by rw[g];exact aqd rfl
   simp only[k.nth d,ob,o];obtain⟨f,p,r,t⟩:=EA N m (par s (par s v)) _ (by omega) (by omega) k;refine⟨f,?_,r,λj i h=>t j i ?_⟩
   ·rw[p]
    have:c (par s (par s v))=c v:=by rw[<-a.cls _ (by omega),r9 b,r9 b,a.cls _ d]
    rw[this]
   ·rw[g]
    unfold cz;split
    ·rename_i e
     subst e;rw[h,<-a.cls j i,yo b]
    ·exact h
def EB{N:Nat}(h:Fu+1<=N)(m:a<=1000)(l:d<a)(k:Hw a b i):∃c,Hc N ((d:Int),b)=some (((i d:Nat):Int),c)/\Hw a c i/\∀j,j<a->par b j=i j->par c j=i j:=by
 obtain⟨M,rfl⟩:∃M,N=M+1:=⟨N - 1,by omega⟩;obtain⟨c,e,f,g⟩:=EA M M d b (by rw[bH]at h;omega) l k;exact⟨c,by rw[aci,e];rfl,f,g⟩
def join_eq(E:Fu+2<=a)(n:d<=1000)(g:o<d)(h:B<d)(y:Hw d b i):
 ∃p,UQ a ((o:Int),(B:Int),b)=some (i o !=i B,p)/\Hw d p (jn i o B):=by
 obtain⟨M,rfl⟩:∃M,a=M+1:=⟨a - 1,by omega⟩;obtain⟨F,s,A,_⟩:=EB (N:=M) (by omega) n g y;obtain⟨f,t,c,_⟩:=EB (N:=M) (by omega) n h A;have e:=c.QB;have C:i o<=o:=by rw[<-c.cls o g];exact yp e o
 have D:i B<=B:=by rw[<-c.cls B h];exact yp e B
 have j:par f (i o)=i o:=by rw[<-c.cls o g];exact yo e o
 have l:par f (i B)=i B:=by rw[<-c.cls B h];exact yo e B
 have r:(if((i B:Nat):Int)>((i o:Nat):Int)then((i B:Nat):Int)else((i o:Nat):Int))=((max (i o) (i B):Nat):Int):=by
  split<;>omega
 have em:(if((i B:Nat):Int)<((i o:Nat):Int)then((i B:Nat):Int)else((i o:Nat):Int))=((min (i o) (i B):Nat):Int):=by
  split<;>omega
 have m:max (i o) (i B)<d:=by omega
 rw[acj];simp only[s,t,ob,r,em,c.nth m,aqo];refine⟨_,?_,c.set (w:=min (i o) (i B)) m (by omega) (c':=jn i o B) λx z=>?_⟩
 ·congr 2
  by_cases q:i o=i B
  ·simp[q]
  ·have:¬((i o:Nat):Int)=((i B:Nat):Int):=by omega
   simp[q,this]
 ·have u:par f (max (i o) (i B))=max (i o) (i B):=by
   rcases att (i o) (i B)with k|k
   ·rw[auJ k];exact l
   ·rw[auK k];exact j
  have v:par f (min (i o) (i B))=min (i o) (i B):=by
   rcases att (i o) (i B)with k|k
   ·rw[arB k];exact j
   ·rw[atu k];exact l
  rw[Yl e v u (by omega),c.cls x z];rfl
def EC(N:Nat){n:Nat}(e:n<=1000):∀(m i:Nat) (s:List Int),n - i<m->i<=n->s.length=n->(∀j,j<i->s[j]? =some (j:Int))->
 ∃a,xX N m ((n:Int),(i:Int),s)=some a/\a.length=n/\∀j,j<n->a[j]? =some (j:Int)
 |0,i,s,h,_,_,_=>absurd h (by omega)
 |m+1,i,s,l,g,b,c=>by
  rw[Qq,cd];by_cases q:i<n
  ·rw[aqd (by omega)]
   obtain⟨x,f⟩:=get_at (xs:=s) (i:=i) (by omega);simp only[ba f,ob,cn (show i<9223372036854775807 by omega),aqo];refine EC N e m (i+1) _ (by omega) (by omega) (by rw[arE];exact b) λj d=>?_;rw[arf];by_cases k:i=j
   ·subst k;rw[aqd rfl,aqd (by omega)]
   ·rw[aqc k];exact c j (by omega)
  ·rw[aqc (by omega)]
   exact⟨s,rfl,b,λj d=>c j (by omega)⟩
def NT{N:Nat}(d:Fu+1<=N){n:Nat}(f:n<=1000):∃s,Eh N (n:Int)=some s/\Hw n s id:=by
 obtain⟨N,rfl⟩:∃M,N=M+1:=⟨N - 1,by omega⟩;rw[X0,mf (by omega) (by omega) (by omega),ob];simp only[aqo,atn];obtain⟨s,b,c,a⟩:=EC N f N 0 (List.replicate n 0) (by rw[bH]at d;omega) (by omega) (by simp) (λj l=>by omega);refine⟨s,?_,c,λi e=>⟨i,a i e,aqf _⟩,λx k=>?_⟩
 ·rw[show((0:Nat):Int)=0 from rfl]at b
  rw[b];rfl
 ·have g:∀v,par s v<=v:=λv=>by
   unfold par;by_cases h:v<n
   ·simp[arI,a v h]
   ·rw[arI,aq1 (by omega)];simp
  refine jZ g ?_;unfold par;simp[arI,a x k]
def Vy(e:Nat×Nat):Int×Int:=((e.1:Int),(e.2:Int))
def r_(e:Int×Int):Nat×Nat:=(e.1.toNat,e.2.toNat)
def lI(n:Int)(e:Int×Int):Prop:=(0<=e.1/\e.1<n)/\0<=e.2/\e.2<n
instance(n:Int)(e:Int×Int):Decidable (lI n e):=inferInstanceAs (Decidable (_/\_))
def ahJ(h:lI g t):Vy (r_ t)=t:=by
 obtain⟨a,b⟩:=t;have c:=h.1.1;have d:=h.2.1;simp only at c d;exact atl (atE c) (atE d)
def lI.nat(h:lI (a:Int) t):(r_ t).1<a/\(r_ t).2<a:=by
 have b:=h.1;have c:=h.2;exact⟨by unfold r_;omega,by unfold r_;omega⟩
def ED(N:Nat)(d:Fu+2<=N){n:Nat}(e:n<=1000){l:List (Nat×Nat)}(t:l.length<=100000)(c:Jv n l):∀(m i:Nat) (s:List Int) (a:List Bool),l.length - i<m->i<=l.length->a.length=i->Hw n s (Fy (l.take i))->
 ∃k,Ch N m (l.map Vy,(l.length:Int),(i:Int),s,a)=some (a++je (l.take i) (l.drop i),k)/\Hw n k (Fy l)
 |0,i,s,a,h,_,_,_=>absurd h (by omega)
 |m+1,i,s,a,B,A,u,f=>by
  rw[X2,cd];by_cases q:i<l.length
  ·rw[aqd (by omega)]
   obtain⟨x,b⟩:=get_at (xs:=l) (i:=i) q;have g:=c x (aqw b);have v:(l.map Vy)[i]? =some (Vy x):=by rw[aqA,b];rfl
   obtain⟨y,p,j⟩:=join_eq d e g.1 g.2 f;have o:jn (Fy (l.take i)) x.1 x.2=Fy (l.take (i+1)):=by rw[cG b,NS]
   rw[o]at j;rw[ba v,ob];simp only[Vy,p,ob];rw[cE (by omega) (by simp;omega),ob,cn (by omega)];obtain⟨z,r,w⟩:=ED N d e t c m (i+1) y (a++[Fy (l.take i) x.1 !=Fy (l.take i) x.2]) (by omega) (by omega) (by simp[u]) j;refine⟨z,?_,w⟩;rw[r,cY b,je,cG b];simp[ac9]
  ·rw[aqc (by omega)]
   refine⟨s,?_,?_⟩
   ·rw[arb (by omega)];simp[je]
   ·rwa[aqQ (by omega)]at f
def NU{N:Nat}(f:Fu+4<=N){n:Nat}(h:n<=1000){l:List (Nat×Nat)}(g:l.length<=100000)(e:Jv n l)(i:Hw n b id):
 ∃a,Nl N (l.map Vy,b)=some (je [] l,a)/\Hw n a (Fy l):=by
 obtain⟨M,rfl⟩:∃M,N=M+2:=⟨N - 2,by omega⟩;obtain⟨a,c,d⟩:=ED M (by omega) h g e M 0 b [] (by rw[bH]at f;omega) (by omega) rfl i;refine⟨a,?_,d⟩;rw[acn,acm,aqn,show(0:Int)=((0:Nat):Int)from rfl,c];rfl
def EE(N:Nat)(n:Int)(l:List (Int×Int))(p:l.length<=9223372036854775807):∀(m i:Nat),l.length - i<m->i<=l.length->
 xV N m (n,l,(l.length:Int),(i:Int))=some (if∀e∈l.drop i,lI n e then .inl ()else .inr 10)
 |0,i,h,_=>absurd h (by omega)
 |m+1,i,s,r=>by
  rw[Qp,cd];by_cases q:i<l.length
  ·rw[aqd (by omega)]
   obtain⟨x,g⟩:=get_at (xs:=l) (i:=i) q;obtain⟨a,b⟩:=x;rw[ba g,ob,cY g,cd,cd,cn (by omega),EE N n l p m (i+1) (by omega) (by omega)];simp only;by_cases c:lI n (a,b)
   ·have k:=c.1
    have o:=c.2;simp only at k o;rw[aqc (by split<;>omega),aqc (by split<;>omega)];by_cases d:∀e∈l.drop (i+1),lI n e
    ·rw[aqd d,aqd (atv.2 ⟨c,d⟩)]
    ·rw[aqc d,aqc (λh=>d (atv.1 h).2)]
   ·have:¬((0<=a/\a<n)/\0<=b/\b<n):=c
    rw[aqc (λh=>c (atv.1 h).1)];by_cases f:(if b<a then b else a)<0
    ·rw[aqd f]
    ·rw[aqc f]
     by_cases j:n<=(if b>a then b else a)
     ·rw[aqd j]
     ·exfalso
      refine this ?_;split at f<;>split at j<;>omega
  ·rw[aqc (by omega),arb (by omega),aqd (by simp)]
def tQ(n:Int)(l:List (Int×Int)):Int:=if n<1\/64<n then 1 else if∀e∈l,lI n e then 0 else 10
def NV(g:Fu+1<=a)(n:Int)(l:List (Int×Int))(h:l.length<=9223372036854775807):Ef a (n,l)=some (tQ n l):=by
 obtain⟨M,rfl⟩:∃M,a=M+1:=⟨a - 1,by omega⟩;have f:=EE M n l h M 0 (by rw[bH]at g;omega) (by omega);rw[XX,cd,cd,show(0:Int)=((0:Nat):Int)from rfl,f,ob,aq3];unfold tQ;by_cases c:n<1
 ·rw[aqd c,aqd (.inl c)]
 ·rw[aqc c]
  by_cases d:64<n
  ·rw[aqd d,aqd (.inr d)]
  ·rw[aqc d,aqc (show¬(n<1\/64<n) by omega)]
   by_cases b:∀e∈l,lI n e
   ·rw[aqd b,aqd b];rfl
   ·rw[aqc b,aqc b]
def Ym(a:∀v,i v<=v)(v x:Nat):root (cz i v (root i v)) x=root i x:=by
 have f:∀y,cz i v (root i v) y<=y:=λy=>by
  unfold cz;split
  ·rename_i c;subst c;exact yp a _
  ·exact a y
 induction x using Nat.strongRecOn with
 |_ x b=>
  rw[gI f x];by_cases c:x=v
  ·subst c
   have e:cz i x (root i x) x=root i x:=aqd rfl;rw[e];split
   ·rename_i c;exact c.symm
   ·rename_i c
    have d:=yp a x;rw[b _ (by omega),jZ a (yo a x)]
  ·have e:cz i v (root i v) x=i x:=aqc c
   rw[e,gI a x];split
   ·rfl
   ·have d:=a x
    exact b _ (by omega)
def yq(N:Nat)(f:Fu+1<=N){n:Nat}(l:n<=1000){c:Nat->Nat}:∀(m i:Nat) (s:List Int),n - i<m->i<=n->Hw n s c->(∀j,j<i->par s j=c j)->
 Cp N m ((n:Int),(i:Int),s)=some ((List.range n).map λv=>((c v:Nat):Int))
 |0,i,s,h,_,_,_=>absurd h (by omega)
 |m+1,i,s,B,z,d,g=>by
  rw[X7,cd];by_cases q:i<n
  ·rw[aqd (by omega)]
   obtain⟨p,b,a,t⟩:=EB f l q d;rw[b,ob];simp only[a.nth q,ob,aqo];rw[cn (by omega)];have o:=a.QB;have u:c i<=i:=by rw[<-a.cls i q];exact yp o i
   have r:par (p.set i ((c i:Nat):Int))=cz (par p) i (c i):=Jw (by rw[a.len];exact q);refine yq N f l m (i+1) _ (by omega) (by omega) (a.set q u λx y=>?_) λj A=>?_
   ·rw[<-a.cls i q,Ym o,a.cls x y]
   ·rw[r]
    unfold cz;split
    ·rename_i e;rw[e]
    ·exact t j (by omega) (g j (by omega))
  ·rw[aqc (by omega)]
   congr 1;refine arZ λj=>?_;rw[aqA];by_cases k:j<n
   ·obtain⟨w,b,_⟩:=d.at_ j k
    have:=g j (by omega);unfold par at this;rw[arI,b]at this;simp at this;rw[b,ato k,this];rfl
   ·rw[aq1 (by have:=d.len;omega),aq1 (by simp;omega)]
    rfl
def agl(n:Int)(l:List (Int×Int)):List Int:=(List.range n.toNat).map λv=>((Fy (l.map r_) v:Nat):Int)
def Vz(h:∀a∈e,lI g a):e=(e.map r_).map Vy:=by
 rw[aru];exact(ar6 e).symm.trans (aq6 λa b=>(ahJ (h a b)).symm)
def yr{n:Int}(b:0<=n)(h:∀a∈e,lI n a):Jv n.toNat (e.map r_):=λa c=>by
 obtain⟨x,d,rfl⟩:=aqq.1 c;have:=h x d;have e0:((n.toNat:Nat):Int)=n:=atE b;exact lI.nat (by rw[e0];exact this)
def vv(n:Int)(l:List (Int×Int)):(tQ n l=1/\(n<1\/64<n))\/(tQ n l=10/\(1<=n/\n<=64)/\¬∀e∈l,lI n e)\/(tQ n l=0/\(1<=n/\n<=64)/\∀e∈l,lI n e):=by
 unfold tQ;by_cases b:n<1\/64<n
 ·exact .inl ⟨aqd b,b⟩
 ·rw[aqc b]
  by_cases a:∀e∈l,lI n e
  ·exact .inr (.inr ⟨aqd a,by omega,a⟩)
  ·exact .inr (.inl ⟨aqc a,by omega,a⟩)
def QC(g:Fu+5<=a)(n:Int)(l:List (Int×Int))(i:l.length<=100000):Vk a (n,l)=some (tQ n l,if tQ n l=0 then agl n l else []):=by
 obtain⟨M,rfl⟩:∃M,a=M+1:=⟨a - 1,by omega⟩;rw[acH,NV (by omega) n l (by omega),ob,FQ];rcases vv n l with⟨h,_⟩|⟨h,_⟩|⟨h,o,d⟩
 ·rw[h];rfl
 ·rw[h];rfl
 ·rw[h,aqd rfl,aqd rfl]
  obtain⟨k,rfl⟩:∃k:Nat,n=k:=⟨n.toNat,by omega⟩;obtain⟨q,e,f⟩:=NT (N:=M) (by omega) (n:=k) (by omega);obtain⟨m,b,c⟩:=NU (N:=M) (by omega) (n:=k) (by omega) (l:=l.map r_) (by simpa using i) (yr (by omega) d) f;rw[<-Vz d]at b;rw[e,ob,b,ob];simp only[c.len];rw[show(0:Int)=((0:Nat):Int)from rfl,yq M (by omega) (by omega) M 0 m (by rw[bH]at g;omega) (by omega) c (λj p=>by omega)];rfl
abbrev Tk:=Nat×Nat
def jN:List Nat->Tk->Option (List Nat)
 |[],_=>none
 |[u],t=>if t.1=u then(if t.2=u then some [u]else some [t.2,u])else none
 |u::w::r,t=>if t.1=u then(if t.2=u then some (u::w::r)else if t.2=w then some (w::r)else some (t.2::u::w::r))else none
def run:List Nat->List Tk->Option (List Nat)
 |s,[]=>some s
 |s,t::l=>match jN s t with
  |some z=>run z l
  |none=>none
def eA{t:Tk}{l:List Tk}:run s (t::l)=some j↔∃y,jN s t=some y/\run y l=some j:=by
 rw[run];cases h:jN s t with
 |none=>simp
 |some y=>simp
def j0:∀{l m:List Tk} {s z:List Nat},run s (l++m)=some z↔∃y,run s l=some y/\run y m=some z
 |[],m,s,z=>by simp[run]
 |t::l,m,s,z=>by
  rw[arw,eA];constructor
  ·rintro⟨y,a,b⟩
   obtain⟨x,c,d⟩:=j0.1 b;exact⟨x,eA.2 ⟨y,a,c⟩,d⟩
  ·rintro⟨x,c,d⟩
   obtain⟨y,a,b⟩:=eA.1 c;exact⟨y,a,j0.2 ⟨x,b,d⟩⟩
def hZ{t:Tk}(h:jN s t=some j):∃r,s=t.1::r/\((t.2=t.1/\j=s)\/(t.2≠t.1/\∃d,r=t.2::d/\j=r)\/(t.2≠t.1/\r.head?≠some t.2/\j=t.2::s)):=by
 match s with
 |[]=>simp[jN]at h
 |[u]=>
  simp only[jN]at h;split at h
  ·rename_i b
   subst b;refine⟨[],rfl,?_⟩;split at h
   ·rename_i a;cases h;exact .inl ⟨a,rfl⟩
   ·rename_i a;cases h;exact .inr (.inr ⟨a,by simp,rfl⟩)
  ·cases h
 |u::w::r=>
  simp only[jN]at h;split at h
  ·rename_i b
   subst b;refine⟨w::r,rfl,?_⟩;split at h
   ·rename_i a;cases h;exact .inl ⟨a,rfl⟩
   ·rename_i a
    split at h
    ·rename_i c;cases h;exact .inr (.inl ⟨a,r,by rw[c],rfl⟩)
    ·rename_i c;cases h;exact .inr (.inr ⟨a,by simpa usingλe=>c e.symm,rfl⟩)
  ·cases h
def kP(u:Nat)(r:List Nat):jN (u::r) (u,u)=some (u::r):=by
 cases r<;>simp[jN]
def pP(h:d≠a)(r:List Nat):jN (a::d::r) (a,d)=some (d::r):=by
 simp[jN,h]
def kQ(h:d≠a)(b:j.head?≠some d):jN (a::j) (a,d)=some (d::a::j):=by
 cases j with
 |nil=>simp[jN,h]
 |cons w j=>simp[jN,h,show¬d=w fromλe=>b (by rw[e];rfl)]
def VA:∀{l:List Tk} {s z:List Nat} {t:Tk},run s (l++[t])=some z->∃r,z=t.2::r:=by
 intro l s z t h;obtain⟨y,j,c⟩:=j0.1 h;obtain⟨x,d,a⟩:=eA.1 c;obtain⟨r,f,g⟩:=hZ d;have a:x=z:=by simpa[run]using a
 subst a;rcases g with⟨e,rfl⟩|⟨e,i,b,rfl⟩|⟨e,b,rfl⟩
 ·exact⟨r,by rw[e,f]⟩
 ·exact⟨i,b⟩
 ·exact⟨_,rfl⟩
def mg{t:Tk}{l:List Tk}(h:run s (t::l)=some j):s.head?=some t.1:=by
 obtain⟨y,a,c⟩:=eA.1 h;obtain⟨r,b,_⟩:=hZ a;rw[b];rfl
def Rb(u v:Nat)(s s':List Nat):Prop:=(∃a,s=a++[v,u]/\s'=a++[v])\/∃a,s=a++[u]/\s'=a++[u,v]/\a.getLast?≠some v
def ajM{t:Tk}(h:Rb a d s j)(D:jN s t=some k):∃C,jN j t=some C/\Rb a d k C:=by
 obtain⟨E,f⟩:=t;obtain⟨r,i,p⟩:=hZ D;simp only at i p;rcases h with⟨c,m,n⟩|⟨c,m,n,B⟩
 ·cases c with
  |nil=>
   simp only[aqZ]at m n;subst m;subst n;simp only[arl]at i;obtain⟨rfl,rfl⟩:=i;rcases p with⟨rfl,rfl⟩|⟨g,A,l,rfl⟩|⟨g,v,rfl⟩
   ·exact⟨[f],kP _ _,.inl ⟨[],rfl,rfl⟩⟩
   ·simp only[arl]at l
    obtain⟨rfl,rfl⟩:=l;exact⟨[a,d],kQ g (by simp),.inr ⟨[],rfl,rfl,by simp⟩⟩
   ·exact⟨[f,d],kQ g (by simp),.inl ⟨[f],rfl,rfl⟩⟩
  |cons x b=>
   subst m;subst n;simp only[arw,arl]at i;obtain⟨rfl,rfl⟩:=i;have v:∀y,(b++[d,a]).head?=some y->(b++[d]).head?=some y:=λy h=>by cases b<;>simpa using h
   have w:∀y,(b++[d]).head?=some y->(b++[d,a]).head?=some y:=λy h=>by cases b<;>simpa using h
   rcases p with⟨rfl,rfl⟩|⟨g,A,l,rfl⟩|⟨g,o,rfl⟩
   ·exact⟨_,kP _ _,.inl ⟨f::b,rfl,rfl⟩⟩
   ·have:(b++[d]).head?=some f:=v _ (by rw[l];rfl)
    obtain⟨q,o⟩:∃q,b++[d]=f::q:=by
     cases u:b++[d]with
     |nil=>simp at u
     |cons y q=>rw[u]at this;simp at this;exact⟨q,by rw[this]⟩
    refine⟨b++[d],?_,.inl ⟨b,rfl,rfl⟩⟩;rw[arw,o];exact pP g _
   ·refine⟨f::x::b++[d],kQ g λh=>o (w _ h),.inl ⟨f::x::b,rfl,rfl⟩⟩
 ·cases c with
  |nil=>
   simp only[aqZ]at m n;subst m;subst n;simp only[arl]at i;obtain⟨rfl,rfl⟩:=i;rcases p with⟨rfl,rfl⟩|⟨g,A,l,rfl⟩|⟨g,v,rfl⟩
   ·exact⟨[f,d],kP _ _,.inr ⟨[],rfl,rfl,by simp⟩⟩
   ·cases l
   ·by_cases z:f=d
    ·subst z
     exact⟨[f],pP g _,.inl ⟨[],rfl,rfl⟩⟩
    ·exact⟨[f,a,d],kQ g (by simpa usingλe:d=f=>z e.symm),.inr ⟨[f],rfl,rfl,by simpa using z⟩⟩
  |cons x b=>
   subst m;subst n;simp only[arw,arl]at i;obtain⟨rfl,rfl⟩:=i;have v:∀y,(b++[a]).head?=some y->(b++[a,d]).head?=some y:=λy h=>by cases b<;>simpa using h
   have w:∀y,(b++[a,d]).head?=some y->(b++[a]).head?=some y:=λy h=>by cases b<;>simpa using h
   rcases p with⟨rfl,rfl⟩|⟨g,A,l,rfl⟩|⟨g,o,rfl⟩
   ·exact⟨_,kP _ _,.inr ⟨f::b,rfl,rfl,B⟩⟩
   ·have:(b++[a,d]).head?=some f:=v _ (by rw[l];rfl)
    obtain⟨q,o⟩:∃q,b++[a,d]=f::q:=by
     cases u:b++[a,d]with
     |nil=>simp at u
     |cons y q=>rw[u]at this;simp at this;exact⟨q,by rw[this]⟩
    refine⟨b++[a,d],?_,.inr ⟨b,rfl,rfl,?_⟩⟩
    ·rw[arw,o]
     exact pP g _
    ·cases b with
     |nil=>simp
     |cons y b=>rwa[atV]at B
   ·refine⟨f::x::b++[a,d],kQ g λh=>o (w _ h),.inr ⟨f::x::b,rfl,rfl,by rwa[atV]⟩⟩
def ac_{u v:Nat}:∀{l:List Tk} {s s' z:List Nat},Rb u v s s'->run s l=some z->∃a,run s' l=some a/\Rb u v z a
 |[],s,s',z,h,b=>⟨s',rfl,by have:s=z:=by simpa[run]using b
                            exact this▸h⟩
 |t::l,s,s',z,h,b=>by
  obtain⟨y,c,d⟩:=eA.1 b;obtain⟨j,e,f⟩:=ajM h c;obtain⟨a,g,i⟩:=ac_ f d;exact⟨a,eA.2 ⟨j,e,g⟩,i⟩
def Clo(l:List Tk)(r:Nat):Prop:=run [r] l=some [r]
def adb{t:Tk}{l:List Tk}(h:Clo (t::l) a):t.1=a/\Clo (l++[t]) t.2:=by
 obtain⟨f,c⟩:=t;have m:f=a:=by have:=mg h;simpa using this.symm
 subst m;refine⟨rfl,?_⟩;obtain⟨y,n,g⟩:=eA.1 h;obtain⟨q,i,j⟩:=hZ n;simp only[arl,true_and]at i j;subst i;rcases j with⟨rfl,rfl⟩|⟨k,B,r,rfl⟩|⟨k,A,rfl⟩
 ·exact j0.2 ⟨_,g,by simp[run,jN]⟩
 ·cases r
 ·obtain⟨w,o,p⟩:=ac_ (u:=f) (v:=c) (s:=[c,f]) (s':=[c]) (.inl ⟨[],rfl,rfl⟩) g
  refine j0.2 ⟨w,o,?_⟩;rcases p with⟨b,d,e⟩|⟨b,d,e,z⟩
  ·have:=aqr List.length d
   simp at this
  ·cases b with
   |nil=>
    simp only[aqZ]at e;subst e;refine eA.2 ⟨[c],pP k _,rfl⟩
   |cons x b=>
    have:=aqr List.length d;simp at this
def VB:∀{a b:List Tk} {r:Nat},Clo (a++b) r->∃c,Clo (b++a) c
 |[],b,r,h=>⟨r,by simpa using h⟩
 |t::a,b,r,h=>by
  obtain⟨f,d⟩:=adb (by simpa using h:Clo (t::(a++b)) r);rw[aqJ]at d;obtain⟨c,e⟩:=VB d;exact⟨c,by simpa using e⟩
def Jx:List Nat->List Tk->List Nat
 |_,[]=>[]
 |s,t::l=>match jN s t with
  |some z=>if s.length<z.length then t.2::Jx z l else Jx z l
  |none=>[]
def sa(l:List Tk):Nat:=(l.filter λt=>t.1 !=t.2).length
def eJ(l:List Tk):List Nat:=(l.filter λt=>t.1==t.2).map (·.1)
def NW{t:Tk}{l:List Tk}(h:jN s t=some j):Jx s (t::l)=if s.length<j.length then t.2::Jx j l else Jx j l:=by
 rw[Jx,h]
def tl(t:Tk)(l:List Tk):sa (t::l)=(if t.1=t.2 then 0 else 1)+sa l:=by
 unfold sa;by_cases h:t.1=t.2
 ·simp[asp,h]
 ·simp[asp,h];omega
def NX(l m:List Tk):sa (l++m)=sa l+sa m:=by simp[sa]
def Jy:∀{l:List Tk} {s z:List Nat},run s l=some z->2*(Jx s l).length+s.length=sa l+z.length
 |[],s,z,h=>by
  have:s=z:=by simpa[run]using h
  subst this;simp[Jx,sa]
 |t::l,s,z,h=>by
  obtain⟨y,b,d⟩:=eA.1 h;have g:=Jy d;obtain⟨r,c,f⟩:=hZ b;rw[NW b,tl];rcases f with⟨e,rfl⟩|⟨a,k,j,rfl⟩|⟨a,i,rfl⟩
  ·rw[aqc (auL _),aqd e.symm];omega
  ·rw[aqc (by rw[c];simp),aqc (λe=>a e.symm)]
   have:s.length=y.length+1:=by rw[c];rfl
   omega
  ·rw[aqd (by simp),aqc (λe=>a e.symm)]
   simp at g⊢;omega
def Jz:∀{l:List Tk} {s z:List Nat},run s l=some z->∀t∈l,t.1∈s\/t.1∈Jx s l
 |[],s,z,h,t,b=>by cases b
 |x::l,s,z,h,t,b=>by
  obtain⟨y,d,f⟩:=eA.1 h;obtain⟨r,c,g⟩:=hZ d;rw[NW d];rcases aqG.1 b with rfl|b
  ·exact .inl (by rw[c];simp)
  ·have a:=Jz f t b
   rcases g with⟨e,rfl⟩|⟨i,m,k,rfl⟩|⟨i,j,rfl⟩
   ·rw[aqc (auL _)];exact a
   ·rw[aqc (by rw[c];simp)]
    rcases a with a|a
    ·exact .inl (by rw[c];exact ari _ a)
    ·exact .inr a
   ·rw[aqd (by simp)]
    rcases a with a|a
    ·rcases aqG.1 a with a|a
     ·exact .inr (by rw[a];simp)
     ·exact .inl a
    ·exact .inr (ari _ a)
def mU{α:Type} [BEq α] [LawfulBEq α]:∀{A B:List α},A.Nodup->(∀x∈A,x∈B)->B.length<=A.length->B.Perm A
 |[],B,_,_,b=>by
  have:B=[]:=arh (by simpa using b);subst this;exact atW _
 |a::A,B,j,f,b=>by
  have h:a∈B:=f a (by simp);have c:=avh h;have d:=ars.1 j;have i:=c.length_eq;have l:(B.erase a).Perm A:=mU d.2 (λx g=>by
   have k:=f x (by simp[g]);have:=c.mem_iff.1 k;rcases aqG.1 this with e|e
   ·exact absurd (e▸g) d.1
   ·exact e) (by simp at b i;omega)
  exact c.trans (l.cons a)
def tp{l:List Tk}:a∈eJ l↔(a,a)∈l:=by
 unfold eJ;simp only[aqq,ar_,as_];constructor
 ·rintro⟨⟨c,b⟩,⟨f,d⟩,e⟩
  simp only at d e;subst d;subst e;exact f
 ·exactλh=>⟨(a,a),⟨h,rfl⟩,rfl⟩
def iM(t:Tk)(l:List Tk):eJ (t::l)=if t.1=t.2 then t.1::eJ l else eJ l:=by
 unfold eJ;by_cases h:t.1=t.2
 ·simp[asp,h]
 ·simp[asp,h]
def JA(l m:List Tk):eJ (l++m)=eJ l++eJ m:=by simp[eJ]
def kR:∀{l:List Tk},l.Nodup->(eJ l).Nodup
 |[],_=>by simp[eJ]
 |t::l,h=>by
  have c:=ars.1 h;rw[iM];split
  ·rename_i e
   refine ars.2 ⟨λd=>c.1 ?_,kR c.2⟩;have:=tp.1 d;obtain⟨a,b⟩:=t;simp only at e this;rw[e]at this;rw[e];exact this
  ·exact kR c.2
structure BB(l:List Tk):Prop where
 nod:l.Nodup
 Fy:∃r,Clo l r
 own:∀t∈l,(t.1,t.1)∈l
 num:sa l+2=2*(eJ l).length
def BB.perm{l m:List Tk}(h:BB l)(a:l.Perm m)(c:∃r,Clo m r):BB m:=by
 have e:(eJ l).length=(eJ m).length:=((a.filter _).map _).length_eq;have b:sa l=sa m:=(a.filter _).length_eq;exact⟨a.nodup_iff.1 h.nod,c,λt d=>a.mem_iff.1 (h.own t (a.mem_iff.2 d)),by rw[<-b,<-e];exact h.num⟩
def BB.BA{a b:List Tk}(h:BB (a++b)):BB (b++a):=by
 obtain⟨r,c⟩:=h.Fy;exact h.perm ats (VB c)
def BB.ne{l:List Tk}(h:BB l):l≠[]:=λe=>by
 have:=h.num;subst e;simp[sa,eJ]at this
def BB.amL{l:List Tk}(h:BB l)(c:Clo l a):(a::Jx [a] l).Perm (eJ l):=by
 have d:=Jy c;have:=h.num;refine mU (kR h.nod) (λx b=>?_) (by simp at d⊢;omega);have b:=tp.1 b;rcases Jz c _ b with e|e
 ·simp at e;simp[e]
 ·exact ari _ e
def BB.once{l:List Tk}(h:BB l)(b:Clo l a):(a::Jx [a] l).Nodup:=(h.amL b).nodup_iff.2 (kR h.nod)
def EF{l:List Tk}(c:l.Nodup):(run [a] l=some [a]/\(a::Jx [a] l).Nodup/\(eJ l).length=(Jx [a] l).length+1)↔(BB l/\Clo l a):=by
 constructor
 ·rintro⟨b,j,d⟩
  have f:(a::Jx [a] l).Perm (eJ l):=mU (kR c) (λx i=>by
   rcases Jz b _ (tp.1 i)with e|e
   ·simp at e;simp[e]
   ·exact ari _ e) (by simp[d])
  refine⟨⟨c,⟨a,b⟩,λt g=>?_,?_⟩,b⟩
  ·refine tp.1 (f.mem_iff.1 ?_)
   rcases Jz b _ g with e|e
   ·simp at e;simp[e]
   ·exact ari _ e
  ·have:=Jy b
   simp at this;omega
 ·rintro⟨h,b⟩
  exact⟨b,h.once b,by have:=(h.amL b).length_eq;simpa using this.symm⟩
def BB.ajO{l:List Tk}(h:BB l){t:Tk}(o:t∈l):(t.2,t.2)∈l:=by
 obtain⟨a,b,rfl⟩:=List.append_of_mem o;have i:BB (t::b++a):=h.BA;have g:BB ((b++a)++[t]):=by
  have:=(show BB ([t]++(b++a))from by simpa using i).BA;exact this
 obtain⟨r,d⟩:=g.Fy;obtain⟨q,e⟩:=VA d;have n:r=t.2:=(auM e).1;subst n;have j:∃x m,(b++a)++[t]=x::m:=by
  cases k:(b++a)++[t]with
  |nil=>simp at k
  |cons x m=>exact⟨x,m,rfl⟩
 obtain⟨x,m,f⟩:=j;rw[f]at d;have p:x.1=t.2:=by have:=mg d;simpa using this.symm
 have c:=g.own x (by rw[f];simp);rw[p]at c;simp only[aqp,aqG,List.not_mem_nil,or_false]at c⊢;rcases c with(c|c)|c
 ·exact .inr (.inr c)
 ·exact .inl c
 ·exact .inr (.inl c)
def ade{t:Tk}{w:Nat}(d:t.2≠w)(h:jN s t=some j):jN (s++w::k) t=some (j++w::k):=by
 obtain⟨l,m⟩:=t;obtain⟨r,b,c⟩:=hZ h;simp only at b c d;subst b;rcases c with⟨rfl,rfl⟩|⟨a,i,g,rfl⟩|⟨a,f,rfl⟩
 ·exact kP _ _
 ·subst g
  exact pP a _
 ·refine kQ a ?_
  cases r with
  |nil=>simpa usingλe=>d e.symm
  |cons x r=>simpa using f
def run_lift{b:List Nat}{w:Nat}:∀{l:List Tk} {s z:List Nat},(∀t∈l,t.2≠w)->run s l=some z->run (s++w::b) l=some (z++w::b)
 |[],s,z,_,h=>by
  have:s=z:=by simpa[run]using h
  subst this;rfl
 |t::l,s,z,a,h=>by
  obtain⟨y,c,d⟩:=eA.1 h;exact eA.2 ⟨_,ade (a t (by simp)) c,run_lift (λx e=>a x (by simp[e])) d⟩
def BB.link{c b:List Tk}(i:BB ((a,a)::c))(g:BB ((d,d)::b))(j:∀x,(x,x)∈(a,a)::c->(x,x)∉(d,d)::b):BB ((a,a)::(a,d)::((d,d)::b++(d,a)::c)):=by
 have k:a≠d:=λe=>by subst e;exact j a (by simp) (by simp)
 obtain⟨r,p⟩:=i.Fy;have:r=a:=by have:=mg p;simpa using this
 subst this;obtain⟨f,q⟩:=g.Fy;have:f=d:=by have:=mg q;simpa using this
 subst this;have w:∀t∈(f,f)::b,t.2≠r:=λt o e=>j r (by simp) (by have:=g.ajO o;rwa[e]at this);have v:∀t,t∈(r,r)::c->t∉(f,f)::b:=λt l n=>j _ (i.own t l) (g.own t n);have B:(r,f)∉(r,r)::c:=λh=>j _ (i.ajO h) (by simp);have E:(f,r)∉(r,r)::c:=λh=>j _ (i.own _ h) (by simp);have C:(r,f)∉(f,f)::b:=λh=>j _ (by simp) (g.own _ h);have F:(f,r)∉(f,f)::b:=λh=>j _ (by simp) (g.ajO h);have m:((r,r)::(r,f)::((f,f)::b++(f,r)::c)).Perm ((r,f)::(f,r)::((r,r)::c++(f,f)::b)):=by
  refine(List.Perm.swap (r,f) (r,r) _).trans (List.Perm.cons _ ?_);have l:((f,f)::b++(f,r)::c).Perm ((f,r)::(c++(f,f)::b)):=by
   have:= @ats _ ((f,f)::b) ((f,r)::c);simpa using this
  exact(l.cons (r,r)).trans (List.Perm.swap _ _ _)
 have A:((r,f)::(f,r)::((r,r)::c++(f,f)::b)).Nodup:=by
  refine ars.2 ⟨λh=>?_,ars.2 ⟨λh=>?_,aq8.2 ⟨i.nod,g.nod,λx G y H e=>v x G (e▸H)⟩⟩⟩
  ·rcases aqG.1 h with h|h
   ·simp at h;exact k h.1
   ·rcases aqp.1 h with h|h
    ·exact B h
    ·exact C h
  ·rcases aqp.1 h with h|h
   ·exact E h
   ·exact F h
 refine⟨m.nodup_iff.2 A,⟨r,?_⟩,λt o=>?_,?_⟩
 ·refine eA.2 ⟨[r],kP _ _,eA.2 ⟨[f,r],kQ (λe=>k e.symm) (by simp),?_⟩⟩
  refine j0.2 ⟨[f,r],?_,eA.2 ⟨[r],pP k _,?_⟩⟩
  ·exact run_lift (s:=[f]) (z:=[f]) (b:=[]) w q
  ·obtain⟨y,l,n⟩:=eA.1 p
   obtain rfl:=aql ((kP _ _:jN [r] (r,r)=_).symm.trans l);exact n
 ·have:=m.mem_iff.1 o
  refine m.mem_iff.2 ?_;refine ari _ (ari _ ?_);rcases aqG.1 this with rfl|h
  ·exact auk _ (by simp)
  rcases aqG.1 h with rfl|h
  ·exact aul _ (by simp)
  rcases aqp.1 h with h|h
  ·exact auk _ (i.own t h)
  ·exact aul _ (g.own t h)
 ·have D:(eJ ((r,r)::(r,f)::((f,f)::b++(f,r)::c))).length=(eJ ((r,f)::(f,r)::((r,r)::c++(f,f)::b))).length:=((m.filter _).map _).length_eq
  have u:sa ((r,r)::(r,f)::((f,f)::b++(f,r)::c))=sa ((r,f)::(f,r)::((r,r)::c++(f,f)::b)):=(m.filter _).length_eq;rw[D,u];have l:=i.num;have n:=g.num;rw[tl,tl,iM,iM,aqc k,aqc k,aqc (λe:f=r=>k e.symm),aqc (λe:f=r=>k e.symm),NX,JA,aqy];omega
def NY:∀l:List Tk,sa l+(eJ l).length=l.length
 |[]=>rfl
 |t::l=>by
  have:=NY l;rw[tl,iM];split<;>simp<;>omega
def BB.len{l:List Tk}(h:BB l):l.length+2=3*(eJ l).length:=by
 have:=h.num;have:=NY l;omega
def dk(n:Nat)(t:Int):Option Tk:=
 if 0<=t/\t<n then some (t.toNat,t.toNat)
 else if(n:Int)<=t/\t.toNat<n*(n+1)then(if t.toNat/n - 1=t.toNat % n then none else some (t.toNat/n - 1,t.toNat % n))
 else none
def ek(n:Nat)(e:Tk):Int:=if e.1=e.2 then(e.1:Int)else((n*(e.1+1)+e.2:Nat):Int)
def yt{e:Tk}(h:dk a g=some e):ek a e=g/\e.1<a/\e.2<a:=by
 unfold dk at h;split at h
 ·rename_i c
  cases h;refine⟨?_,by omega,by omega⟩;unfold ek;rw[aqd rfl];omega
 ·split at h
  ·rename_i f c
   split at h
   ·cases h
   ·rename_i d
    cases h;have b:0<a:=by
     rcases atp a with e|e
     ·subst e;simp at c
     ·exact e
    have i:g.toNat/a<a+1:=avi c.2;have j:1<=g.toNat/a:=(atX b).2 (by omega);refine⟨?_,by simp only;omega,asA _ b⟩;unfold ek;rw[aqc d];simp only;rw[show g.toNat/a - 1+1=g.toNat/a by omega,Nat.div_add_mod];omega
  ·cases h
def adf{n:Nat}{e:Tk}(f:e.1<n)(a:e.2<n):dk n (ek n e)=some e:=by
 obtain⟨u,v⟩:=e;simp only at f a;unfold ek dk;by_cases c:u=v
 ·subst c
  simp only[aqP];rw[aqd (by omega)];simp
 ·simp only[c,aq_]
  have h:n*1<=n*(u+1):=ar8 n (by omega);have g:n*(u+1)+v<n*(n+1):=by
   have:n*(u+1)+n<=n*(n+1):=by
    have:=ar8 n (show u+1+1<=n+1 by omega);rw[Nat.mul_add n (u+1) 1,arH]at this;exact this
   omega
  rw[aqc (by omega),aqd ⟨by omega,by rw[aqo];exact g⟩];have b:(n*(u+1)+v)/n=u+1:=by
   rw[Nat.mul_add_div (by omega),auG a]
  have d:(n*(u+1)+v) % n=v:=by
   rw[Nat.mul_add_mod,asz a]
  rw[aqo,b,d,aqc (by omega)];simp
def ajP{e:Tk}(h:dk a g=some e)(k:dk a u=some e):g=u:=(yt h).1.symm.trans (yt k).1
def Cs(h:dk a g=some (d,d)):g=(d:Int)/\d<a:=by
 have:=yt h;unfold ek at this;simp only[aqP]at this;exact⟨this.1.symm,this.2.1⟩
def hQ(h:d<a):dk a (d:Int)=some (d,d):=by
 have:=adf (e:=(d,d)) h h;unfold ek at this;simpa using this
def NZ(n:Nat)(t:Int):Int×Int×Bool×Bool:=match dk n t with
 |none=>(0,0,false,false)
 |some (u,v)=>if u=v then((u:Int),0,false,true)else((u:Int),(v:Int),true,true)
def aoP(h:a<=64):a*(a+1)<=4160:=aq9 (arO h (show a+1<=65 by omega)) (by decide)
def yu(b:1<=a)(n:Int):vl a n=some (decide (1<=n/\n<=64)):=by
 obtain⟨a,rfl⟩:∃M,a=M+1:=⟨a - 1,by omega⟩;rw[Xa,cd];by_cases c:1<=n<;>simp[c]
def N0(d:2<=a)(n v:Int):nz a (n,v)=some (decide ((1<=n/\n<=64)/\0<=v/\v<n)):=by
 obtain⟨a,rfl⟩:∃M,a=M+1:=⟨a - 1,by omega⟩;rw[Xd,yu (by omega),ob];by_cases c:1<=n/\n<=64
 ·simp only[c,and_self,arp,aqE,cd,true_and]
  by_cases b:0<=v<;>simp[b]
 ·simp[c]
def adg(n:2<=a)(i:1<=d)(g:d<=64)(t:Int):IK a ((d:Int),t)=some (NZ d t):=by
 obtain⟨a,rfl⟩:∃M,a=M+1:=⟨a - 1,by omega⟩;have p:=aoP g;have h:wrap .i64 ((d:Int)*(wrap .i64 ((d:Int)+(1:Int))))=((d*(d+1):Nat):Int):=by
  rw[gG (x:=(d:Int)+1) (by omega) (by omega),show(d:Int)*((d:Int)+1)=((d*(d+1):Nat):Int) by rw[ar9,Int.natCast_add];rfl,gG (by omega) (by omega)]
 rw[Xe,yu (by omega),ob,h];rw[aqH (show(1:Int)<=(d:Int)/\(d:Int)<=64 by omega)];simp only[aqv,aqi,cd];unfold NZ dk;by_cases c:t<0
 ·rw[aqd c,aqc (by omega),aqc (by omega)]
 rw[aqc c];by_cases e:((d*(d+1):Nat):Int)<=t
 ·have o:d*1<=d*(d+1):=ar8 d (by omega)
  rw[aqd e,aqc (by omega),aqc (by omega)]
 rw[aqc e];by_cases f:t<d
 ·rw[aqd f,aqd (by omega)]
  simp;omega
 rw[aqc f,aqc (by omega),aqd (by omega)];obtain⟨k,rfl⟩:∃k:Nat,t=k:=⟨t.toNat,by omega⟩;rw[Qx (by omega),ob,Jp (by omega),ob,yk,yj,aqo];have j:k/d<d+1:=avi (by omega);have l:1<=k/d:=(atX (by omega)).2 (by omega);have m:k % d<d:=asA _ (by omega);rw[gG (x:=((k/d:Nat):Int)) (by omega) (by omega),gG (x:=((k/d:Nat):Int) - 1) (by omega) (by omega)];by_cases b:k/d - 1=k % d
 ·rw[aqd (by omega),aqd b]
 ·rw[aqc (by omega),aqc b]
  simp only[b,aq_];congr 2;omega
def gs:List Nat->List Nat->List Tk->Option (List Nat×List Nat)
 |s,c,[]=>some (s,c)
 |s,c,t::l=>match jN s t with
  |none=>none
  |some z=>if s.length<z.length then(if t.2∈c then none else gs z (c++[t.2]) l)else gs z c l
def JB:∀{l:List Tk} {s c z d:List Nat},c.Nodup->(gs s c l=some (z,d)↔run s l=some z/\d=c++Jx s l/\(c++Jx s l).Nodup)
 |[],s,c,z,d,f=>by
  simp only[gs,run,Jx,aqV,aqg,aqx];constructor
  ·rintro⟨rfl,rfl⟩;exact⟨rfl,rfl,f⟩
  ·rintro⟨rfl,rfl,_⟩;exact⟨rfl,rfl⟩
 |t::l,s,c,z,d,f=>by
  rw[gs,run,Jx];cases n:jN s t with
  |none=>simp
  |some y=>
   simp only;by_cases g:s.length<y.length
   ·rw[aqd g,aqd g]
    by_cases i:t.2∈c
    ·rw[aqd i]
     constructor
     ·intro h;cases h
     ·rintro⟨_,_,h⟩
      exact absurd rfl ((aq8.1 h).2.2 t.2 i t.2 (by simp))
    ·rw[aqc i]
     have m:(c++[t.2]).Nodup:=aq8.2 ⟨f,by simp,λa k b j e=>i (by simp at j;rw[<-j,<-e];exact k)⟩;rw[JB m];simp only[aqJ,arM]
   ·rw[aqc g,aqc g]
    exact JB f
def mh(n:Nat)(l:List Int):Prop:=∃T,l.map (dk n)=T.map some/\BB T
def yv{α:Type}:∀{a b:List α},a.map some=b.map some->a=b
 |[],[],_=>rfl
 |[],_::_,h=>by simp at h
 |_::_,[],h=>by simp at h
 |x::a,y::b,h=>by
  simp only[aqz,arl,aqg]at h;rw[h.1,yv h.2]
def AW{T S:List Tk}(h:b.map (dk a)=T.map some)(k:b.map (dk a)=S.map some):T=S:=by
 have:T.map some=S.map some:=h.symm.trans k;exact yv this
def EG{n:Nat}:∀{l:List Int} {T:List Tk},l.map (dk n)=T.map some->(l.Nodup↔T.Nodup)
 |[],T,h=>by cases T<;>simp at h⊢
 |x::l,[],h=>by simp at h
 |x::l,t::T,h=>by
  simp only[aqz,arl]at h;have e:=EG h.2;have a:x∈l↔t∈T:=by
   constructor
   ·intro c
    have:dk n x∈T.map some:=by rw[<-h.2];exact aqq.2 ⟨x,c,rfl⟩
    rw[h.1]at this;simpa using this
   ·intro b
    have:some t∈l.map (dk n):=by rw[h.2];exact aqq.2 ⟨t,b,rfl⟩
    obtain⟨y,f,d⟩:=aqq.1 this;rwa[ajP h.1 d]
  rw[ars,ars,e,a]
structure Cm(c:List Nat)(m:List (Int×Int)):Prop where
 at_:∀v:Nat,(bC (.i .i64) m (v:Int)).getD 0=if v∈c then 1 else 0
 len:m.length=c.length
 pos:∀v x,bC (.i .i64) m v=some x->x=1
def Cm.push{c:List Nat}{m:List (Int×Int)}(h:Cm c m){v:Nat}(i:v∉c):Cm (c++[v]) (dI (.i .i64) m (v:Int) 1):=by
 have b:=h.at_ v;rw[aqc i]at b;have g:bC (.i .i64) m (v:Int)=none:=by
  cases d:bC (.i .i64) m (v:Int)with
  |none=>rfl
  |some x=>
   have:=h.pos _ _ d;rw[d,this]at b;simp at b
 refine⟨λw=>?_,?_,λw x a=>?_⟩
 ·rw[pM]
  by_cases e:v=w
  ·subst e;simp
  ·rw[aqc (by omega),h.at_ w]
   have:(w∈c++[v])↔w∈c:=by simp only[aqp,aqB];exact⟨λh=>h.resolve_right λf=>e f.symm,.inl⟩
   simp only[this]
 ·rw[yl,g,h.len];simp
 ·rw[pM]at a
  split at a
  ·exact(aql a).symm
  ·exact h.pos _ _ a
structure Me(ms:List Nat)(m:List (Int×Int)):Prop where
 mem:∀v:Nat,(bC (.i .i64) m (v:Int)).isSome=decide (v∈ms)
 len:m.length=ms.length
def Me.push{m:List (Int×Int)}(h:Me j m){v:Nat}(b:v∉j)(x:Int):Me (j++[v]) (dI (.i .i64) m (v:Int) x):=by
 refine⟨λw=>?_,?_⟩
 ·rw[pM]
  by_cases e:v=w
  ·subst e;simp
  ·rw[aqc (by omega),h.mem w]
   have:(w∈j++[v])↔w∈j:=by simp only[aqp,aqB];exact⟨λh=>h.resolve_right λa=>e a.symm,.inl⟩
   simp only[this]
 ·rw[yl,h.mem v,h.len];simp[b]
def jJ(s:List Nat):List Int:=s.reverse.map λv:Nat=>(v:Int)
def oz(s:List Nat):(jJ s).length=s.length:=by simp[jJ]
def N1(x:Nat)(r:List Nat):(jJ (x::r))[r.length]? =some (x:Int):=by
 simp[jJ,aq4]
def adh(x y:Nat)(r:List Nat):(jJ (x::y::r))[r.length]? =some (y:Int):=by
 simp[jJ,aq4]
def Hx(x:Nat)(s:List Nat):jJ (x::s)=jJ s++[(x:Int)]:=by simp[jJ]
def adi(w:1<=a){b c:List (Int×Int)}(v:j.length<=100000)(m:d≠o)(t:Cm k b):
 SQ a ((d:Int),(o:Int),jJ (B::j),b,c)=some (match jN (B::j) (d,o)with
  |none=>(false,b,c,jJ (B::j))
  |some z=>if(B::j).length<z.length then(if o∈k then(false,b,c,jJ (B::j))else(true,dI (.i .i64) b (o:Int) 1,c,jJ z))else(true,b,c,jJ z)):=by
 obtain⟨a,rfl⟩:∃M,a=M+1:=⟨a - 1,by omega⟩;have q:wrap .i64 ((((jJ (B::j)).length:Nat):Int) - (1:Int))=(j.length:Int):=by
  rw[oz,aqC,gG (by omega) (by omega)];omega
 have u:=t.at_ o;rw[aaP,q];simp only[ba (N1 B j),ob,FQ,cd];by_cases g:B=d
 rotate_left
 ·rw[aqc (by omega)]
  have:jN (B::j) (d,o)=none:=by
   cases j with
   |nil=>simp[jN,show¬d=B fromλe=>g e.symm]
   |cons y j=>simp[jN,show¬d=B fromλe=>g e.symm]
  rw[this]
 subst g;rw[aqd rfl,u];have l:∀h:j.head?≠some o,(if(0:Int)<(if o∈k then 1 else 0)then some (false,b,c,jJ (B::j))else
  aW (eC (8:Nat) (jJ (B::j)) [(o:Int)]) λz=>some (true,dI (.i .i64) b (o:Int) (wrap .i64 ((if o∈k then 1 else 0)+(1:Int))),c,z))=
  some (match jN (B::j) (B,o)with
  |none=>(false,b,c,jJ (B::j))
  |some z=>if(B::j).length<z.length then(if o∈k then(false,b,c,jJ (B::j))else(true,dI (.i .i64) b (o:Int) 1,c,jJ z))else(true,b,c,jJ z)):=λh=>by
  rw[kQ (λe=>m e.symm) h];have f:(B::j).length<(o::B::j).length:=by simp
  by_cases n:o∈k
  ·simp only[aqd n,aqd f,aqd (show(0:Int)<1 by decide)]
  ·simp only[aqc n,aqd f,aqc (show¬(0:Int)<0 by decide)]
   rw[cE (by omega) (by rw[oz];simp;omega),ob,Hx o];rfl
 cases j with
 |nil=>
  rw[aqc (by simp)];exact l (by simp)
 |cons y j=>
  rw[aqd (by simp only[aqC];omega)];have r:wrap .i64 ((((y::j).length:Nat):Int) - (1:Int))=(j.length:Int):=by
   rw[aqC,gG (by omega) (by simp at v;omega)];omega
  rw[r];simp only[ba (adh B y j),ob];by_cases p:y=o
  ·subst p
   have f:¬(B::y::j).length<(y::j).length:=by simp
   have s:jf (jJ (B::y::j)) (0:Int) (((y::j).length:Nat):Int)=some (jJ (y::j)):=by
    rw[r6 (by omega) (by rw[oz];simp only[aqC];omega),aqo,Hx B];exact aqr some (as7 (l₁:=jJ (y::j)) (l₂:=[(B:Int)]) (i:=(y::j).length) (oz _))
   rw[aqd rfl,s,ob];simp only[pP (λe:y=B=>m e.symm),aqc f]
  ·rw[aqc (by omega)]
   exact l (by simpa usingλe=>p e)
def yw{t:Tk}{T:List Tk}(h:jN s t=none):gs s j (t::T)=none:=by rw[gs,h]
def EH{t:Tk}{T:List Tk}(h:jN s t=some k)(a:¬s.length<k.length):gs s j (t::T)=gs k j T:=by
 rw[gs,h];exact aqc a
def QD{t:Tk}{T:List Tk}(h:jN s t=some k)(a:s.length<k.length)(b:t.2∈j):gs s j (t::T)=none:=by
 rw[gs,h];simp only;rw[aqd a,aqd b]
def N3{t:Tk}{T:List Tk}(h:jN s t=some k)(a:s.length<k.length)(b:t.2∉j):gs s j (t::T)=gs k (j++[t.2]) T:=by
 rw[gs,h];simp only;rw[aqd a,aqc b]
def VC{t:Tk}(h:jN s t=some j):j.length<=s.length+1/\j≠[]:=by
 obtain⟨r,a,b⟩:=hZ h;rcases b with⟨_,rfl⟩|⟨_,d,c,rfl⟩|⟨_,_,rfl⟩
 ·exact⟨by omega,by rw[a];simp⟩
 ·exact⟨by rw[a];simp;omega,by rw[c];simp⟩
 ·exact⟨by simp,by simp⟩
abbrev Ct(n:Nat)(l:List Int)(i:Nat)(s c ms:List Nat)(o:(List Int×List (Int×Int)×List (Int×Int))⊕Bool):Prop:=
 (o=.inr false/\∀T z c',(l.drop i).map (dk n)=T.map some->gs s c T≠some (z,c'))\/
  ∃T z c' ahK amM,(l.drop i).map (dk n)=T.map some/\gs s c T=some (z,c')/\o=.inl (jJ z,ahK,amM)/\Cm c' ahK/\Me (ms++eJ T) amM
def pQ{s c n q j p:List Nat}{e:Tk}{o:(List Int×List (Int×Int)×List (Int×Int))⊕Bool}(m:b[d]? =some g)(k:dk a g=some e)
 (l:∀T,gs s c (e::T)=gs q j T) (A:∀T,n++eJ (e::T)=p++eJ T) (h:Ct a b (d+1) q j p o):Ct a b d s c n o:=by
 rcases h with⟨rfl,h⟩|⟨T,z,i,r,B,t,u,v,w,y⟩
 ·refine .inl ⟨rfl,λT z i f=>?_⟩
  rw[cY m,aqz,k]at f;cases T with
  |nil=>simp at f
  |cons x T=>
   simp only[aqz,arl,aqg]at f;rw[<-f.1,l];exact h T z i f.2
 ·refine .inr ⟨e::T,z,i,r,B,?_,by rw[l];exact u,v,w,by rw[A];exact y⟩
  rw[cY m,aqz,k,t];rfl
def pR{e:Tk}(l:b[d]? =some g)(f:dk a g=some e)(i:∀T,gs s j (e::T)=none):Ct a b d s j k (.inr false):=by
 refine .inl ⟨rfl,λT z m c=>?_⟩;rw[cY l,aqz,f]at c;cases T with
 |nil=>simp at c
 |cons x T=>
  simp only[aqz,arl,aqg]at c;rw[<-c.1,i];intro h;cases h
def tv(N:Nat)(L:Fu+3<=N){n:Nat}(F:1<=n)(G:n<=64){l:List Int}(O:l.length<=1000):∀(m i:Nat) (s c f:List Nat) (j k:List (Int×Int)),l.length - i<m->i<=l.length->s≠[]->s.length<=i+1->Cm c j->Me f k->(f.map (λv:Nat=>(v:Int))++l.drop i).Nodup->
 ∃o,hI N m ((n:Int),l,(l.length:Int),(i:Int),jJ s,j,k)=some o/\Ct n l i s c f o
 |0,i,s,c,f,j,k,h,_,_,_,_,_,_=>absurd h (by omega)
 |m+1,i,s,c,f,j,k,hm,hi,hs,R,w,H,I=>by
  rw[Qg,cd];by_cases q:i<l.length
  rotate_left
  ·rw[aqc (by omega)]
   have d:l.drop i=[]:=arb (by omega);exact⟨_,rfl,.inr ⟨[],s,c,j,k,by rw[d];rfl,rfl,rfl,w,by simpa[eJ]using H⟩⟩
  rw[aqd (by omega)];obtain⟨t,g⟩:=get_at (xs:=l) (i:=i) q;rw[ba g,ob,adg (by omega) F G,ob,cn (by omega)];obtain⟨x,r,rfl⟩:∃x r,s=x::r:=by
   cases s with
   |nil=>exact absurd rfl hs
   |cons x r=>exact⟨x,r,rfl⟩
  rw[cY g]at I;cases d:dk n t with
  |none=>
   have D:NZ n t=(0,0,false,false):=by unfold NZ;rw[d]
   rw[D];refine⟨_,rfl,.inl ⟨rfl,λT z c2 M=>?_⟩⟩;rw[cY g,aqz,d]at M;cases T with
   |nil=>simp at M
   |cons x T=>simp at M
  |some e=>
   obtain⟨u,v⟩:=e;by_cases J:u=v
   ·subst J
    have D:NZ n t=((u:Int),0,false,true):=by unfold NZ;rw[d];simp
    obtain⟨S,a0⟩:=Cs d;rw[D];simp only[aqv,arv,aqi,aqE];have W:wrap .i64 ((((jJ (x::r)).length:Nat):Int) - (1:Int))=(r.length:Int):=by
     rw[oz,aqC,gG (by omega) (by simp only[aqC]at R;omega)];omega
    rw[W];simp only[ba (N1 x r),ob,FQ];by_cases P:x=u
    ·subst P
     rw[aqd rfl];have Z:x∉f:=λhx=>(aq8.1 I).2.2 (x:Int) (aqq.2 ⟨x,hx,rfl⟩) t (by simp) S.symm;obtain⟨o,A,B⟩:=tv N L F G O m (i+1) (x::r) c (f++[x]) j _ (by omega) (by omega) (by simp) (by omega) w (H.push Z _) (by
      rw[aq4,aqJ];simp only[aqz,aro,arM];rw[<-S];exact I)
     refine⟨o,A,pQ g d (λT=>EH (kP _ _) (auL _)) (λT=>?_) B⟩;rw[iM,aqd rfl,aqJ];rfl
    ·rw[aqc (by omega)]
     refine⟨_,rfl,pR g d λT=>yw ?_⟩;cases r with
     |nil=>simp[jN,show¬u=x fromλe=>P e.symm]
     |cons y r=>simp[jN,show¬u=x fromλe=>P e.symm]
   ·have D:NZ n t=((u:Int),(v:Int),true,true):=by unfold NZ;rw[d];simp[J]
    rw[D];simp only[aqv,arv,aqi,aqE];rw[adi (by omega) (by simp only[aqC]at R;omega) J w,ob];have Q:(f.map (λv:Nat=>(v:Int))++l.drop (i+1)).Nodup:=by
     have K:=aq8.1 I;exact aq8.2 ⟨K.1,(ars.1 K.2.1).2,λa X b Y=>K.2.2 a X b (by simp[Y])⟩
    have U:∀T,f++eJ ((u,v)::T)=f++eJ T:=λT=>by rw[iM,aqc J]
    cases C:jN (x::r) (u,v)with
    |none=>exact⟨_,rfl,pR g d λT=>yw C⟩
    |some z=>
     have V:=VC C;by_cases p:(x::r).length<z.length
     ·by_cases E:v∈c
      ·simp only[aqd p,aqd E]
       exact⟨_,rfl,pR g d λT=>QD C p E⟩
      ·simp only[aqd p,aqc E,aqv,arv,aqi]
       obtain⟨o,A,B⟩:=tv N L F G O m (i+1) z (c++[v]) f _ k (by omega) (by omega) V.2 (by omega) (w.push E) H Q;exact⟨o,A,pQ g d (λT=>N3 C p E) U B⟩
     ·simp only[aqc p,aqv,arv,aqi]
      obtain⟨o,A,B⟩:=tv N L F G O m (i+1) z c f j k (by omega) (by omega) V.2 (by omega) w H Q;exact⟨o,A,pQ g d (λT=>EH C p) U B⟩
def agm{N:Nat}(Z:Fu+5<=N)(U:1<=a)(V:a<=64)(hl:b.length<=1000)(K:b.Nodup)(B:b=g::n):
 ∃d,IL N ((a:Int),b)=some d/\(d=true↔(0<=g/\g<a)/\mh a b):=by
 obtain⟨N,rfl⟩:∃M,N=M+1:=⟨N - 1,by omega⟩;have a8:b[0]? =some g:=by rw[B];rfl
 have a6:aZ b (0:Int)=some g:=ba (i:=0) a8;rw[Xf];simp only[a6,ob];rw[N0 (by omega),ob,FQ];by_cases c:0<=g/\g<a
 rotate_left
 ·rw[aqc (by omega)]
  exact⟨false,rfl,by simp[c]⟩
 rw[aqd ⟨by omega,c⟩];obtain⟨u,rfl⟩:∃u:Nat,g=u:=⟨g.toNat,by omega⟩;have E:u<a:=by omega
 have a1:Cm [u] (dI (.i .i64) [] (u:Int) 1):=by
  have:=Cm.push (c:=[]) (m:=[]) ⟨λv=>by simp[bC],rfl,λv g h=>by simp[bC]at h⟩ (v:=u) (by simp);simpa using this
 obtain⟨o,O,a7⟩:=tv N (by omega) U V hl N 0 [u] [u] [] _ [] (by rw[bH]at Z;omega) (by omega) (by simp) (by simp) a1 ⟨λv=>by simp[bC],rfl⟩ (by simpa using K);have hw:jJ [u]=[(u:Int)]:=rfl;rw[hw,show((0:Nat):Int)=(0:Int)from rfl]at O;rw[O,ob];rcases a7 with⟨rfl,L⟩|⟨T,z,Q,R,aa,j,hg,rfl,a3,a5⟩
 ·refine⟨false,rfl,?_⟩
  simp only[arS,asZ,not_and];rintro _ ⟨T,j,k⟩;rw[aq3]at L;have q:T≠[]:=k.ne;have J:T.head?=some (u,u):=by
   rw[B]at j;cases T with
   |nil=>exact absurd rfl q
   |cons t T=>
    simp only[aqz,arl,hQ E,aqg]at j;rw[<-j.1];rfl
  obtain⟨r,p⟩:=k.Fy;have A:r=u:=by
   cases T with
   |nil=>exact absurd rfl q
   |cons t T=>
    have:=mg p;simp at J this;rw[J]at this;exact this
  subst A;have:=((EF k.nod).2 ⟨k,p⟩);exact L T [r] ([r]++Jx [r] T) j ((JB (by simp)).2 ⟨this.1,rfl,this.2.1⟩)
 ·rw[aq3]at j
  have q:T.Nodup:=(EG j).1 K;have w:=(JB (by simp)).1 hg;have a4:aa.length=(eJ T).length:=by simpa using a5.len
  have a2:R.length=Q.length:=a3.len;simp only[oz];have a9:∃y r,z=y::r:=by
   have Y:T≠[]:=λe=>by rw[B,e]at j;simp at j
   obtain⟨G,t,rfl⟩:∃G t,T=G++[t]:=by
    rcases avj T with e|⟨f,d,e⟩
    ·exact absurd e Y
    ·exact⟨f,d,by rw[e,avk]⟩
   obtain⟨r,p⟩:=VA w.1;exact⟨_,_,p⟩
  obtain⟨y,r,rfl⟩:=a9;rw[cd];by_cases D:r=[]
  rotate_left
  ·have ab:0<r.length:=ar0.2 D
   rw[aqc (by simp only[aqC];omega)];refine⟨false,rfl,?_⟩;simp only[arS,asZ,not_and];rintro _ ⟨S,C,k⟩;obtain rfl:=AW j C;obtain⟨F,x⟩:=k.Fy;have A:F=u:=by
    cases T with
    |nil=>exact absurd rfl k.ne
    |cons t T=>
     rw[B]at j;simp only[aqz,arl,hQ E,aqg]at j;have l:=mg x;simp at l;rw[l,<-j.1]
   subst A;have:=x.symm.trans w.1;simp only[aqg,arl]at this;exact D this.2.symm
  ·subst D
   rw[aqd (by simp)];have P:run [u] T=some [y]:=w.1;refine⟨_,rfl,?_⟩;rw[ard,a4,a2,w.2.1];have ac:y=u\/True:=.inr trivial;constructor
   ·intro he
    refine⟨c,T,j,?_⟩;have a0:∀(b:List Tk) (s z:List Nat),s≠[]->run s b=some z->z.getLast?=s.getLast?:=λb=>by
     induction b with
     |nil=>intro s z _ h;have:s=z:=by simpa[run]using h
           rw[this]
     |cons t b ih=>
      intro s z hs h;obtain⟨y,l,W⟩:=eA.1 h;rw[ih y z (VC l).2 W];obtain⟨r,H,X⟩:=hZ l;rcases X with⟨_,rfl⟩|⟨_,r',p,rfl⟩|⟨_,_,rfl⟩
      ·rfl
      ·rw[H,p,atV]
      ·rw[H,atV]
    have I:=a0 T [u] [y] (by simp) P;simp at I;subst I;exact((EF q).1 ⟨P,by simpa using w.2.2,by simp at he;omega⟩).1
   ·rintro⟨_,S,C,k⟩
    obtain rfl:=AW j C;obtain⟨F,x⟩:=k.Fy;have A:F=u:=by
     cases T with
     |nil=>exact absurd rfl k.ne
     |cons t T=>
      rw[B]at j;simp only[aqz,arl,hQ E,aqg]at j;have l:=mg x;simp at l;rw[l,<-j.1]
    subst A;have:=((EF q).2 ⟨k,x⟩).2.2;simp;omega
def mh.BA{n:Nat}{a b:List Int}(h:mh n (a++b)):mh n (b++a):=by
 obtain⟨T,c,i⟩:=h;rw[aq4]at c;obtain⟨S1,d,e,f,g⟩:=List.append_eq_map_iff.1 c;subst e;exact⟨d++S1,by rw[aq4,aq4,<-f,<-g],i.BA⟩
def zM{l:List Int}:mh a (Proofs.YtmdbmigbihboaaaGreatDoor.BA l d)↔mh a l:=by
 have e:l.take d++l.drop d=l:=ar7 d l;constructor
 ·intro h
  have:=mh.BA h;rwa[e]at this
 ·intro h
  rw[<-e]at h;exact h.BA
def ajQ{a b:Nat}(d:0<b)(h:a<=100000)(e:b<=100000)(c:g=(a:Int)):FJ (wrap .i64 g) (b:Int)=some ((a % b:Nat):Int):=by
 subst c;rw[gG (by omega) (by omega),Jp (by omega),yj]
def jI(r:List Int):Int:=r.headD 0
def agn(n:Nat)(last:Int)(r:List Int):Prop:=r≠[]/\last<jI r/\eR r/\mC r=jI r/\mh n r
def yx(n:Nat):Int->List (List Int)->Prop
 |_,[]=>True
 |last,r::rs=>agn n last r/\yx n (jI r) rs
def vt(n:Nat)(r:List Int):List Int:=r.filter λt=>decide (t<(n:Int))
def qt(n:Nat)(rs:List (List Int)):List Int:=rs.flatMap (vt n)
structure bR(n:Nat)(rs:List (List Int)):Prop where
 lo:1<=n
 hi:n<=64
 rg:yx n (-1) rs
 nd:(qt n rs).Nodup
 all:∀v:Nat,v<n->(v:Int)∈qt n rs
def yy(h:b≠[]):b[0]? =some (jI b):=by
 cases b with
 |nil=>exact absurd rfl h
 |cons x b=>rfl
def Cu{α:Type} [BEq α] [LawfulBEq α]:∀{A B:List α},A.Nodup->(∀x∈A,x∈B)->A.length<=B.length
 |[],B,_,_=>by simp
 |a::A,B,i,d=>by
  have g:a∈B:=d a (by simp);have c:=avh g;have b:=ars.1 i;have h:=c.length_eq;have j:A.length<=(B.erase a).length:=Cu b.2 λx f=>by
   have:=c.mem_iff.1 (d x (by simp[f]));rcases aqG.1 this with e|e
   ·exact absurd (e▸f) b.1
   ·exact e
  simp at h⊢;omega
def N4{n:Nat}:∀{b:List (List Int)} {c:Int},yx n c b->∀r∈b,∃l,agn n l r
 |[],_,_,r,a=>by cases a
 |x::b,c,h,r,a=>by
  rcases aqG.1 a with rfl|a
  ·exact⟨_,h.1⟩
  ·exact N4 h.2 r a
def adj(h:eR b)(c:g∈vt a b):g∈b/\0<=g/\g<a:=by
 unfold vt at c;simp only[ar_,ard]at c;exact⟨c.1,(h.2.1 g c.1).1,c.2⟩
def adk(h:yx a g c)(b:u∈qt a c):∃r∈c,u∈r/\0<=u/\u<a:=by
 obtain⟨r,d,b⟩:=arz.1 b;obtain⟨l,e⟩:=N4 h r d;exact⟨r,d,adj e.2.2.1 b⟩
def zN(h:mh d b):vt d b≠[]:=by
 obtain⟨T,f,c⟩:=h;cases T with
 |nil=>exact absurd rfl c.ne
 |cons t T=>
  have:=c.own t (by simp);have e:some (t.1,t.1)∈b.map (dk d):=by rw[f];exact aqq.2 ⟨_,this,rfl⟩
  obtain⟨y,g,i⟩:=aqq.1 e;have j:=Cs i;refine List.ne_nil_of_mem (a:=y) ?_;unfold vt;simp only[ar_,ard];exact⟨g,by omega⟩
def VD{n:Nat}:∀{a:List (List Int)} {b:Int},yx n b a->a.length<=(qt n a).length
 |[],_,_=>by simp
 |r::a,b,h=>by
  have:=VD h.2;have c:=ar0.2 (zN h.1.2.2.2.2);unfold qt at this⊢;rw[aqO,aqy,aqC];omega
def adl(h:yx a g c)(b:(qt a c).Nodup):(qt a c).length<=a:=by
 have:=Cu (B:=(List.range a).map λv:Nat=>(v:Int)) b λx d=>by
  obtain⟨r,_,_,e,f⟩:=adk h d;exact aqq.2 ⟨x.toNat,are.2 (by omega),by omega⟩
 simpa using this
def AX(n:Nat):((List.range n).map λv:Nat=>(v:Int)).Nodup:=by
 refine List.Pairwise.map _ ?_ auN;intro a b h e;exact h (by omega)
def VE(h:yx a g c)(e:(qt a c).Nodup):(∀v:Nat,v<a->(v:Int)∈qt a c)↔(qt a c).length=a:=by
 have m:=adl h e;constructor
 ·intro f
  have:=Cu (A:=(List.range a).map λv:Nat=>(v:Int)) (B:=qt a c) (AX a) λx d=>by
   obtain⟨v,b,rfl⟩:=aqq.1 d;exact f v (are.1 b)
  simp at this;omega
 ·intro i v b
  have j:=mU (B:=(List.range a).map λv:Nat=>(v:Int)) e (λx d=>by
   obtain⟨r,_,_,k,l⟩:=adk h d;exact aqq.2 ⟨x.toNat,are.2 (by omega),by omega⟩) (by simp[i])
  exact j.mem_iff.1 (aqq.2 ⟨v,are.2 b,rfl⟩)
def Mv(n:Nat)(seen:List Int)(met:List (Int×Int)):Prop:=∀v:Int,v<n->(bC (.i .i64) met v).getD 0=if v∈seen then 1 else 0
def Mv.aoQ{seen:List Int}(h:Mv a seen e)(i:g<a)(f:g∉seen):Mv a (seen++[g]) (dI (.i .i64) e g (wrap .i64 ((bC (.i .i64) e g).getD 0+1))):=λv j=>by
 have c:=h g i;rw[aqc f]at c;rw[pM,c];by_cases b:g=v
 ·subst b
  rw[aqd rfl,aqd (by simp)];rfl
 ·rw[aqc b,h v j]
  have:v∈seen++[g]↔v∈seen:=by simp only[aqp,aqB];exact⟨λh=>h.resolve_right λd=>b d.symm,.inl⟩
  simp only[this]
def Mv.arc{seen:List Int}(h:Mv a seen e)(c:¬g<a)(x:Int):Mv a seen (dI (.i .i64) e g x):=λv b=>by
 rw[pM,aqc (by omega)];exact h v b
def yz(n:Nat)(t:Int)(r:List Int):vt n (t::r)=if t<(n:Int)then t::vt n r else vt n r:=by
 unfold vt;by_cases c:t<(n:Int)<;>simp[asp,c]
def sb(N:Nat){n:Nat}{r:List Int}(u:r.length<=1000)(g a b:Int)(j l:List (List Int)):∀(m k:Nat) (seen:List Int) (f:List (Int×Int)),r.length - k<m->k<=r.length->seen.Nodup->Mv n seen f->
 ∃o,rA N m (g,j,a,b,r,(r.length:Int),(k:Int),(n:Int),l,f)=some o/\((o=.inr false/\¬(seen++vt n (r.drop k)).Nodup)\/
  ∃z,o=.inl (g,j,a,b,(n:Int),l,z)/\(seen++vt n (r.drop k)).Nodup/\Mv n (seen++vt n (r.drop k)) z)
 |0,k,seen,f,h,_,_,_=>absurd h (by omega)
 |m+1,k,seen,f,D,C,p,d=>by
  rw[Qi,cd];by_cases q:k<r.length
  rotate_left
  ·rw[aqc (by omega),arb (by omega)]
   exact⟨_,rfl,.inr ⟨f,rfl,by simpa[vt]using p,by simpa[vt]using d⟩⟩
  rw[aqd (by omega)];obtain⟨t,v⟩:=get_at (xs:=r) (i:=k) q;rw[ba v,ob,cn (by omega),cd,cY v,yz];by_cases c:t<(n:Int)
  ·rw[aqd c,aqd c,d t c,cd]
   by_cases eK:t∈seen
   ·simp only[aqd eK,aqd (show(0:Int)<1 by decide)]
    exact⟨_,rfl,.inl ⟨rfl,λh=>(aq8.1 h).2.2 t eK t (by simp) rfl⟩⟩
   ·simp only[aqc eK,aqc (show¬(0:Int)<0 by decide)]
    have s:=d.aoQ c eK;rw[d t c,aqc eK]at s;obtain⟨o,A,h⟩:=sb N u g a b j l m (k+1) (seen++[t]) _ (by omega) (by omega) (aq8.2 ⟨p,by simp,λx B y w e=>eK (by simp at w;rw[<-w,<-e];exact B)⟩) s;refine⟨o,A,?_⟩;rw[aqJ]at h;exact h
  ·rw[aqc c,aqc c]
   exact sb N u g a b j l m (k+1) seen _ (by omega) (by omega) p (d.arc c _)
def JC(h:b≠[])(a:mC b=jI b):∀x∈b,jI b<=x:=λx c=>by
 rw[<-a];exact(mT h).2 x c
def AY(N:Nat)(C:Fu+6<=N){n:Nat}(z:1<=n)(A:n<=64){a:List (List Int)}(M:a.length<=9223372036854775807)(E:∀r∈a,r.length<=9223372036854775807):∀(m i:Nat) (c:Int) (seen:List Int) (k:List (Int×Int)),a.length - i<m->i<=a.length->seen.Nodup->Mv n seen k->
 ∃o,wH N m (c,a,(a.length:Int),(i:Int),(n:Int),a,k)=some o/\((o=.inr false/\¬(yx n c (a.drop i)/\(seen++qt n (a.drop i)).Nodup))\/
  ∃f,o=.inl ((n:Int),a,f)/\yx n c (a.drop i)/\(seen++qt n (a.drop i)).Nodup/\Mv n (seen++qt n (a.drop i)) f)
 |0,i,c,seen,k,h,_,_,_=>absurd h (by omega)
 |m+1,i,c,seen,k,V,S,G,F=>by
  rw[Qj,cd];by_cases q:i<a.length
  rotate_left
  ·rw[aqc (by omega),arb (by omega)]
   exact⟨_,rfl,.inr ⟨k,rfl,trivial,by simpa[qt]using G,by simpa[qt]using F⟩⟩
  rw[aqd (by omega)];obtain⟨r,v⟩:=get_at (xs:=a) (i:=i) q;have W:=E r (aqw v);rw[ba v,ob,cY v,cd];have l:¬agn n c r->∃o,(some (.inr false):Option ((Int×List (List Int)×List (Int×Int))⊕Bool))=some o/\((o=.inr false/\¬(yx n c (r::a.drop (i+1))/\(seen++qt n (r::a.drop (i+1))).Nodup))\/
   ∃f,o=.inl ((n:Int),a,f)/\yx n c (r::a.drop (i+1))/\(seen++qt n (r::a.drop (i+1))).Nodup/\Mv n (seen++qt n (r::a.drop (i+1))) f):=λh=>⟨_,rfl,.inl ⟨rfl,λd=>h d.1.1⟩⟩
  by_cases e:r=[]
  ·subst e
   rw[aqd (show(((([]:List Int).length):Nat):Int)=0 from rfl)];exact l λh=>h.1 rfl
  have U:=ar0.2 e;rw[aqc (by omega)];have P:aZ r (0:Int)=some (jI r):=ba (i:=0) (yy e);simp only[P,ob,cd,FQ];by_cases u:jI r<=c
  ·rw[aqd u]
   exact l λh=>by have:=h.2.1;omega
  rw[aqc u,Jr N (by omega) r (by omega),ob];by_cases b:eR r
  rotate_left
  ·rw[aqK b]
   exact l λh=>b h.2.2.1
  rw[aqH b];simp only[aqv,aqi];rw[min_eq N (by omega) r b.1 e,ob];by_cases p:mC r=jI r
  rotate_left
  ·rw[aqc p]
   exact l λh=>p h.2.2.2.1
  rw[aqd p];obtain⟨x,t,w⟩:∃x t,r=x::t:=by
   cases r with
   |nil=>exact absurd rfl e
   |cons x t=>exact⟨x,t,rfl⟩
  have X:jI r=x:=by rw[w];rfl
  obtain⟨g,K,L⟩:=agm (N:=N) (by omega) z A b.1 b.2.2 w;rw[K,ob];have D:g=true↔mh n r:=by
   rw[L];constructor
   ·exactλh=>h.2
   ·intro h
    refine⟨?_,h⟩;obtain⟨y,Q⟩:=ath _ (zN h);have d:=adj b Q;have B:=JC e p y d.1;have j:=(b.2.1 x (by rw[w];simp)).1;omega
  cases g with
  |false=>
   exact l λh=>by
    have:=D.2 h.2.2.2.2;cases this
  |true=>
   have O:¬(jI r<=c)->agn n c r:=λh=>⟨e,by omega,b,p,D.1 rfl⟩;simp only[aqv,aqi];obtain⟨o,s,d⟩:=sb N (n:=n) b.1 (jI r) ((a.length:Nat):Int) (i:Int) a a N 0 seen k (by rw[bH]at C;have:=b.1;omega) (by omega) G F;rw[show((0:Nat):Int)=(0:Int)from rfl]at s;rw[s,ob];rw[aq3]at d;rcases d with⟨rfl,d⟩|⟨f,rfl,d,B⟩
   ·refine⟨_,rfl,.inl ⟨rfl,λh=>d ?_⟩⟩
    have:=h.2;unfold qt at this;rw[aqO,<-aqJ]at this;exact(aq8.1 this).1
   ·simp only
    rw[cn (by omega)];obtain⟨o,s,j⟩:=AY N C z A M E m (i+1) (jI r) (seen++vt n r) f (by omega) (by omega) d B;refine⟨o,s,?_⟩;have H:seen++qt n (r::a.drop (i+1))=seen++vt n r++qt n (a.drop (i+1)):=by
     unfold qt;rw[aqO,aqJ]
    rw[H];rcases j with⟨rfl,j⟩|⟨R,rfl,j,I,J⟩
    ·exact .inl ⟨rfl,λh=>j ⟨h.1.2,h.2⟩⟩
    ·exact .inr ⟨R,rfl,⟨O u,j⟩,I,J⟩
def AZ(N:Nat){n:Nat}(f:n<=64){seen:List Int}{d:List (Int×Int)}(c:Mv n seen d):∀(m v:Nat),n - v<m->v<=n->
 ∃o,wG N m ((n:Int),(v:Int),d)=some o/\((o=.inr false/\¬∀w:Nat,v<=w->w<n->(w:Int)∈seen)\/(o=.inl ()/\∀w:Nat,v<=w->w<n->(w:Int)∈seen))
 |0,v,h,_=>absurd h (by omega)
 |m+1,v,i,j=>by
  rw[Qh,cd];by_cases q:v<n
  rotate_left
  ·rw[aqc (by omega)]
   exact⟨_,rfl,.inr ⟨rfl,λw a b=>by omega⟩⟩
  rw[aqd (by omega),c v (by omega),cd,cn (by omega)];by_cases eK:(v:Int)∈seen
  ·simp only[aqd eK,aqc (show¬(1:Int)=0 by decide)]
   obtain⟨o,g,a⟩:=AZ N f c m (v+1) (by omega) (by omega);refine⟨o,g,?_⟩;have e:(∀w:Nat,v<=w->w<n->(w:Int)∈seen)↔∀w:Nat,v+1<=w->w<n->(w:Int)∈seen:=by
    constructor
    ·exactλh w a b=>h w (by omega) b
    ·intro h w a b
     by_cases e:w=v
     ·subst e;exact eK
     ·exact h w (by omega) b
   rw[e];exact a
  ·simp only[aqc eK,aqd (show(0:Int)=0 from rfl)]
   exact⟨_,rfl,.inl ⟨rfl,λh=>eK (h v (by omega) q)⟩⟩
def tw(i:Fu+7<=a)(f:Int){rs:List (List Int)}(l:rs.length<=9223372036854775807)(m:∀r∈rs,r.length<=9223372036854775807):∃b,rB a (f,rs)=some b/\(b=true↔0<=f/\bR f.toNat rs):=by
 obtain⟨a,rfl⟩:∃M,a=M+1:=⟨a - 1,by omega⟩;rw[Xg,yu (by omega),ob];by_cases c:1<=f/\f<=64
 rotate_left
 ·rw[aqK c]
  exact⟨false,rfl,by simp only[arS,asZ];rintro⟨s,h⟩;exact c ⟨by have:=h.lo;omega,by have:=h.hi;omega⟩⟩
 rw[aqH c];obtain⟨n,rfl⟩:∃n:Nat,f=n:=⟨f.toNat,by omega⟩;simp only[aqv,aqi,aqo];obtain⟨o,g,d⟩:=AY a (by omega) (n:=n) (by omega) (by omega) l m a 0 (-1) [] [] (by rw[bH]at i;omega) (by omega) (by simp) (λv _=>by simp[bC]);rw[show((0:Nat):Int)=(0:Int)from rfl]at g;rw[g,ob];rw[aq3,aqZ]at d;rcases d with⟨rfl,d⟩|⟨t,rfl,d,j,k⟩
 ·exact⟨false,rfl,by simp only[arS,asZ];rintro⟨_,h⟩;exact d ⟨h.rg,h.nd⟩⟩
 ·simp only
  obtain⟨o,g,e⟩:=AZ a (n:=n) (by omega) k a 0 (by rw[bH]at i;omega) (by omega);rw[show((0:Nat):Int)=(0:Int)from rfl]at g;rw[g,ob];rcases e with⟨rfl,e⟩|⟨rfl,e⟩
  ·exact⟨false,rfl,by simp only[arS,asZ];rintro⟨_,h⟩;exact e λw _ q=>h.all w q⟩
  ·exact⟨true,rfl,by simp only[true_iff];exact⟨by omega,by omega,by omega,d,j,λv p=>e v (by omega) p⟩⟩
def QE(h:eR b)(a:b≠[]):cZ b=b↔mC b=jI b:=by
 rw[fE h a];have d:=(mT a).1;constructor
 ·intro e
  have:=r8 d;rw[e,yy a]at this;exact(aql this).symm
 ·intro e
  have c:ix b (mC b)=0:=ahI h.2.2 (by rw[e];exact yy a);unfold dU;rw[c];simp[BA]
def Body(n:Nat)(r:List Int):Prop:=r≠[]/\eR r/\mC r=jI r/\mh n r
def yA(h:b≠[]):jI b∈b:=aqw (yy h)
def yB{n:Nat}:∀{c:List (List Int)} {e:Int},yx n e c↔(∀r∈c,Body n r)/\c.Pairwise (λa b=>jI a<jI b)/\∀r∈c,e<jI r
 |[],e=>by simp[yx]
 |r::c,e=>by
  rw[yx,yB];simp only[atv,ar1];constructor
  ·rintro⟨⟨f,g,h,i,j⟩,k,l,d⟩
   exact⟨⟨⟨f,h,i,j⟩,k⟩,⟨d,l⟩,g,λx m=>by have:=d x m;omega⟩
  ·rintro⟨⟨⟨f,h,i,j⟩,k⟩,⟨d,l⟩,g,o⟩
   exact⟨⟨f,g,h,i,j⟩,k,l,d⟩
def bR.body(h:bR a c):∀r∈c,Body a r:=(yB.1 h.rg).1
def bR.VF(h:bR a c):c.Pairwise λd b=>jI d<jI b:=(yB.1 h.rg).2.1
def bR.of(f:1<=a)(g:a<=64)(e:∀r∈c,Body a r)(j:c.Pairwise λd b=>jI d<jI b)(i:(qt a c).Nodup)(h:∀v:Nat,v<a->(v:Int)∈qt a c):bR a c:=
 ⟨f,g,yB.2 ⟨e,j,λr k=>by
  have:=e r k;have:=(this.2.1.2.1 _ (yA this.1)).1;omega⟩,i,h⟩
def Body.head(h:Body a b):0<=jI b/\jI b<a:=by
 have e:=(h.2.1.2.1 _ (yA h.1)).1;obtain⟨y,d⟩:=ath _ (zN h.2.2.2);have c:=adj h.2.1 d;have f:=JC h.1 h.2.2.1 y c.1;omega
def Body.pS(h:Body a b):jI b∈vt a b:=by
 unfold vt;simp only[ar_,ard];exact⟨yA h.1,h.head.2⟩
def iN(c:d<a):(d:Int)∈vt a b↔(d:Int)∈b:=by
 unfold vt;simp only[ar_,ard];exact⟨λh=>h.1,λh=>⟨h,by omega⟩⟩
def zO{α β:Type}{f:α->List β}:∀{g:List α},(g.flatMap f).Nodup->∀{i j:Nat} {a b:α} {x:β},g[i]? =some a->g[j]? =some b->x∈f a->x∈f b->i=j
 |[],_,i,j,a,b,x,c,_,_,_=>by simp at c
 |r::g,e,i,j,a,b,x,c,d,h,k=>by
  rw[aqO,aq8]at e;cases i with
  |zero=>
   cases j with
   |zero=>rfl
   |succ j=>
    simp only[atT,aqg,ar2]at c d;subst c;exact absurd rfl (e.2.2 x h x (arz.2 ⟨b,aqw d,k⟩))
  |succ i=>
   cases j with
   |zero=>
    simp only[atT,aqg,ar2]at c d;subst d;exact absurd rfl (e.2.2 x k x (arz.2 ⟨a,aqw c,h⟩))
   |succ j=>
    simp only[ar2]at c d;rw[zO e.2.1 c d h k]
def kT:List (List Int)->Int->Nat
 |[],_=>0
 |r::rs,v=>if v∈r then 0 else kT rs v+1
def VG:∀{rs:List (List Int)} {v:Int},kT rs v<rs.length->∃r,rs[kT rs v]? =some r/\v∈r
 |[],v,h=>by simp at h
 |r::rs,v,h=>by
  rw[kT];split
  ·rename_i c;exact⟨r,rfl,c⟩
  ·rename_i c
   rw[kT,aqc c]at h;simp only[aqC]at h;obtain⟨d,a,b⟩:=VG (rs:=rs) (v:=v) (by omega);exact⟨d,by rw[ar2];exact a,b⟩
def adm:∀{a:List (List Int)} {v:Int} {r:List Int},r∈a->v∈r->kT a v<a.length
 |x::a,v,r,h,b=>by
  rw[kT,aqC];split
  ·omega
  ·rename_i c
   rcases aqG.1 h with rfl|h
   ·exact absurd b c
   ·have:=adm h b
    omega
def dG(rs:List (List Int))(v:Nat):List Int:=rs.getD (kT rs (v:Int)) []
def vw(rs:List (List Int))(v:Nat):Nat:=(jI (dG rs v)).toNat
def bR.ring(h:bR a c)(g:d<a):c[kT c (d:Int)]? =some (dG c d)/\(d:Int)∈dG c d/\dG c d∈c/\kT c (d:Int)<c.length:=by
 obtain⟨r,j,k⟩:=arz.1 (h.all d g);have f:=adm j ((iN g).1 k);obtain⟨l,b,i⟩:=VG f;have e:dG c d=l:=by unfold dG;rw[arI,b];rfl
 rw[e];exact⟨b,i,aqw b,f⟩
def bR.uniq(h:bR a c)(i:d<a)(g:c[o]? =some b)(j:(d:Int)∈b):o=kT c (d:Int)/\b=dG c d:=by
 have e:=h.ring i;have:=zO (f:=vt a) h.nd g e.1 ((iN i).2 j) ((iN i).2 e.2.1);refine⟨this,?_⟩;rw[this,e.1]at g;exact(aql g).symm
def bR.lv(h:bR a c)(j:d<a)(e:b∈c)(g:(d:Int)∈b):jI b=(vw c d:Int)/\vw c d<a:=by
 obtain⟨i,f⟩:=atU e;have:=(h.uniq j f g).2;have k:=(h.body b e).head;unfold vw;rw[<-this];omega
def bR.ahL(h:bR a c)(b:d<a):vw c d<a:=(h.lv b (h.ring b).2.2.1 (h.ring b).2.1).2
def bR.same{n:Nat}(h:bR n c)(j:a<n)(k:d<n):kT c (a:Int)=kT c (d:Int)↔vw c a=vw c d:=by
 have b:=h.ring j;have g:=h.ring k;have l:=(h.lv j b.2.2.1 b.2.1).1;have i:=(h.lv k g.2.2.1 g.2.1).1;constructor
 ·intro e
  rw[e,g.1]at b;have:=aql b.1;rw[this]at i;omega
 ·intro e
  have m:=h.body _ b.2.2.1;have o:=h.body _ g.2.2.1;refine zO (f:=vt n) h.nd b.1 g.1 m.pS ?_;rw[l,e,<-i];exact o.pS
def adn(h:mh a b):b.length+2=3*(vt a b).length:=by
 obtain⟨T,f,l⟩:=h;have i:=l.len;have j:b.length=T.length:=by simpa using aqr List.length f
 have k:∀(b:List Int) (T:List Tk),b.map (dk a)=T.map some->(vt a b).length=(eJ T).length:=λb=>by
  induction b with
  |nil=>intro T f;cases T<;>simp[vt,eJ]at f⊢
  |cons x b m=>
   intro T f;cases T with
   |nil=>simp at f
   |cons t T=>
    simp only[aqz,arl]at f;have:=m T f.2;rw[yz,iM];obtain⟨d,e⟩:=t;have g:=yt f.1;unfold ek at g;by_cases c:d=e
    ·subst c
     simp only[aqP]at g;rw[aqd (by omega),aqd rfl];simp[this]
    ·simp only[c,aq_]at g
     have:a*1<=a*(d+1):=ar8 a (by omega);rw[aqc (by omega),aqc c];assumption
 rw[j,k b T f];exact i
def VH(h:b.Perm n):(vt a b).Perm (vt a n):=h.filter _
def yC{n:Nat}{a b:List (List Int)}(h:a.Perm b):(qt n a).Perm (qt n b):=h.flatMap_right _
def oA(n:Nat)(u v:Nat)(a b:List Int):List Int:=[(u:Int),ek n (u,v)]++dU b (v:Int)++[ek n (v,u)]++(dU a (u:Int)).drop 1
def JD(h:d≠o)(f:d<a)(g:o<a):(a:Int)<=ek a (d,o)/\ek a (d,o)<=10000\/64<a:=by
 by_cases c:64<a
 ·exact .inr c
 ·refine .inl ?_
  unfold ek;simp only[h,aq_];have b:a*1<=a*(d+1):=ar8 a (by omega);have e:a*(d+1)<=64*64:=arO (by omega) (by omega);omega
def mi(h:u∈b):dU b u=u::(dU b u).drop 1:=by
 have:=r8 h;cases a:dU b u with
 |nil=>rw[a]at this;simp at this
 |cons x l=>rw[a]at this;simp at this;rw[this];rfl
def vx(a:List Int)(u:Int):(dU a u).Perm a:=yn _ _
def EI{n u v:Nat}{a b:List Int}(f:(u:Int)∈a):(oA n u v a b).Perm (ek n (u,v)::ek n (v,u)::(a++b)):=by
 unfold oA;have c:([(u:Int),ek n (u,v)]++dU b (v:Int)++[ek n (v,u)]++(dU a (u:Int)).drop 1).Perm (ek n (u,v)::ek n (v,u)::((u:Int)::(dU a (u:Int)).drop 1++dU b (v:Int))):=by
  have d:[(u:Int),ek n (u,v)]++dU b (v:Int)++[ek n (v,u)]++(dU a (u:Int)).drop 1=(u:Int)::ek n (u,v)::(dU b (v:Int)++ek n (v,u)::(dU a (u:Int)).drop 1):=by simp
  rw[d];refine(List.Perm.swap _ _ _).trans (List.Perm.cons _ ?_);have e:(dU b (v:Int)++ek n (v,u)::(dU a (u:Int)).drop 1).Perm (ek n (v,u)::((dU a (u:Int)).drop 1++dU b (v:Int))):=by
   have:= @ats _ (dU b (v:Int)) (ek n (v,u)::(dU a (u:Int)).drop 1);simpa using this
  exact(e.cons (u:Int)).trans (List.Perm.swap _ _ _)
 rw[<-mi f]at c;exact c.trans (((((vx a u).append (vx b v))).cons _).cons _)
def N5{T:List Tk}(c:b.map (dk a)=T.map some)(e:d<a):(d:Int)∈b↔(d,d)∈T:=by
 constructor
 ·intro h
  have:dk a (d:Int)∈T.map some:=by rw[<-c];exact aqq.2 ⟨_,h,rfl⟩
  rw[hQ e]at this;simpa using this
 ·intro h
  have:some (d,d)∈b.map (dk a):=by rw[c];exact aqq.2 ⟨_,h,rfl⟩
  obtain⟨y,f,g⟩:=aqq.1 this;rw[<-(Cs g).1];exact f
def EJ(f:d<a)(l:o<a)(A:Body a b)(B:Body a n)(k:(d:Int)∈b)(q:(o:Int)∈n)(p:∀x∈vt a b,x∉vt a n):mh a (oA a d o b n):=by
 have H:d≠o:=λe=>by subst e;exact p _ ((iN f).2 k) ((iN f).2 q)
 have s:mh a (dU b (d:Int)):=zM.2 A.2.2.2;have u:mh a (dU n (o:Int)):=zM.2 B.2.2.2;obtain⟨TA,c,v⟩:=s;obtain⟨j,g,w⟩:=u;rw[mi k]at c;have m:=g;rw[mi q]at g;obtain⟨TA,rfl⟩:∃T,TA=(d,d)::T:=by
  cases TA with
  |nil=>simp at c
  |cons t T=>
   simp only[aqz,arl,hQ f,aqg]at c;exact⟨T,by rw[c.1]⟩
 obtain⟨j,rfl⟩:∃T,j=(o,o)::T:=by
  cases j with
  |nil=>simp at g
  |cons t T=>
   simp only[aqz,arl,hQ l,aqg]at g;exact⟨T,by rw[g.1]⟩
 have C:∀{r:List Int} {T:List Tk},r.map (dk a)=T.map some->∀x,(x,x)∈T->x<a:=λ{r T} z x h=>by
  have:some (x,x)∈r.map (dk a):=by rw[z];exact aqq.2 ⟨_,h,rfl⟩
  obtain⟨y,_,E⟩:=aqq.1 this;exact(Cs E).2
 refine⟨_,?_,v.link w λx h D=>?_⟩
 ·unfold oA
  simp only[aqz,arl]at c;simp only[aq4,aqz,aro,hQ f,adf (e:=(d,o)) f l,adf (e:=(o,d)) l f,m,c.2,arw,aqZ,aqJ]
 ·have i:=C c x h
  rw[<-mi k]at c;have F:=Hv.1 ((N5 c i).2 h);have G:=Hv.1 ((N5 m i).2 D);exact p _ ((iN i).2 F) ((iN i).2 G)
def N6{c b:List Int}(l:a<=64)(f:d<a)(h:o<a)(g:d≠o)(i:(d:Int)∈c):(vt a (oA a d o c b)).Perm (vt a c++vt a b):=by
 refine(VH (EI i)).trans ?_;have j:=JD g f h;have k:=JD (λe=>g e.symm) h f;rw[yz,yz,aqc (by omega),aqc (by omega)];unfold vt;rw[asF]
def amN{e:Tk}(h:dk a g=some e)(i:a<=64):0<=g/\g<=10000:=by
 have f:=yt h;obtain⟨d,b⟩:=e;unfold ek at f;by_cases c:d=b
 ·subst c
  simp only[aqP]at f;omega
 ·simp only[c,aq_]at f
  have j:a*(d+1)<=64*64:=arO i (by omega);omega
def EK(j:a<=64)(c:d<a)(k:o<a)(m:Body a b)(p:Body a n)(g:(d:Int)∈b)(l:(o:Int)∈n)(i:∀x∈vt a b,x∉vt a n)(w:(vt a b).length+(vt a n).length<=a):eR (oA a d o b n):=by
 obtain⟨T,f,h⟩:=EJ c k m p g l i;have u:d≠o:=λe=>by subst e;exact i _ ((iN c).2 g) ((iN c).2 l)
 have v:=adn ⟨T,f,h⟩;have r:=(N6 j c k u g (b:=n)).length_eq;rw[aqy]at r;refine⟨by omega,λt s=>?_,(EG f).2 h.nod⟩;have:dk a t∈T.map some:=by rw[<-f];exact aqq.2 ⟨t,s,rfl⟩
 obtain⟨e,_,q⟩:=aqq.1 this;exact amN q.symm j
def EL:List (List Int)->List Int->List (List Int)
 |[],r=>[r]
 |x::l,r=>if jI x<jI r then x::EL l r else r::x::l
def tA:∀(l:List (List Int)) (r:List Int),(EL l r).Perm (r::l)
 |[],r=>atW _
 |x::l,r=>by
  rw[EL];split
  ·exact((tA l r).cons x).trans (List.Perm.swap _ _ _)
  ·exact atW _
def N7:∀{l:List (List Int)} {r:List Int},l.Pairwise (λa b=>jI a<jI b)->(∀x∈l,jI x≠jI r)->(EL l r).Pairwise λa b=>jI a<jI b
 |[],r,_,_=>by simp[EL]
 |x::l,r,g,f=>by
  rw[EL];have e:=ar1.1 g;split
  ·rename_i c
   refine ar1.2 ⟨λy d=>?_,N7 e.2 λy d=>f y (by simp[d])⟩;have:=(tA l r).mem_iff.1 d;rcases aqG.1 this with rfl|h
   ·exact c
   ·exact e.1 y h
  ·rename_i c
   have i:=f x (by simp);refine ar1.2 ⟨λy d=>?_,g⟩;rcases aqG.1 d with rfl|h
   ·omega
   ·have:=e.1 y h
    omega
def j_{α:Type}:∀{l:List α} {i:Nat} {x:α},l[i]? =some x->l.Perm (x::l.eraseIdx i)
 |[],i,x,h=>by simp at h
 |y::l,0,x,h=>by
  simp at h;subst h;exact atW _
 |y::l,i+1,x,h=>by
  rw[ar2]at h;rw[List.eraseIdx_cons_succ];exact((j_ h).cons y).trans (List.Perm.swap _ _ _)
def N8{l:List m}(h:d<a):(l.eraseIdx a)[d]? =l[d]? :=by
 rw[List.getElem?_eraseIdx,aqd h]
def Hy(rs:List (List Int))(i j:Nat):List (List Int):=(rs.eraseIdx (max i j)).eraseIdx (min i j)
def vy(g:c[a]? =some b)(i:c[d]? =some n)(j:a≠d):c.Perm (b::n::Hy c a d):=by
 unfold Hy;rcases asQ a d with h|h
 ·rw[auJ (by omega),arB (by omega)]
  have e:=j_ i;have f:=j_ (l:=c.eraseIdx d) (i:=a) (x:=b) (by rw[N8 h];exact g);exact(e.trans (f.cons n)).trans (List.Perm.swap _ _ _)
 ·rw[auK (by omega),atu (by omega)]
  have e:=j_ g;have f:=j_ (l:=c.eraseIdx a) (i:=d) (x:=n) (by rw[N8 (by omega)];exact i);exact e.trans (f.cons b)
def Yn(a:List (List Int))(i j:Nat):(Hy a i j).Sublist a:=(auO _ _).trans (auO _ _)
def oC(n:Nat)(rs:List (List Int))(u v:Nat):List (List Int):=EL (Hy rs (kT rs (u:Int)) (kT rs (v:Int))) (cZ (oA n u v (dG rs u) (dG rs v)))
def ado(h:eR b)(a:b≠[]):jI (cZ b)=mC b:=by
 rw[fE h a];have:=r8 (mT a).1;cases c:dU b (mC b)with
 |nil=>rw[c]at this;simp at this
 |cons x r=>rw[c]at this;simp at this;rw[<-this];rfl
def QF(h:eR b)(a:b≠[]):(cZ b).Perm b:=by
 rw[fE h a];exact vx _ _
def VI{g:List (List Int)}(h:bR a g)(t:d<a)(u:o<a)(O:kT g (d:Int)≠kT g (o:Int)):
 bR a (oC a g d o)/\(∀x,x<a->vw (oC a g d o) x=jn (vw g) d o x)/\(oC a g d o).length+1=g.length:=by
 have v:=h.ring t;have A:=h.ring u;have Z:=h.hi;have p:=h.body _ v.2.2.1;have q:=h.body _ A.2.2.1;have m:=vy v.1 A.1 O;generalize a0:Hy g (kT g (d:Int)) (kT g (o:Int))=j at m;have P:j.Sublist g:=a0▸Yn _ _ _;generalize ha:dG g d=f at v p m;generalize hb:dG g o=b at A q m;have G:=yC (n:=a) m;have a8:(qt a (f::b::j)).Nodup:=G.nodup_iff.1 h.nd;have N:=a8;unfold qt at N;rw[aqO,aqO]at N;have F:=aq8.1 N;have S:=aq8.1 F.2.1;have Y:∀x∈vt a f,x∉vt a b:=λx i E=>F.2.2 x i x (by simp[E]) rfl;have Q:d≠o:=λe=>O (by rw[e]);have a4:=(VE h.rg h.nd).1 h.all;have a6:(vt a f).length+(vt a b).length<=a:=by
  have:=G.length_eq;unfold qt at this a4;rw[aqO,aqO,aqy,aqy]at this;omega
 have U:=EJ t u p q v.2.1 A.2.1 Y;have z:=EK Z t u p q v.2.1 A.2.1 Y a6;have V:=N6 (b:=b) Z t u Q v.2.1;have H:=EI (n:=a) (v:=o) (b:=b) v.2.1;have C:oA a d o f b≠[]:=by unfold oA;simp
 have a5:oC a g d o=EL j (cZ (oA a d o f b)):=by
  unfold oC;rw[a0,ha,hb]
 rw[a5];generalize oA a d o f b=J at U z V H C;have I:=QF z C;have W:cZ J≠[]:=λe=>C (by rw[e]at I;exact I.symm.eq_nil);have X:Body a (cZ J):=by
  have k:=QA z;refine⟨W,k,(QE k W).1 (NQ z),?_⟩;rw[fE z C];exact zM.2 U
 have K:(vt a (cZ J)).Perm (vt a f++vt a b):=(VH I).trans V;have D:=tA j (cZ J);have a1:(qt a (EL j (cZ J))).Perm (qt a g):=by
  refine(yC D).trans (List.Perm.trans ?_ G.symm);unfold qt;rw[aqO,aqO,aqO,<-aqJ];exact K.append_right _
 have M:∀r∈j,Body a r:=λr k=>h.body r (P.subset k);have ac:jI (cZ J)=min (jI f) (jI b):=by
  rw[ado z C];refine zL ?_ λy n=>?_
  ·refine H.mem_iff.2 (ari _ (ari _ (aqp.2 ?_)))
   rcases Int.le_total (jI f) (jI b)with c|c
   ·rw[Int.min_eq_left c];exact .inl (yA p.1)
   ·rw[Int.min_eq_right c];exact .inr (yA q.1)
  ·have e1:=JD Q t u
   have e2:=JD (λe=>Q e.symm) u t;have ka:=p.head;have kb:=q.head;rcases aqG.1 (H.mem_iff.1 n)with rfl|n
   ·omega
   rcases aqG.1 n with rfl|n
   ·omega
   rcases aqp.1 n with n|n
   ·have:=JC p.1 p.2.2.1 y n;omega
   ·have:=JC q.1 q.2.2.1 y n;omega
 have a9:∀x∈j,jI x≠jI (cZ J):=λx i e=>by
  have B:=(M x i).pS;rw[e]at B;have s:=K.mem_iff.1 X.pS;have R:jI (cZ J)∈j.flatMap (vt a):=arz.2 ⟨x,i,B⟩;rcases aqp.1 s with s|s
  ·exact F.2.2 _ s _ (by simp only[aqp];exact .inr R) rfl
  ·exact S.2.2 _ s _ R rfl
 have L:bR a (EL j (cZ J)):=bR.of h.lo h.hi (λr k=>by
  rcases aqG.1 (D.mem_iff.1 k)with rfl|k
  ·exact X
  ·exact M r k) (N7 (h.VF.sublist P) a9) (a1.nodup_iff.2 h.nd) λw hw=>a1.mem_iff.2 (h.all w hw)
 refine⟨L,λx i=>?_,?_⟩
 ·have cu:=h.lv t (m.mem_iff.2 (by simp:f∈f::b::j)) v.2.1
  have cv:=h.lv u (m.mem_iff.2 (by simp:b∈f::b::j)) A.2.1;have ab:vw g d≠vw g o:=λe=>O ((h.same t u).2 e);have E:=G.mem_iff.1 (h.all x i);unfold qt at E;rw[aqO,aqO]at E;have a3:(x:Int)∈vt a f\/(x:Int)∈vt a b->vw (EL j (cZ J)) x=min (vw g d) (vw g o):=λl=>by
   have a7:(x:Int)∈cZ J:=(iN i).1 (K.mem_iff.2 (aqp.2 l));have:=(L.lv i (D.mem_iff.2 (by simp)) a7).1;omega
  rcases aqp.1 E with l|l
  ·have:=(h.lv i (m.mem_iff.2 (by simp:f∈f::b::j)) ((iN i).1 l)).1
   rw[a3 (.inl l)];unfold jn;split<;>omega
  rcases aqp.1 l with l|l
  ·have:=(h.lv i (m.mem_iff.2 (by simp:b∈f::b::j)) ((iN i).1 l)).1
   rw[a3 (.inr l)];unfold jn;split<;>omega
  ·obtain⟨r,k,a2⟩:=arz.1 l
   have B:=(h.lv i (P.subset k) ((iN i).1 a2)).1;have s:=(L.lv i (D.mem_iff.2 (ari _ k)) ((iN i).1 a2)).1;have aa:=(M r k).pS;have eK:jI r∈j.flatMap (vt a):=arz.2 ⟨r,k,aa⟩;have n1:jI r≠jI f:=λe=>F.2.2 _ p.pS _ (by simp only[aqp];exact .inr eK) e.symm;have n2:jI r≠jI b:=λe=>S.2.2 _ q.pS _ eK e.symm;unfold jn;split
   ·omega
   ·omega
 ·have B:=D.length_eq
  have s:=m.length_eq;simp at B s;omega
def QG(rs:List (List Int))(v:Int):Int:=if kT rs v<rs.length then(kT rs v:Int)else -1
def bR.small(h:bR a c):c.length<=a/\∀r∈c,r.length<=1000:=by
 have d:=VD h.rg;have e:=adl h.rg h.nd;exact⟨by omega,λr b=>(h.body r b).2.1.1⟩
def bR.QG(h:bR a c)(b:d<a):Proofs.YtmdbmigbihboaaaGreatDoor.QG c (d:Int)=(kT c (d:Int):Int):=aqd (h.ring b).2.2.2
def lg(n:Nat):List (List Int)->List (Nat×Nat)->List (List Int)
 |rs,[]=>rs
 |rs,e::l=>lg n (if kT rs (e.1:Int)=kT rs (e.2:Int)then rs else oC n rs e.1 e.2) l
def lh(n:Nat):List (List Int)->List (Nat×Nat)->List Bool
 |_,[]=>[]
 |rs,e::l=>(vw rs e.1 !=vw rs e.2)::lh n (if kT rs (e.1:Int)=kT rs (e.2:Int)then rs else oC n rs e.1 e.2) l
def pT:(Nat->Nat)->List (Nat×Nat)->List Bool
 |_,[]=>[]
 |c,e::l=>(c e.1 !=c e.2)::pT (jn c e.1 e.2) l
def adp{c b:Nat->Nat}(h:∀B,B<a->c B=b B)(e:d<a)(f:o<a)(g:B<a):jn c d o B=jn b d o B:=by
 unfold jn;rw[h d e,h o f,h B g]
def JE(h:bR a c)(f:d<a)(g:o<a):
 bR a (if kT c (d:Int)=kT c (o:Int)then c else oC a c d o)/\(∀x,x<a->vw (if kT c (d:Int)=kT c (o:Int)then c else oC a c d o) x=jn (vw c) d o x)/\
  (if kT c (d:Int)=kT c (o:Int)then c else oC a c d o).length+(if vw c d !=vw c o then 1 else 0)=c.length:=by
 by_cases b:kT c (d:Int)=kT c (o:Int)
 ·rw[aqd b]
  have e:=(h.same f g).1 b;exact⟨h,λx i=>by rw[agk e],by simp[e]⟩
 ·rw[aqc b]
  have e:vw c d≠vw c o:=λe=>b ((h.same f g).2 e);have:=VI h f g b;exact⟨this.1,this.2.1,by rw[aqd (by simpa using e)];exact this.2.2⟩
def N9{n:Nat}:∀{l:List (Nat×Nat)} {d:List (List Int)} {c:Nat->Nat},bR n d->Jv n l->(∀x,x<n->vw d x=c x)->lh n d l=pT c l
 |[],_,_,_,_,_=>rfl
 |e::l,d,c,h,g,f=>by
  have a:=g e (by simp);have i:=JE h a.1 a.2;rw[lh,pT,f _ a.1,f _ a.2];congr 1;exact N9 i.1 (λx b=>g x (by simp[b])) λx b=>by rw[i.2.1 x b,adp f a.1 a.2 b]
def EM(d a:Nat->Nat):∀l:List (Nat×Nat),pT (λx=>d (a x)) l=pT d (l.map λe=>(a e.1,a e.2))
 |[]=>rfl
 |e::l=>by
  have:=EM (jn d (a e.1) (a e.2)) a l;rw[aqz,pT,pT,<-this];rfl
def N_:∀(l p:List (Nat×Nat)),pT (Fy p) l=je p l
 |[],p=>rfl
 |e::l,p=>by
  rw[pT,je,<-NS,N_ l (p++[e])];rfl
def Hz{n:Nat}:∀{l:List (Nat×Nat)} {a:List (List Int)},bR n a->Jv n l->bR n (lg n a l)/\(lg n a l).length+((lh n a l).filter id).length=a.length
 |[],a,h,_=>⟨h,by simp[lg,lh]⟩
 |e::l,a,h,d=>by
  have f:=d e (by simp);have g:=JE h f.1 f.2;have i:=Hz (l:=l) g.1 λx j=>d x (by simp[j]);rw[lg,lh];refine⟨i.1,?_⟩;have k:=i.2;have b:=g.2.2;rw[asp];simp only[id];by_cases c:(vw a e.1 !=vw a e.2)=true
  ·rw[aqd c]at b⊢
   simp only[aqC];omega
  ·rw[aqc c]at b⊢
   omega
def bR.tr(e:Fu+7<=a)(h:bR d c):rB a ((d:Int),c)=some true:=by
 obtain⟨l,j⟩:=h.small;have k:=h.hi;obtain⟨b,f,g⟩:=tw e (d:Int) (rs:=c) (by omega) (λr i=>by have:=j r i;omega);rw[f,g.2 ⟨by omega,by rw[aqo];exact h⟩]
def A0(N:Nat)(g:Fu+3<=N)(v:Int){a:List (List Int)}(j:a.length<=9223372036854775807)(f:∀r∈a,r.length<=9223372036854775807):∀(m i:Nat),a.length - i<m->i<=a.length->
 BZ N m (a,(a.length:Int),(i:Int),v)=some (if kT (a.drop i) v<(a.drop i).length then .inr (((i+kT (a.drop i) v:Nat):Int),v)else .inl v)
 |0,i,h,_=>absurd h (by omega)
 |m+1,i,l,k=>by
  rw[Xj,cd];by_cases q:i<a.length
  ·rw[aqd (by omega)]
   obtain⟨r,b⟩:=get_at (xs:=a) (i:=i) q;obtain⟨d,rfl⟩:∃M,N=M+1:=⟨N - 1,by omega⟩;rw[ba b,ob,aaZ,has_eq d (by omega) r v (f r (aqw b)),ob,ob,cY b,cn (by omega),A0 (d+1) g v j f m (i+1) (by omega) (by omega),kT];simp only[cd];by_cases c:v∈r
   ·rw[aqd c,aqd c,aqd (by simp)];rfl
   ·rw[aqc c,aqc c]
    simp only[aqC];by_cases e:kT (a.drop (i+1)) v<(a.drop (i+1)).length
    ·rw[aqd e,aqd (by omega)]
     congr 4;omega
    ·rw[aqc e,aqc (by omega)]
  ·rw[aqc (by omega),arb (by omega)];rfl
def zP{N:Nat}(a:Fu+5<=N)(f v:Int){rs:List (List Int)}(b:rs.length<=9223372036854775807)(d:∀r∈rs,r.length<=9223372036854775807):zx N (f,rs,v)=some (QG rs v):=by
 obtain⟨N,rfl⟩:∃M,N=M+2:=⟨N - 2,by omega⟩;have:=A0 N (by omega) v b d N 0 (by rw[bH]at a;omega) (by omega);rw[show((0:Nat):Int)=(0:Int)from rfl,aq3]at this;rw[Xk,aa1,this,ob];unfold QG;by_cases c:kT rs v<rs.length
 ·rw[aqd c,aqd c,aqN];rfl
 ·rw[aqc c,aqc c];rfl
def adq(g:Fu+8<=a)(h:bR d c)(f:o<d):Eg a ((d:Int),c,(o:Int))=some (kT c (o:Int):Int):=by
 obtain⟨a,rfl⟩:∃M,a=M+1:=⟨a - 1,by omega⟩;obtain⟨k,e⟩:=h.small;have j:=h.lo;have i:=h.hi;rw[XY,N0 (by omega),ob,h.tr (by omega),aqH (show((1:Int)<=(d:Int)/\(d:Int)<=64)/\0<=(o:Int)/\(o:Int)<(d:Int) by omega)];simp only[ob,aqv,aqi];rw[zP (by omega) _ _ (by omega) (λr b=>by have:=e r b;omega),ob,h.QG f]
def HA(N:Nat)(g:1<=N)(n:Int)(a:List (List Int)){s:List Int}(k:s.length<=9223372036854775807):∀(m i:Nat),s.length - i<m->i<=s.length->
 ∃o,BX N m (s,(s.length:Int),(i:Int),n,a)=some o/\((o=.inl (n,a)/\∀v∈s.drop i,0<=v/\v<n)\/∃j:Nat,o=.inr ((j:Int),n,a)/\¬∀v∈s.drop i,0<=v/\v<n)
 |0,i,h,_=>absurd h (by omega)
 |m+1,i,r,p=>by
  rw[Xh,cd];by_cases q:i<s.length
  ·rw[aqd (by omega)]
   obtain⟨v,e⟩:=get_at (xs:=s) (i:=i) q;obtain⟨d,rfl⟩:∃M,N=M+1:=⟨N - 1,by omega⟩;have f:SU (d+1) (v,n,a)=some (decide (v<0\/n<=v),n,a):=by
    rw[aaQ,cd];by_cases c:v<0
    ·rw[aqd c];simp[c]
    ·rw[aqc c];simp[c]
   rw[ba e,ob,f,ob,cY e,cn (by omega)];simp only[cd];by_cases c:v<0\/n<=v
   ·rw[aqd c]
    exact⟨_,rfl,.inr ⟨i,rfl,λh=>by have:=h v (by simp);omega⟩⟩
   ·rw[aqc c]
    obtain⟨o,l,b⟩:=HA (d+1) g n a k m (i+1) (by omega) (by omega);refine⟨o,l,?_⟩;simp only[atv];rcases b with⟨rfl,b⟩|⟨j,rfl,b⟩
    ·exact .inl ⟨rfl,by omega,b⟩
    ·exact .inr ⟨j,rfl,λh=>b h.2⟩
  ·rw[aqc (by omega),arb (by omega)]
   exact⟨_,rfl,.inl ⟨rfl,by simp⟩⟩
def zQ{N:Nat}(e:Fu+8<=N)(h:bR a c)(s:List Int)(f:s.length<=9223372036854775807):Gz N ((a:Int),c,s)=some (if∀v∈s,0<=v/\v<(a:Int)then 0 else 10):=by
 obtain⟨N,rfl⟩:∃M,N=M+3:=⟨N - 3,by omega⟩;obtain⟨o,d,b⟩:=HA N (by omega) (a:Int) c f N 0 (by rw[bH]at e;omega) (by omega);rw[show((0:Nat):Int)=(0:Int)from rfl]at d;rw[aq3]at b;rw[aaU,h.tr (by omega),ob];simp only[aqv,aqi];rw[afV,aaS,d,ob];rcases b with⟨rfl,b⟩|⟨j,rfl,b⟩
 ·rw[aqd b];rfl
 ·rw[aqc b]
  simp[ob]
def HB(k:Fu+9<=a)(h:bR d c)(e:o<d):Nh a ((d:Int),c,(o:Int))=some ((vw c o:Int),0):=by
 obtain⟨a,rfl⟩:∃M,a=M+1:=⟨a - 1,by omega⟩;have b:=h.ring e;have g:=h.body _ b.2.2.1;have j:aZ (dG c o) (0:Int)=some (jI (dG c o)):=ba (i:=0) (yy g.1);rw[acf,zQ (by omega) h _ (by simp),ob,aqd (by intro w f;simp only[aqB]at f;subst f;omega),yV rfl,adq (by omega) h e,ob,ba b.1,ob,j,ob,(h.lv e b.2.2.1 b.2.1).1]
def JF(rs:List (List Int))(l:List (Nat×Nat)):List (Nat×Nat):=l.map λe=>(vw rs e.1,vw rs e.2)
def ajR(h:bR a c){l:List (Nat×Nat)}(b:Jv a l):Jv a (JF c l):=λe d=>by
 obtain⟨x,f,rfl⟩:=aqq.1 d;have:=b x f;exact⟨h.ahL this.1,h.ahL this.2⟩
def uS(N:Nat)(f:Fu+9<=N){n:Nat}{b:List (List Int)}(h:bR n b){l:List (Nat×Nat)}(d:Jv n l)(g:l.length<=100000):∀(m i:Nat) (a:List (Int×Int)),l.length - i<m->i<=l.length->a.length<=i->
 Cf N m (l.map Vy,(l.length:Int),(i:Int),(n:Int),b,a)=some (a++(JF b (l.drop i)).map Vy)
 |0,i,a,h,_,_=>absurd h (by omega)
 |m+1,i,a,o,k,p=>by
  rw[XZ,cd];by_cases q:i<l.length
  ·rw[aqd (by omega)]
   obtain⟨x,c⟩:=get_at (xs:=l) (i:=i) q;have e:=d x (aqw c);have j:(l.map Vy)[i]? =some (Vy x):=by rw[aqA,c];rfl
   rw[ba j,ob];simp only[Vy];rw[HB (by omega) h e.1,ob,HB (by omega) h e.2,ob,cE (by omega) (by simp;omega),ob,cn (by omega)];have:=uS N f h d g m (i+1) (a++[((vw b x.1:Int),(vw b x.2:Int))]) (by omega) (by omega) (by simp;omega);rw[this,cY c];simp[JF,Vy]
  ·rw[aqc (by omega),arb (by omega)]
   simp[JF]
def JG(f:Fu+10<=a)(h:bR d c)(l:List (Int×Int))(g:l.length<=100000):
 UM a ((d:Int),c,l)=some (tQ (d:Int) l,if tQ (d:Int) l=0 then(JF c (l.map r_)).map Vy else []):=by
 obtain⟨a,rfl⟩:∃M,a=M+1:=⟨a - 1,by omega⟩;have m:=h.lo;have j:=h.hi;rw[acg,h.tr (by omega),ob];simp only[aqv,aqi];rw[NV (by omega) _ l (by omega),ob,FQ];rcases vv (d:Int) l with⟨k,i⟩|⟨k,_⟩|⟨k,i,e⟩
 ·omega
 ·rw[k];rfl
 ·rw[k,aqd rfl,aqd rfl]
  have b:=yr (n:=(d:Int)) (by omega) e;rw[aqo]at b;have:=uS a (by omega) h b (by simpa using g) a 0 [] (by rw[bH]at f;simp;omega) (by omega) (by simp);rw[<-Vz e,show((0:Nat):Int)=(0:Int)from rfl,aqn]at this;rw[this,ob];rfl
def QH(p:Fu+11<=a){b:List (List Int)}(h:bR d b)(l:List (Int×Int))(m:l.length<=100000):
 Jf a ((d:Int),b,l)=some (tQ (d:Int) l,if tQ (d:Int) l=0 then lh d b (l.map r_)else []):=by
 obtain⟨a,rfl⟩:∃M,a=M+1:=⟨a - 1,by omega⟩;have r:=h.lo;have q:=h.hi;rw[X3,JG (by omega) h l m,ob,FQ];rcases vv (d:Int) l with⟨k,n⟩|⟨k,_⟩|⟨k,n,o⟩
 ·omega
 ·rw[k];rfl
 ·rw[k,aqd rfl]
  simp only[aqP];have e:=yr (n:=(d:Int)) (by omega) o;rw[aqo]at e;obtain⟨s,f,g⟩:=NT (N:=a) (by omega) (n:=d) (by omega);obtain⟨t,i,_⟩:=NU (N:=a) (by omega) (n:=d) (by omega) (l:=JF b (l.map r_)) (by simp[JF];omega) (ajR h e) g;rw[f,ob,i,ob];have j:lh d b (l.map r_)=je [] (JF b (l.map r_)):=by
   rw[N9 h e (c:=λx=>(λy=>y) (vw b x)) (λx _=>rfl),EM (λy=>y) (vw b)];exact N_ (JF b (l.map r_)) []
  rw[j]
def VJ(b:1<=a)(c:a<=64)(l:List (Int×Int)):tQ (a:Int) l=if∀e∈l,lI (a:Int) e then 0 else 10:=by
 unfold tQ;rw[aqc (by omega)]
def h8(n:Nat):List (List Int):=(List.range n).map λv:Nat=>[(v:Int)]
def uT(f:1<=a)(g:a<=64):bR a (h8 a):=by
 have d:qt a (h8 a)=(List.range a).map λv:Nat=>(v:Int):=by
  unfold qt h8;rw[List.flatMap_map];have:∀(l:List Nat),(∀x∈l,x<a)->(l.flatMap λc:Nat=>vt a [(c:Int)])=l.map λv:Nat=>(v:Int):=λl=>by
   induction l with
   |nil=>intro _;rfl
   |cons c l m=>
    intro h;rw[aqO,m λx e=>h x (by simp[e]),yz,aqd (by have:=h c (by simp);omega)];simp[vt]
  exact this _ λx e=>are.1 e
 refine bR.of f g (λr i=>?_) ?_ ?_ ?_
 ·obtain⟨v,d,rfl⟩:=aqq.1 i
  have d:=are.1 d;refine⟨by simp,⟨by simp,λt j=>?_,by simp⟩,rfl,[(v,v)],by simp[hQ d],by simp,⟨v,by simp[Clo,run,jN]⟩,by simp,by simp[sa,eJ]⟩;simp only[aqB]at j;omega
 ·unfold h8
  refine List.Pairwise.map _ ?_ List.pairwise_lt_range;intro c b h;simp only[jI,arN];omega
 ·rw[d];exact AX a
 ·intro v k
  rw[d];exact aqq.2 ⟨v,are.2 k,rfl⟩
structure Iv(n:Nat)(l:List (Nat×Nat))(out:List Int):Prop where
 len:out.length=n
 at_:∀i,i<n->∃w:Nat,out[i]? =some (w:Int)/\w<=i
 uni:∀f:Nat->Nat,(∀e∈l,f e.1=f e.2)->∀v,v<n->f (par out v)=f v
def Iv.get{l:List (Nat×Nat)}(h:Iv a l b)(f:d<a):b[d]? =some ((par b d:Nat):Int)/\par b d<=d:=by
 obtain⟨w,c,e⟩:=h.at_ d f;have:par b d=w:=by unfold par;simp[arI,c]
 rw[this];exact⟨c,e⟩
def A_(N:Nat)(f:Fu+1<=N)(l a:List Int)(g:l.length<=9223372036854775807)(j:a.length<=1000):∀(k i m:Nat) (b:List Int),i+k=a.length->k<m->b.length<=i->
 B0 N m (l,a,((a.length:Nat):Int),(i:Int),b)=some (b++(a.drop i).map (ixI l))
 |k,i,0,b,c,d,e=>by omega
 |0,i,m+1,b,c,d,e=>by
  rw[GC,dN (by omega),arb (by omega)];simp
 |k+1,i,m+1,b,c,d,e=>by
  obtain⟨x,h⟩:=get_at (xs:=a) (i:=i) (by omega);rw[GC,dV (by omega),ba h,ob,Ez N f l x g,ob,cE (by omega) (by simp;omega),ob,cn (by omega),A_ N f l a g j k (i+1) m _ (by omega) (by omega) (by simp;omega),cY h];simp
def Yo(N:Nat)(g:Fu+4<=N)(l a:List Int)(d:l.length<=9223372036854775807)(b:a.length<=1000):Ta N (l,a)=some (if eR l then(decide (∀t∈a,t∈l),a.map (ixI l))else(false,[])):=by
 obtain⟨N,rfl⟩:∃n,N=n+1:=⟨N - 1,by omega⟩;have h:=A_ N (by omega) l a d b a.length 0 N [] (by omega) (by have:=bH;omega) (by simp);rw[aq3,aqZ]at h;rw[aa3,Jr N (by omega) l d,ob];by_cases c:eR l
 ·rw[aqd c,aqH c,aqv,aqi,show((0:Int)=((0:Nat):Int))from rfl,h,ob,has_eq N (by omega) _ _ (by simp;omega),ob]
  congr 2;rw[<-decide_not];refine arP.2 ?_;rw[aqq];constructor
  ·intro h t b
   refine Decidable.by_contra λf=>h ⟨t,b,Ju f⟩
  ·rintro h ⟨t,b,e⟩
   have:=Cr (h t b);omega
 ·rw[aqc c,aqK c];rfl
def Yp(N:Nat)(k:Fu+2<=N)(a b:List Int)(l:a.length<=100000)(m:b.length<=100000):GD N [a,b]=some (a++b):=by
 obtain⟨N,rfl⟩:∃n,N=n+2:=⟨N - 2,by omega⟩;obtain⟨K,d⟩:∃K,N+1=K+3:=⟨N - 2,by have:=bH;omega⟩;have e:aZ ([a,b]:List (List Int)) (0:Int)=some a:=rfl;have f:aZ ([a,b]:List (List Int)) (1:Int)=some b:=rfl;have g:wrap .i64 ((0:Int)+1)=1:=gG (by omega) (by omega);have h:wrap .i64 ((1:Int)+1)=2:=gG (by omega) (by omega);have i:te (N+1) (N+1) ([a,b],0,[a,b],((([a,b]:List (List Int)).length:Nat):Int),0)=some ([a,b],(a.length:Int)+(b.length:Int)):=by
  have:∀M,te M (K+3) ([a,b],0,[a,b],((([a,b]:List (List Int)).length:Nat):Int),0)=some ([a,b],(a.length:Int)+(b.length:Int)):=λM=>by
   rw[tg,dV (by simp),e,ob,cd,gG (x:=(0:Int)+((a.length:Nat):Int)) (by omega) (by omega),aqc (by omega),g,tg,dV (by simp),f,ob,cd,gG (x:=(0:Int)+((a.length:Nat):Int)+((b.length:Nat):Int)) (by omega) (by omega),aqc (by omega),h,tg,dN (by simp)];congr 2;omega
  have c:=this (N+1);rwa[<-d]at c
 have j:ta (N+1) (N+1) ([a,b],((([a,b]:List (List Int)).length:Nat):Int),0,[])=some (a++b):=by
  have:∀M,ta M (K+3) ([a,b],((([a,b]:List (List Int)).length:Nat):Int),0,[])=some (a++b):=λM=>by
   rw[tf,dV (by simp),e,ob,cE (by omega) (by simp;omega),ob,g,tf,dV (by simp),f,ob,cE (by omega) (by simp;omega),ob,h,tf,dN (by simp)];simp
  have c:=this (N+1);rwa[<-d]at c
 rw[LV,i,ob];simp only;rw[eM,aqH ⟨by omega,by omega⟩,aqE,ob,j,ob]
def HD(N:Nat)(a:Fu+3<=N)(l:List Int)(p:Nat)(c:p<=l.length)(b:l.length<=1000):LW N (l,(p:Int))=some (BA l p):=by
 obtain⟨N,rfl⟩:∃n,N=n+1:=⟨N - 1,by omega⟩;rw[aa4,r7 (by omega) (by omega),ob,r6 (by omega) (by omega),ob,aqo,Yp N (by omega) _ _ (by simp;omega) (by simp;omega),ob];rfl
def VK(N:Nat)(f:Fu+5<=N)(l:List Int)(x:Int)(b:l.length<=9223372036854775807):DF N (l,x)=some (Jt l x):=by
 obtain⟨N,rfl⟩:∃n,N=n+1:=⟨N - 1,by omega⟩;rw[Xl,Yo N (by omega) l [x] b (by simp),ob,Jt];by_cases c:eR l
 ·rw[aqd c]
  by_cases a:x∈l
  ·have:=ac7 a
   rw[aqd ⟨c,a⟩];have e:(decide (∀t∈[x],t∈l),[x].map (ixI l))=(true,[(ix l x:Int)]):=by simp[a,Cr a]
   rw[e];have d:aZ [(ix l x:Int)] (0:Int)=some (ix l x:Int):=rfl;simp only[aqv,aqi,d,ob];rw[HD N (by omega) l _ (by omega) c.1];rfl
  ·have e:(decide (∀t∈[x],t∈l),[x].map (ixI l))=(false,[(-1:Int)]):=by simp[a,Ju a]
   rw[e,aqc (λh=>a h.2)];rfl
 ·rw[aqc c,aqc (λh=>c h.1)];rfl
def adr(N:Nat)(e:Fu+5<=N)(l:List Int)(d:l.length<=9223372036854775807):IP N l=some (cZ l):=by
 obtain⟨N,rfl⟩:∃n,N=n+1:=⟨N - 1,by omega⟩;rw[Xn,Jr N (by omega) l d,ob,FQ,cZ];by_cases c:eR l
 ·rw[aqd c,cd]
  by_cases a:l=[]
  ·subst a;simp
  ·have f:=ar0.2 a
   have b:=(mT a).1;have:=ac7 b;rw[aqc (by omega),aqd ⟨c,a⟩,min_eq N (by omega) l c.1 a,ob,Ez N (by omega) l _ d,ob,Cr b,HD N (by omega) l _ (by omega) c.1,ob];rfl
 ·rw[aqc c,aqc (λh=>c h.1)]
section
open Go Go.RowKit Go.Sort
def lp{σ β:Type}{F:Nat->Nat->σ->Option β}{n:Nat}{I:Nat->σ->Prop}{Q:β->Prop}(g:∀m i s,i<n->I i s->(∃d,I (i+1) d/\F (m+1) i s=F m (i+1) d)\/∃b,F (m+1) i s=some b/\Q b)
 (f:∀m s,I n s->∃b,F (m+1) n s=some b/\Q b):∀{m i:Nat} {s:σ},n - i<m->i<=n->I i s->∃b,F m i s=some b/\Q b
 |0,i,s,h,_,_=>absurd h (by omega)
 |m+1,i,s,h,k,e=>by
  by_cases c:i<n
  ·rcases g m i s c e with⟨d,a,j⟩|a
   ·rw[j];exact lp g f (by omega) (by omega) a
   ·exact a
  ·obtain rfl:i=n:=by omega
   exact f m s e
def lpv{σ β:Type}{F:Nat->Nat->σ->Option β}{n:Nat}{I:Nat->σ->Prop}{b:β}(k:∀m i s,i<n->I i s->∃c,I (i+1) c/\F (m+1) i s=F m (i+1) c)(g:∀m s,I n s->F (m+1) n s=some b)
 {m i:Nat} {s:σ} (d:n - i<m) (e:i<=n) (f:I i s):F m i s=some b:=by
 obtain⟨l,h,rfl⟩:=lp (Q:=λx=>x=b) (λm i s j a=>.inl (k m i s j a)) (λm s a=>⟨_,g m s a,rfl⟩) d e f;exact h
def VL(g:3<=a)(b:d<=64)(h:o<d)(i:B<d)(c:o≠B):DI a ((d:Int),(o:Int),(B:Int))=some (ek d (o,B)):=by
 obtain⟨a,rfl⟩:∃M,a=M+1:=⟨a - 1,by omega⟩;have f:d*(o+1)<=64*64:=arO b (by omega);have e:(d:Int)*((o:Int)+1)=((d*(o+1):Nat):Int):=by rw[ar9];rfl
 rw[Xm,dN (by omega),N0 (by omega),ob,N0 (by omega),aqH (show((1:Int)<=(d:Int)/\(d:Int)<=64)/\0<=(o:Int)/\(o:Int)<(d:Int) by omega),aqH (show((1:Int)<=(d:Int)/\(d:Int)<=64)/\0<=(B:Int)/\(B:Int)<(d:Int) by omega)];simp only[ob,aqv,aqi];rw[show wrap .i64 ((o:Int)+1)=(o:Int)+1 from gG (by omega) (by omega),e,show wrap .i64 (((d*(o+1):Nat):Int))=((d*(o+1):Nat):Int)from gG (by omega) (by omega),gG (by omega) (by omega)];unfold ek;simp only[c,aq_];congr 1
def wo{α:Type}(i j:Nat):Nat->List α->List α
 |_,[]=>[]
 |k,x::l=>if k=i\/k=j then wo i j (k+1) l else x::wo i j (k+1) l
def VM{α:Type}{i j:Nat}:∀(l:List α) (k:Nat),i<k->j<k->wo i j k l=l
 |[],_,_,_=>rfl
 |x::l,k,a,b=>by rw[wo,aqc (by omega),VM l (k+1) (by omega) (by omega)]
def VN{α:Type}(i j:Nat):∀(l:List α) (k:Nat),wo i j k l=wo j i k l
 |[],_=>rfl
 |x::l,k=>by
  rw[wo,wo,VN i j l (k+1)];by_cases c:k=i\/k=j
  ·rw[aqd c,aqd c.symm]
  ·rw[aqc c,aqc λh=>c h.symm]
def ads{α:Type}{i j:Nat}{b:α}:∀(l:List α) (k:Nat),i<k->k<=j->l[j - k]? =some b->l.Perm (b::wo i j k l)
 |[],k,_,_,h=>by simp at h
 |x::l,k,d,e,h=>by
  rw[wo];by_cases c:k=j
  ·rw[show j - k=0 by omega]at h
   have a:x=b:=by simpa using h
   rw[aqd (.inr c),VM l _ (by omega) (by omega),a]
  ·rw[aqc (by omega)]
   rw[show j - k=(j - (k+1))+1 by omega,ar2]at h;exact((ads l (k+1) (by omega) (by omega) h).cons x).trans (List.Perm.swap _ _ _)
def JH{α:Type}{i j:Nat}{a b:α}(e:i<j):∀(l:List α) (k:Nat),k<=i->l[i - k]? =some a->l[j - k]? =some b->l.Perm (a::b::wo i j k l)
 |[],k,_,h,_=>by simp at h
 |x::l,k,g,h,d=>by
  rw[wo];rw[show j - k=(j - (k+1))+1 by omega,ar2]at d;by_cases c:k=i
  ·rw[show i - k=0 by omega]at h
   have f:x=a:=by simpa using h
   rw[aqd (.inl c),f];exact(ads l (k+1) (by omega) (by omega) d).cons a
  ·rw[aqc (by omega)]
   rw[show i - k=(i - (k+1))+1 by omega,ar2]at h;exact((JH e l (k+1) (by omega) h d).cons x).trans ((List.Perm.swap _ _ _).trans ((List.Perm.swap _ _ _).cons a))
def agp{e:List (List Int)}(g:e[a]? =some b)(h:e[d]? =some n)(j:a≠d):(wo a d 0 e).Perm (Hy e a d):=by
 have i:=vy g h j;rcases asQ a d with c|c
 ·have f:=JH c e 0 (by omega) g h
  exact((f.symm.trans i).cons_inv).cons_inv
 ·have f:=JH (show d<a by omega) e 0 (by omega) h g
  rw[VN]at f;exact((f.symm.trans (i.trans (List.Perm.swap _ _ _))).cons_inv).cons_inv
def adt{α:Type}(i j:Nat):∀(l:List α) (k:Nat),(wo i j k l).length<=l.length
 |[],_=>by simp[wo]
 |x::l,k=>by
  have:=adt i j l (k+1);rw[wo];split
  ·simp only[aqC];omega
  ·simp only[aqC];omega
def agq{N:Nat}(u:Fu+8<=N)(f:Int){rs:List (List Int)}(J:rs.length<=1000)(D:eR b)(s:c.Perm (wo a d 0 rs++[cZ b]))(z:c.Pairwise λg i=>jI g<jI i)(A:∀r∈c,r≠[]):
 IQ N (f,rs,[(a:Int),(d:Int)],[b])=some (f,c):=by
 obtain⟨N,rfl⟩:∃M,N=M+1:=⟨N - 1,by omega⟩;have K:=adt a d rs 0;have t:oh N N ([(a:Int),(d:Int)],[b],rs,((rs.length:Nat):Int),(((0:Nat):Int),(f,(rs,(0,[])))))=some ([b],f,rs,0,wo a d 0 rs):=by
  refine lpv (F:=λm k (j:List (List Int))=>oh N m ([(a:Int),(d:Int)],[b],rs,((rs.length:Nat):Int),((k:Int),(f,(rs,(0,j)))))) (n:=rs.length) (I:=λk j=>j++wo a d k (rs.drop k)=wo a d 0 rs/\j.length<=k) (λm k j E q=>?_) (λm j q=>?_) (by rw[bH]at u;omega) (by omega) ⟨by simp,by simp⟩
  ·obtain⟨x,p⟩:=get_at (xs:=rs) (i:=k) E
   have o:=q.1;rw[cY p,wo]at o;by_cases e:k=a\/k=d
   ·rw[aqd e]at o
    refine⟨j,⟨o,by omega⟩,?_⟩;rw[vm,dV (by omega),ba p,ob,has_eq N (by omega) _ _ (by simp),ob,aqH (by simp;omega),cn (by omega)];rfl
   ·rw[aqc e]at o
    refine⟨j++[x],⟨by rw[aqJ];exact o,by rw[aqy];simp;omega⟩,?_⟩;rw[vm,dV (by omega),ba p,ob,has_eq N (by omega) _ _ (by simp),ob,aqK (by simp;omega),cE (by omega) (by simp;omega),cn (by omega)];rfl
  ·have:=q.1
   rw[arb (aqf _),wo,aqV]at this;rw[vm,dN (by omega),this]
 obtain⟨M,rfl⟩:∃M,N=M+2:=⟨N - 2,by rw[bH]at u;omega⟩;have H:=D.1;rw[Xo];rw[show((0:Nat):Int)=(0:Int)from rfl]at t;rw[t,ob];have B:wP (M+2) (M+2) ([b],((([b].length:Nat):Int),((0:Int),(f,(rs,((0:Int),wo a d 0 rs))))))=some (f,rs,0,wo a d 0 rs++[cZ b]):=by
  rw[show M+2=(M+1)+1 from rfl,DJ,dV (by simp),show aZ [b] (0:Int)=some b from rfl,ob,adr _ (by omega) _ (by omega),ob,cE (by omega) (by simp;omega),ob,gG (by omega) (by omega),DJ,dN (by simp)]
 rw[B,ob];have w:∀x y:List Int,ltOf IG x y=decide (jI x<jI y):=λx y=>arP.2 wx;have C:bq (M+2) (wo a d 0 rs++[cZ b])=some c:=by
  have v:jv (ltOf IG) (wo a d 0 rs++[cZ b]):=jv.perm (l:=c) (z.imp λh=>.inl (by rw[w];exact aqH h)) s;have G:=vk alj s v (z.imp λ{x y} h=>by rw[w];exact aqK (by omega));unfold bq IE;rw[aqd λx p=>A x (s.mem_iff.2 p),aqd ⟨v,by simp;omega⟩,G]
 simp only[C,ob]
def QI(N:Nat)(r:Fu+2<=N)(a b c d e:List Int)(h:a.length+b.length+c.length+d.length+e.length<=100000):GD N [a,b,c,d,e]=some (a++b++c++d++e):=by
 obtain⟨M,rfl⟩:∃M,N=M+7:=⟨N - 7,by rw[bH]at r;omega⟩;have w:∀x:Int,0<=x->x<=1000000->wrap .i64 x=x:=λx p q=>gG (by omega) (by omega);have s:∀f g i j k:List Int,aZ [f,g,i,j,k] (0:Int)=some f/\aZ [f,g,i,j,k] (1:Int)=some g/\aZ [f,g,i,j,k] (2:Int)=some i/\aZ [f,g,i,j,k] (3:Int)=some j/\aZ [f,g,i,j,k] (4:Int)=some k:=λ_ _ _ _ _=>⟨rfl,rfl,rfl,rfl,rfl⟩;obtain⟨e0,l,m,n,o⟩:=s a b c d e;have p:te (M+6) (M+6) ([a,b,c,d,e],0,[a,b,c,d,e],((([a,b,c,d,e].length:Nat):Int),(0:Int)))=some ([a,b,c,d,e],((a.length+b.length+c.length+d.length+e.length:Nat):Int)):=by
  simp only[tg,cd,aqC,aq5];rw[aqd (by decide),e0,ob,w _ (by omega) (by omega),aqc (by omega),show wrap .i64 ((0:Int)+1)=1 by decide,aqd (by decide),l,ob,w _ (by omega) (by omega),aqc (by omega),show wrap .i64 ((1:Int)+1)=2 by decide,aqd (by decide),m,ob,w _ (by omega) (by omega),aqc (by omega),show wrap .i64 ((2:Int)+1)=3 by decide,aqd (by decide),n,ob,w _ (by omega) (by omega),aqc (by omega),show wrap .i64 ((3:Int)+1)=4 by decide,aqd (by decide),o,ob,w _ (by omega) (by omega),aqc (by omega),show wrap .i64 ((4:Int)+1)=5 by decide,aqc (by decide)];congr 2;omega
 have q:ta (M+6) (M+6) ([a,b,c,d,e],((([a,b,c,d,e].length:Nat):Int),((0:Int),([]:List Int))))=some (a++b++c++d++e):=by
  simp only[tf,cd,aqC,aq5];rw[aqd (by decide),e0,ob,cE (by omega) (by simp;omega),ob,show wrap .i64 ((0:Int)+1)=1 by decide,aqd (by decide),l,ob,cE (by omega) (by simp;omega),ob,show wrap .i64 ((1:Int)+1)=2 by decide,aqd (by decide),m,ob,cE (by omega) (by simp;omega),ob,show wrap .i64 ((2:Int)+1)=3 by decide,aqd (by decide),n,ob,cE (by omega) (by simp;omega),ob,show wrap .i64 ((3:Int)+1)=4 by decide,aqd (by decide),o,ob,cE (by omega) (by simp;omega),ob,show wrap .i64 ((4:Int)+1)=5 by decide,aqc (by decide)];simp
 rw[show M+7=(M+6)+1 from rfl,LV,p,ob];unfold eM;rw[aqH (by simp only;omega)];simp only[aqE,ob];rw[q,ob]
def adu(b:2<=a)(c:1<=d)(e:d<=64)(f:o<d):nz a ((d:Int),(o:Int))=some true:=by
 rw[N0 b,aqH (show((1:Int)<=(d:Int)/\(d:Int)<=64)/\0<=(o:Int)/\(o:Int)<(d:Int) by omega)]
def adv{N:Nat}(P:Fu+9<=N)(h:bR a c)(b:d<a)(f:o<a):
 IS N ((a:Int),c,(d:Int),(o:Int))=some (if kT c (d:Int)=kT c (o:Int)then(5,(a:Int),c)else(0,(a:Int),oC a c d o)):=by
 obtain⟨N,rfl⟩:∃M,N=M+2:=⟨N - 2,by omega⟩;have q:=h.lo;have k:=h.hi;obtain⟨U,w⟩:=h.small;have F:IN (N+1) ((a:Int),c,(d:Int),(o:Int))=some 0:=by
  rw[Xi,h.tr (by omega),ob];simp only[aqv,aqi];rw[adu (by omega) q k b,ob];simp only[aqv,aqi];rw[adu (by omega) q k f,ob];rfl
 have u:=zP (N:=N+1) (by omega) (a:Int) (d:Int) (rs:=c) (by omega) (λr l=>by have:=w r l;omega);have v:=zP (N:=N+1) (by omega) (a:Int) (o:Int) (rs:=c) (by omega) (λr l=>by have:=w r l;omega);rw[h.QG b]at u;rw[h.QG f]at v;rw[Xp,F,ob];simp only[arp,aqv,aqi];simp only[u,v,ob,cd];by_cases i:kT c (d:Int)=kT c (o:Int)
 ·rw[aqd (by omega),aqd i]
 rw[aqc (by omega),aqc i];have g:=h.ring b;have j:=h.ring f;have m:=h.body _ g.2.2.1;have n:=h.body _ j.2.2.1;have y:d≠o:=λe=>i (by rw[e]);have Q:=m.2.1.1;have S:=n.2.1.1;have t:=vy g.1 j.1 i;have p:=(yC (n:=a) t).nodup_iff.1 h.nd;have E:=(VE h.rg h.nd).1 h.all;have I:(vt a (dG c d)).length+(vt a (dG c o)).length<=a:=by
  have:=(yC (n:=a) t).length_eq;unfold qt at this E;rw[aqO,aqO,aqy,aqy]at this;omega
 have H:∀x∈vt a (dG c d),x∉vt a (dG c o):=λx L O=>by
  unfold qt at p;rw[aqO,aqO]at p;exact(aq8.1 p).2.2 x L x (by simp[O]) rfl
 have D:=EK k b f m n g.2.1 j.2.1 H I;have B:Jt (dG c d) (d:Int)=(true,dU (dG c d) (d:Int)):=aqd ⟨m.2.1,g.2.1⟩;have C:Jt (dG c o) (o:Int)=(true,dU (dG c o) (o:Int)):=aqd ⟨n.2.1,j.2.1⟩;have V:=Hu (dG c d) (d:Int);have W:=Hu (dG c o) (o:Int);have R:=ar0.2 m.1;rw[ba g.1,ob,VK (N+1) (by omega) _ _ (by omega),ob,ba j.1,ob,VK (N+1) (by omega) _ _ (by omega),ob,B,C];simp only;have G:=mi g.2.1;have z:(dU (dG c d) (d:Int)).take (Int.toNat 1)=[(d:Int)]:=by rw[G];rfl
 rw[r6 (by omega) (by omega),ob,VL (by omega) k b f y,ob,VL (by omega) k f b (λe=>y e.symm),ob,r7 (by omega) (by omega),ob,z,QI (N+1) (by omega) _ _ _ _ _ (by simp;omega),ob];have A:[(d:Int)]++[ek a (d,o)]++dU (dG c o) (o:Int)++[ek a (o,d)]++(dU (dG c d) (d:Int)).drop (Int.toNat 1)=oA a d o (dG c d) (dG c o):=rfl;have s:=(VI h b f i).1;have J:(oC a c d o).Perm (wo (kT c (d:Int)) (kT c (o:Int)) 0 c++[cZ (oA a d o (dG c d) (dG c o))]):=by
  refine(tA _ _).trans ?_;refine((agp g.1 j.1 i).symm.cons _).trans ?_;exact ats (l₁:=[_])
 have K:=agq (N:=N+1) (by omega) (a:Int) (rs:=c) (by omega) D J s.VF (λr l=>(s.body r l).1);rw[A,K,ob]
end
section
open Go Go.RowKit Go.Sort
def agr(h:Fu+2<=a)(l:List (Int×Int))(o:l.length<=100000):SC a l=some (l.flatMap λe=>[e.1,e.2]):=by
 obtain⟨a,rfl⟩:∃M,a=M+1:=⟨a - 1,by omega⟩;have:=lpv (F:=λm k (c:List Int)=>BT a m (l,((l.length:Nat):Int),(k:Int),c)) (n:=l.length) (b:=l.flatMap λe=>[e.1,e.2]) (I:=λk c=>c++(l.drop k).flatMap (λe=>[e.1,e.2])=l.flatMap (λe=>[e.1,e.2])/\c.length<=2*k) (λm k c j f=>by
  obtain⟨x,g⟩:=get_at (xs:=l) (i:=k) j;have d:=f.1;rw[cY g,aqO,<-aqJ]at d;refine⟨_,⟨d,by simp;omega⟩,?_⟩;rw[Gt,dV (by omega),ba g,ob,cE (by omega) (by simp;omega),ob,cn (by omega)]) (λm c f=>by
  have d:=f.1;rw[arb (aqf _),atY,aqV]at d;rw[Gt,dN (by omega),d]) (m:=a) (i:=0) (s:=[]) (by rw[bH]at h;omega) (by omega) ⟨by simp,by simp⟩
 rw[aaI];rw[show((0:Nat):Int)=(0:Int)from rfl]at this;rw[this,ob]
def adw{N:Nat}(C:Fu+12<=N)(h:bR a c)(w:e.length<=100000)(n:∀d∈e,lI (a:Int) d):
 ∃l,Tl N ((a:Int),c,e)=some (0,(a:Int),lg a c (e.map r_),l):=by
 obtain⟨N,rfl⟩:∃M,N=M+2:=⟨N - 2,by omega⟩;have B:Jv a (e.map r_):=yr (n:=(a:Int)) (by omega) n;have y:=zQ (N:=N) (by omega) h (e.flatMap λd=>[d.1,d.2]) (by
  have:(e.flatMap λd=>[d.1,d.2]).length=e.length*2:=by
   clear n B w
   induction e with
   |nil=>rfl
   |cons x e J=>simp only[aqO,aqy,J,aqC,aq5];omega
  omega)
 rw[aqd (λv j=>by
  obtain⟨d,o,j⟩:=arz.1 j;have:=n d o;rcases aqG.1 j with rfl|j
  ·exact this.1
  ·rcases aqG.1 j with rfl|j
   ·exact this.2
   ·cases j)]at y
 obtain⟨b,q,l,rfl⟩:=lp (F:=λm k (s:List (List Int)×List Bool)=>B1 N m (e,((e.length:Nat):Int),(k:Int),(a:Int),s.1,(0:Int),s.2)) (n:=e.length) (Q:=λb=>∃l,b=((a:Int),lg a c (e.map r_),(0:Int),l))
  (I:=λk s=>bR a s.1/\lg a s.1 ((e.map r_).drop k)=lg a c (e.map r_)/\s.2.length<=k) (λm k s D g=>by
   obtain⟨x,r⟩:=get_at (xs:=e) (i:=k) D;have H:(e.map r_)[k]? =some (r_ x):=by rw[aqA,r];rfl
   have eK:=n x (aqw r);have p:=eK.nat;have o:=ahJ eK;have z:x.1=(((r_ x).1:Nat):Int):=(aqr Prod.fst o).symm;have A:x.2=(((r_ x).2:Nat):Int):=(aqr Prod.snd o).symm;have G:=JE g.1 p.1 p.2;have u:=g.2.1;rw[cY H,lg]at u;have E:=adv (N:=N) (by omega) g.1 p.1 p.2;refine .inl ⟨(if kT s.1 (((r_ x).1:Nat):Int)=kT s.1 (((r_ x).2:Nat):Int)then s.1 else oC a s.1 (r_ x).1 (r_ x).2,s.2++[decide ((if kT s.1 (((r_ x).1:Nat):Int)=kT s.1 (((r_ x).2:Nat):Int)then(5:Int)else 0)=0)]),⟨G.1,u,by simp only[aqy,aqC,aq5];have:=g.2.2;omega⟩,?_⟩;have K:=g.2.2;rw[GG,dV (by omega),ba r,ob];simp only;rw[z,A,E,ob,cE (by omega) (by simp only[aqC,aq5];omega),ob,cn (by omega)];by_cases f:kT s.1 (((r_ x).1:Nat):Int)=kT s.1 (((r_ x).2:Nat):Int)
   ·simp only[f,aqP]
   ·simp only[f,aq_]) (λm s g=>by
   have t:=g.2.1;rw[arb (by simp),lg]at t;exact⟨_,by rw[GG,dN (by omega)],⟨s.2,by rw[t]⟩⟩) (m:=N) (i:=0) (s:=(c,[])) (by rw[bH]at C;omega) (by omega) ⟨h,rfl,by simp⟩
 refine⟨l,?_⟩;rw[aa7,aa6,agr (by omega) e w,ob,y,ob];simp only[arp,aqv,aqi];rw[show((0:Nat):Int)=(0:Int)from rfl]at q;simp only at q;rw[q,ob];rfl
def ags(f:Fu+2<=a)(n:Int):II a n=some (if 1<=n/\n<=64 then(0,n,h8 n.toNat)else(1,0,[])):=by
 obtain⟨a,rfl⟩:∃M,a=M+1:=⟨a - 1,by omega⟩;rw[Xb,yu (by omega),ob,FQ];by_cases c:1<=n/\n<=64
 ·rw[aqd c,aqd c]
  obtain⟨k,rfl⟩:∃k:Nat,n=(k:Int):=⟨n.toNat,by omega⟩;rw[aqo];have:=lpv (F:=λm i (d:List (List Int))=>wA a m ((k:Int),(i:Int),(0:Int),(k:Int),d)) (n:=k) (b:=((0:Int),(k:Int),h8 k)) (I:=λi d=>d=h8 i) (λm i d g e=>by
   subst e;refine⟨h8 (i+1),rfl,?_⟩;rw[DD,dV (by omega),cE (by omega) (by simp[h8];omega),ob,cn (by omega)];have:h8 i++[[(i:Int)]]=h8 (i+1):=by unfold h8;rw[atZ,aq4];rfl
   rw[this]) (λm d e=>by
   subst e;rw[DD,dN (by omega)]) (m:=a) (i:=0) (s:=[]) (by rw[bH]at f;omega) (by omega) rfl
  rw[show((0:Nat):Int)=(0:Int)from rfl]at this;rw[this,ob]
 ·rw[aqc c,aqc c]
def EN(n:Nat)(l:List (Int×Int)):List (List Int):=lg n (h8 n) (l.map r_)
def QJ(c:1<=a)(d:a<=64)(f:∀b∈e,lI (a:Int) b):bR a (EN a e):=(Hz (uT c d) (yr (n:=(a:Int)) (by omega) f)).1
def of_eq(k:Fu+13<=a)(c:1<=d)(f:d<=64)(i:e.length<=100000)(g:∀b∈e,lI (d:Int) b):DK a ((d:Int),e)=some (0,(d:Int),EN d e):=by
 obtain⟨a,rfl⟩:∃M,a=M+1:=⟨a - 1,by omega⟩;obtain⟨j,h⟩:=adw (N:=a) (by omega) (uT c f) i g;rw[Xq,ags (by omega),ob,aqd (by omega)];simp only[arp,aqv,aqi,aqo];rw[h,ob];rfl
def gp(aoR:List bT)(lv:Int):List (Int×Int):=(aoR.filter λt=>t.2.2.2 && decide (lv<=t.2.2.1)).map λt=>(t.1,t.2.1)
def Oa(p:Fu+2<=a)(g:Int)(e:List bT)(h:Int)(t:e.length<=100000):LB a (g,e,h)=some (gp e h):=by
 obtain⟨a,rfl⟩:∃M,a=M+1:=⟨a - 1,by omega⟩;have:=lpv (F:=λm k (f:List (Int×Int))=>s0 a m (h,e,((e.length:Nat):Int),(k:Int),f)) (n:=e.length) (b:=gp e h) (I:=λk f=>f++gp (e.drop k) h=gp e h/\f.length<=k) (λm k f q l=>by
  obtain⟨x,o⟩:=get_at (xs:=e) (i:=k) q;have d:=l.1;have r:=l.2;rw[cY o,gp,asp]at d;cases j:x.2.2.2 with
  |false=>
   rw[j,Bool.false_and,aqc (by decide)]at d;refine⟨f,⟨d,by omega⟩,?_⟩;rw[s_,dV (by omega),ba o,ob,j,cn (by omega)];rfl
  |true=>
   by_cases c:h<=x.2.2.1
   ·rw[j,aqH c,auP,aqd rfl,aqz,<-arM,<-aqJ]at d
    refine⟨_,⟨d,by rw[aqy];simp;omega⟩,?_⟩;rw[s_,dV (by omega),ba o,ob,j,aqE,dV c,cE (by omega) (by simp;omega),ob,cn (by omega)]
   ·rw[j,aqK c,Bool.and_false,aqc (by decide)]at d
    refine⟨f,⟨d,by omega⟩,?_⟩;rw[s_,dV (by omega),ba o,ob,j,aqE,dN c,cn (by omega)]) (λm f l=>by
  have d:=l.1;rw[arb (aqf _),gp,List.filter_nil,aro,aqV]at d;rw[s_,dN (by omega),d]) (m:=a) (i:=0) (s:=[]) (by rw[bH]at p;omega) (by omega) ⟨by simp,by simp⟩
 rw[aaH];rw[show((0:Nat):Int)=(0:Int)from rfl]at this;rw[this,ob]
def VO(N:Nat)(x y:bT):DC (N+6) (x.1,x.2.1,x.2.2.1,x.2.2.2,y.1,y.2.1,y.2.2.1,y.2.2.2)=some (rp x y):=by
 rw[aaG,show N+5=(N+2)+3 from rfl,pd,pd,show N+2+3=N+5 from rfl];simp only[aW,Qe];rfl
end
variable{h:List bT}{v y:bT}
section
open Go Go.RowKit Go.Sort
def HE(b:1<=a)(n:Int):LA a n=some (decide (1<=n/\n<=64)):=by
 obtain⟨a,rfl⟩:∃M,a=M+1:=⟨a - 1,by omega⟩;rw[aaB,cd];by_cases c:1<=n<;>simp[c]
def Oc(n:Nat):Nat:=if n<=1 then 0 else if n<=2 then 1 else if n<=4 then 2 else if n<=8 then 3 else if n<=16 then 4 else if n<=32 then 5 else 6
set_option maxRecDepth 100000 in
def agt(N:Nat):∀x:Fin 64,Sv (N+3) ((x.1:Nat):Int)=some ((Oc (x.1+1):Nat):Int):=by
 intro x;have a:=x.2;rw[aaC,show N+2=(N+1)+1 from rfl,W9,dN (by omega),ob,W8,dN (by omega),ob,dN (by omega)];simp only;rw[wu8 (by omega) (by omega)];revert x;unfold ae7;decide+kernel
def adx(f:6<=a)(c:1<=d)(e:d<=64):DB a (d:Int)=some (Oc d:Int):=by
 obtain⟨a,rfl⟩:∃M,a=M+5:=⟨a - 5,by omega⟩;have b:wrap .u64 (((d - 1:Nat):Nat):Int)=((d - 1:Nat):Int):=by simp[wrap,IntKind.bits,IntKind.signed];omega
 have h:=agt a ⟨d - 1,by omega⟩;rw[show d - 1+1=d by omega]at h;rw[W_,HE (by omega),ob,aqH (by omega)];simp only[aqv,aqi];rw[show wrap .i64 ((d:Int) - 1)=((d - 1:Nat):Int) by rw[gG (by omega) (by omega)];omega,b,aaE];simp only at h;rw[h,ob,ob]
def mV(n:Nat)(t:bT):Prop:=0<=t.1/\t.1<t.2.1/\t.2.1<(n:Int)/\0<=t.2.2.1/\t.2.2.1<=(Oc n:Int)
def Fz(a b:bT):Prop:=a.1<b.1\/a.1=b.1/\a.2.1<b.2.1
def mj:rp v y<0↔Fz v y:=lQ
structure GR(n:Nat)(ts:List bT):Prop where
 lo:1<=n
 hi:n<=64
 len:ts.length<=400
 tie:∀t∈ts,mV n t
 VF:ts.Pairwise Fz
 fst:(EN n (gp ts 0)).length+(gp ts 0).length=n
def zT(b:∀t∈h,mV a t)(f:Int):∀e∈gp h f,lI (a:Int) e:=λe c=>by
 obtain⟨t,d,rfl⟩:=aqq.1 c;have:=b t (ar_.1 d).1;unfold mV at this;exact⟨⟨by omega,by show t.1<_;omega⟩,by show 0<=t.2.1;omega,by show t.2.1<_;omega⟩
def EO(a:List bT)(b:Int):(gp a b).length<=a.length:=by
 unfold gp;rw[aqn];exact atw _ _
def ady(g:h[a]? =some v)(l:h[a+1]? =some y)(c:(h.take (a+1)).Pairwise Fz):(h.take (a+2)).Pairwise Fz↔Fz v y:=by
 have i:=cG l;rw[i,avl];have k:v∈h.take (a+1):=by rw[cG g];simp
 constructor
 ·intro f;exact f.2.2 v k y (by simp)
 ·intro f
  refine⟨c,List.pairwise_singleton _ _,λd e b j=>?_⟩;rw[aqB.1 j];rw[cG g]at e c;rcases aqp.1 e with e|e
  ·have:=(avl.1 c).2.2 d e v (by simp)
   unfold Fz at*;omega
  ·rw[aqB.1 e];exact f
def Od{N:Nat}(H:Fu+8<=N){n:Nat}(a:List bT)(J:a.length<=400):∃r,th N N ((Oc n:Int),a,((a.length:Nat):Int),((0:Nat):Int),(n:Int),a)=some r/\(r=.inl ((n:Int),a)/\(∀t∈a,mV n t)/\a.Pairwise Fz\/r=.inr false/\¬((∀t∈a,mV n t)/\a.Pairwise Fz)):=by
 have G:=bH;refine lp (F:=λm k (_:Unit)=>th N m ((Oc n:Int),a,((a.length:Nat):Int),(k:Int),(n:Int),a)) (n:=a.length) (I:=λk _=>(∀t∈a.take k,mV n t)/\(a.take k).Pairwise Fz) (λm k s B d=>?_) (λm s d=>⟨_,by rw[GH,dN (by omega)],.inl ⟨rfl,by rw[aqQ (aqf _)]at d;exact d⟩⟩) (m:=N) (i:=0) (s:=()) (by omega) (by omega) ⟨by simp,by simp⟩;obtain⟨x,e⟩:=get_at (xs:=a) (i:=k) B;have C:=aqw e;rw[GH,dV (by omega),ba e,ob];by_cases f:mV n x
 ·obtain⟨u,v,w,z,A⟩:=f
  rw[dN (by omega),dN (by omega),dN (by omega),dN (by omega),dN (by omega),cd];have l:∀t∈a.take (k+1),mV n t:=λt h=>by
   rw[cG e]at h;rcases aqp.1 h with h|h
   ·exact d.1 t h
   ·rw[aqB.1 h];exact⟨u,v,w,z,A⟩
  rcases atp k with g|g
  ·subst g
   rw[aqc (by omega),cn (by omega)];exact .inl ⟨(),⟨l,by rw[cG e];simp⟩,rfl⟩
  ·obtain⟨k,rfl⟩:∃j,k=j+1:=⟨k - 1,by omega⟩
   obtain⟨y,q⟩:=get_at (xs:=a) (i:=k) (by omega);have p:=ady q e d.2;rw[aqd (by omega),show wrap .i64 (((k+1:Nat):Int) - 1)=(k:Int) by rw[gG (by omega) (by omega)];omega,ba q,ob];have o:=VO (N - 6) y x;rw[show N - 6+6=N by omega]at o;rw[o,ob,cd];by_cases c:Fz y x
   ·rw[aqc (by have:=mj.2 c;omega),cn (by omega)]
    exact .inl ⟨(),⟨l,p.2 c⟩,rfl⟩
   ·rw[aqd (by have:=mt mj.1 c;omega)]
    refine .inr ⟨_,rfl,.inr ⟨rfl,λh=>c (p.1 ?_)⟩⟩;exact h.2.sublist (List.take_sublist _ _)
 ·refine .inr ?_
  have E:∀r:Option (Int×List bT⊕Bool),r=some (.inr false)->∃b,r=some b/\(b=.inl ((n:Int),a)/\(∀t∈a,mV n t)/\a.Pairwise Fz\/b=.inr false/\¬((∀t∈a,mV n t)/\a.Pairwise Fz)):=λr D=>⟨_,D,.inr ⟨rfl,λh=>f (h.1 x C)⟩⟩;refine E _ ?_;unfold mV at f;rw[cd];split
  ·rfl
  rw[cd];split
  ·rfl
  rw[cd];split
  ·rfl
  rw[cd];split
  ·rfl
  rw[dV (by omega)]
def tB{N:Nat}(m:Fu+16<=N)(g:Int)(a:List bT)(k:a.length<=100000):∃b,mQ N (g,a)=some b/\(b=true↔0<=g/\GR g.toNat a):=by
 obtain⟨N,rfl⟩:∃M,N=M+1:=⟨N - 1,by omega⟩;have l:=bH;rw[aa9,HE (by omega),ob,FQ];by_cases d:1<=g/\g<=64
 ·rw[aqd d,cd]
  obtain⟨n,rfl⟩:∃n:Nat,g=(n:Int):=⟨g.toNat,by omega⟩;rw[aqo];by_cases i:(400:Int)<((a.length:Nat):Int)
  ·rw[aqd i]
   exact⟨_,rfl,λh=>(by cases h),λh=>absurd h.2.len (by omega)⟩
  ·rw[aqc i,adx (by omega) (by omega) (by omega),ob]
   obtain⟨r,f,h⟩:=Od (N:=N) (by omega) (n:=n) a (by omega);rw[show((0:Nat):Int)=(0:Int)from rfl]at f;rw[f,ob];rcases h with⟨rfl,c,j⟩|⟨rfl,c⟩
   ·simp only
    have o:=EO a 0;rw[Oa (by omega) _ _ _ k,ob,of_eq (by omega) (by omega) (by omega) (by omega) (zT c 0),ob,dV rfl];simp only;rw[gG (by omega) (by omega)];refine⟨_,rfl,?_⟩;rw[ard];constructor
    ·intro e;exact⟨by omega,by omega,by omega,by omega,c,j,by omega⟩
    ·intro e;have:=e.2.fst;omega
   ·exact⟨_,rfl,λh=>(by cases h),λh=>absurd ⟨h.2.tie,h.2.VF⟩ c⟩
 ·rw[aqc d]
  exact⟨_,rfl,λh=>(by cases h),λh=>absurd (⟨by have:=h.2.lo;omega,by have:=h.2.hi;omega⟩) d⟩
def GR.right(e:Fu+16<=a)(c:GR d h):mQ a ((d:Int),h)=some true:=by
 obtain⟨b,f,g⟩:=tB e (d:Int) h (by have:=c.len;omega);rw[f,g.2 ⟨by omega,by rw[aqo];exact c⟩]
def cD(ts:List bT):List (Int×Int):=ts.map λt=>(t.1,t.2.1)
def zU(n:Fu+17<=a)(c:GR d h):G8 a ((d:Int),h)=some (cD h):=by
 obtain⟨a,rfl⟩:∃M,a=M+1:=⟨a - 1,by omega⟩;have l:=bH;have p:=c.len;have:=lpv (F:=λm k (e:List (Int×Int))=>Ce a m (h,((h.length:Nat):Int),(k:Int),e)) (n:=h.length) (b:=cD h) (I:=λk e=>e=cD (h.take k)) (λm k e j f=>by
  obtain⟨x,g⟩:=get_at (xs:=h) (i:=k) j;have o:e.length<=400:=by rw[f,cD,aqn,aq0];omega
  refine⟨e++[(x.1,x.2.1)],by rw[f,cG g];simp[cD],?_⟩;rw[G9,dV (by omega),ba g,ob,cE (by omega) (by simp;omega),ob,cn (by omega)]) (λm e f=>by
  rw[G9,dN (by omega),f,aqQ (aqf _)]) (m:=a) (i:=0) (s:=[]) (by omega) (by omega) (by simp[cD])
 rw[ab1,c.right (by omega),ob];simp only[aqv,aqi];rw[show((0:Nat):Int)=(0:Int)from rfl]at this;rw[this,ob]
def EP(e:Fu+17<=a)(b:GR d h)(c:Int):Nc a ((d:Int),h,c)=some (0,(d:Int),EN d (gp h c)):=by
 obtain⟨a,rfl⟩:∃M,a=M+1:=⟨a - 1,by omega⟩;have f:=b.len;have:=EO h c;rw[acb,b.right (by omega),ob];simp only[aqv,aqi];rw[Oa (by omega) _ _ _ (by omega),ob,of_eq (by omega) b.lo b.hi (by omega) (zT b.tie c),ob]
def GR.JI(b:GR a h)(c:Int):bR a (EN a (gp h c)):=QJ b.lo b.hi (zT b.tie c)
def QL{N:Nat}(u:Fu+8<=N)(a:List bT)(v:a.length<=400)(y:bT):∃(i:Int) (b:Bool),af3 N (a,y)=some (i,b)/\(b=true->∃(k:Nat) (x:bT),i=(k:Int)/\a[k]? =some x/\rp x y=0):=by
 obtain⟨N,rfl⟩:∃M,N=M+1:=⟨N - 1,by omega⟩;have t:=bH;have f:∀x:bT,DC N (x.1,x.2.1,x.2.2.1,x.2.2.2,y.1,y.2.1,y.2.2.1,y.2.2.2)=some (rp x y):=λx=>by
  have:=VO (N - 6) x y;rwa[show N - 6+6=N by omega]at this
 have s:∀(d i j m:Nat),j - i<=d->d<m->j<=a.length->∃k:Nat,Ek N m (a,((a.length:Nat):Int),(i:Int),(j:Int),y)=some (a,((a.length:Nat):Int),(k:Int),y):=by
  intro d
  induction d with
  |zero=>
   intro i j m p q r;obtain⟨m,rfl⟩:∃M,m=M+1:=⟨m - 1,by omega⟩;exact⟨i,by rw[Em,dN (by omega)]⟩
  |succ d l=>
   intro i j m p q r;obtain⟨m,rfl⟩:∃M,m=M+1:=⟨m - 1,by omega⟩;by_cases c:i<j
   ·have n:(2:Int)^(min (Int.toNat (1:Int)) (64:Nat))=2:=by decide
    have o:wrap .i64 (Int.fdiv (wrap .u64 (wrap .i64 ((i:Int)+(j:Int)))) 2)=(((i+j)/2:Nat):Int):=by
     rw[gG (x:=(i:Int)+(j:Int)) (by omega) (by omega),show wrap .u64 ((i:Int)+(j:Int))=((i+j:Nat):Int) by simp[wrap,IntKind.bits,IntKind.signed];omega,auQ _ (by omega),gG (by omega) (by omega)];omega
    obtain⟨x,e⟩:=get_at (xs:=a) (i:=(i+j)/2) (by omega);rw[Em,dV (by omega),n,o,ba e,ob,f,ob,cd];split
    ·rw[cn (by omega)]
     exact l _ _ m (by omega) (by omega) (by omega)
    ·exact l _ _ m (by omega) (by omega) (by omega)
   ·exact⟨i,by rw[Em,dN (by omega)]⟩
 obtain⟨k,g⟩:=s a.length 0 a.length N (by omega) (by omega) (aqf _);rw[show((0:Nat):Int)=(0:Int)from rfl]at g;obtain⟨w,z,A,B⟩:=y;rw[af4,g,ob,cd];simp only;by_cases c:k<a.length
 ·obtain⟨x,e⟩:=get_at (xs:=a) (i:=k) c
  rw[aqd (by omega),ba e,ob];have:=f x;simp only at this;rw[this,ob];exact⟨_,_,rfl,λh=>⟨k,x,rfl,e,aq7 h⟩⟩
 ·rw[aqc (by omega)]
  exact⟨_,_,rfl,λh=>by cases h⟩
def Yq:rp v y=0↔v.1=y.1/\v.2.1=y.2.1:=by
 unfold rp oe;split
 ·rename_i h;have:=og.1 h;rw[og];exact⟨λk=>⟨this,k⟩,λk=>k.2⟩
 ·rename_i h;have:=mt og.2 h;exact⟨λk=>absurd k h,λk=>absurd k.1 this⟩
def adz{N:Nat}(j:Fu+18<=N)(c:GR a h)(u v:Int):∃i:Int,Jg N ((a:Int),h,u,v)=some i/\(i= -1\/∃(k:Nat) (x:bT),i=(k:Int)/\h[k]? =some x/\x.1=min u v/\x.2.1=max u v):=by
 obtain⟨N,rfl⟩:∃M,N=M+2:=⟨N - 2,by omega⟩;obtain⟨i,b,d,f⟩:=QL (N:=N) (by omega) h c.len (if v<u then v else u,if v>u then v else u,0,false);rw[X5,c.right (by omega),ob];simp only[aqv,aqi];rw[acu,d,ob,ob];cases b with
 |false=>exact⟨-1,rfl,.inl rfl⟩
 |true=>
  obtain⟨k,x,rfl,g,e⟩:=f rfl;have:=Yq.1 e;simp only at this;refine⟨(k:Int),rfl,.inr ⟨k,x,rfl,g,?_,?_⟩⟩
  ·rw[this.1];split<;>omega
  ·rw[this.2];split<;>omega
end
variable{C:Int×Int->Prop}{A:List ((Int×Int)×Int)}
section
open Go Go.RowKit Go.Sort
def Oe{s:Sc}(f:s.key=true)(c d:s.cQ)(v:m):∀a:List (s.cQ×m),(c=d->bC s (dI s a c v) d=some v)/\(c≠d->bC s (dI s a c v) d=bC s a d):=by
 have g:∀{x y:s.cQ},x≠y->iB s x y=false:=λ{x y} h=>by
  cases i:iB s x y with
  |false=>rfl
  |true=>exact absurd ((e_ s _ _ f).1 i) h
 intro a
 induction a with
 |nil=>
  simp only[dI,bC];exact⟨λe=>by rw[(e_ s _ _ f).2 e];rfl,λe=>by rw[g e];rfl⟩
 |cons p a j=>
  simp only[dI];by_cases h:p.1=c
  ·rw[(e_ s _ _ f).2 h]
   simp only[aqE,bC];exact⟨λe=>by rw[(e_ s _ _ f).2 (h.trans e)];rfl,λe=>by rw[g λb=>e (h.symm.trans b)];rfl⟩
  ·rw[g h]
   simp only[aqi,bC];by_cases b:p.1=d
   ·rw[(e_ s _ _ f).2 b];exact⟨λe=>absurd (b.trans e.symm) h,λ_=>rfl⟩
   ·rw[g b];exact j
def VP{e:m->m->Bool}(f:SWO e){l:List m}(i:jv e l)(n:l.length<1099511627776):∃r,IE e l=some r/\r.Perm l/\r.Pairwise λx y=>e x y=true:=by
 have j:=auF l λx y=> !e y x;have o:=ave (le:=λx y=> !e y x) (λa b c g d=>by
  simp only[arq]at g d⊢;exact f.ntrans _ _ _ d g) (λa b=>by
  simp only[ara,arq];cases h:e b a with
  |false=>exact .inl rfl
  |true=>
   refine .inr ?_;cases d:e a b with
   |false=>rfl
   |true=>have:=f.trans _ _ _ h d;rw[f.irrefl]at this;cases this) l
 refine⟨_,aqd ⟨i,n⟩,j,?_⟩;have k:=jv.perm i j.symm;refine(List.pairwise_and_iff.2 ⟨o,k⟩).imp λ{x y} h=>?_;rcases h.2 with d|d
 ·exact d
 ·have:=h.1;rw[d]at this;cases this
def c_(e:Int×Int):Int×Int:=(min e.1 e.2,max e.1 e.2)
def ER(e:Int×Int):(if e.2<e.1 then e.2 else e.1)=(c_ e).1/\(if e.2>e.1 then e.2 else e.1)=(c_ e).2:=by
 unfold c_;constructor<;>simp only<;>split<;>omega
def eLt(a b:Int×Int):Prop:=a.1<b.1\/a.1=b.1/\a.2<b.2
abbrev vL:Sc:=.pr (.i .i64) (.i .i64)
def Mk(m:List ((Int×Int)×Int))(p:Int×Int->Prop):Prop:=∀e,(p e->(bC vL m e).getD 0=1)/\(¬p e->(bC vL m e).getD 0=0)
def Mk.put(h:Mk A C)(x:Int×Int):Mk (dI vL A x (1:Int)) λe=>C e\/e=x:=λe=>by
 have d:=Oe (s:=vL) rfl x e (1:Int) A;by_cases c:x=e
 ·refine⟨λ_=>?_,λb=>absurd (.inr c.symm) b⟩
  have:=d.1 c;rw[this];rfl
 ·have:=d.2 c
  refine⟨λa=>?_,λb=>?_⟩
  ·rw[this]
   rcases a with a|a
   ·exact(h e).1 a
   ·exact absurd a.symm c
  ·rw[this];exact(h e).2 λa=>b (.inl a)
def Mk.imp{p q:Int×Int->Prop}(h:Mk A p)(a:∀e,p e↔q e):Mk A q:=λe=>⟨λd=>(h e).1 ((a e).2 d),λb=>(h e).2 λc=>b ((a e).1 c)⟩
def adA:t∈cD h↔∃a∈h,(a.1,a.2.1)=t:=by simp[cD]
def VQ(b:∀t∈h,mV a t):∀e∈cD h,0<=e.1/\e.1<e.2/\e.2<(a:Int):=λe c=>by
 obtain⟨t,d,rfl⟩:=adA.1 c;have:=b t d;exact⟨this.1,this.2.1,this.2.2.1⟩
def ES(a:h.Pairwise Fz):(cD h).Pairwise eLt:=atq.2 a
def tD(h:e.Pairwise eLt):e.Nodup:=h.imp λ{a b} h c=>by
 subst c;unfold eLt at h;omega
def ajT{a b:Int×Int}(h:ltOf oe a b=true):eLt a b:=lQ.1 (aq7 h)
def Yr(h:e.Nodup):jv (ltOf oe) e:=h.imp λ{a b} h=>by
 by_cases c:eLt a b
 ·exact .inl (aqH (lQ.2 c))
 ·refine .inr (aqH (lQ.2 ?_))
  have:¬(a.1=b.1/\a.2=b.2):=λd=>h (atl d.1 d.2);unfold eLt at c;omega
structure Ys(n:Nat)(ts:List bT)(l h9:List (Int×Int)):Prop where
 VF:h9.Pairwise eLt
 mem:∀e,e∈h9↔e.1<e.2/\e∈l.map c_/\e∉cD ts
 inn:∀x∈l,lI (n:Int) x
 len:h9.length<=l.length
def Ys.rng{l c:List (Int×Int)}(b:Ys a h l c):∀e∈c,0<=e.1/\e.1<e.2/\e.2<(a:Int):=λe g=>by
 obtain⟨d,f,_⟩:=(b.mem e).1 g;obtain⟨x,i,rfl⟩:=aqq.1 f;have:=b.inn x i;unfold lI at this;refine⟨by simp only[c_];omega,d,by simp only[c_];omega⟩
def QM{N:Nat}(hN:Fu+18<=N)(f:GR a h)(l:List (Int×Int))(hl:l.length<=100000):
 (zF N ((a:Int),h,l)=some (10,[])/\¬∀x∈l,lI (a:Int) x)\/∃n,zF N ((a:Int),h,l)=some (0,n)/\Ys a h l n:=by
 obtain⟨N,rfl⟩:∃M,N=M+1:=⟨N - 1,by omega⟩;have hF:=bH;have a1:=f.len;have a0:(cD h).length=h.length:=by simp[cD]
 obtain⟨b1,J,A,rfl,S⟩:=lp (F:=λm k (s:List ((Int×Int)×Int))=>xS N m (l,(((cD h).length:Nat):Int),(k:Int),(a:Int),h,s,cD h)) (n:=(cD h).length) (Q:=λb=>∃A,b=(l,(a:Int),h,A)/\Mk A λe=>e∈cD h) (I:=λk s=>Mk s λe=>e∈(cD h).take k) (λm k s D o=>by
  obtain⟨x,j⟩:=get_at (xs:=cD h) (i:=k) D;exact .inl ⟨dI vL s x (1:Int),(o.put x).imp λe=>by rw[cG j];simp,by rw[Ec,dV (by omega),ba j,ob,ob,cn (by omega)]⟩) (λm s o=>⟨_,by rw[Ec,dN (by omega)],s,rfl,o.imp λe=>by rw[aqQ (aqf _)]⟩) (m:=N) (i:=0) (s:=[]) (by omega) (by omega) (λe=>⟨λR=>by simp at R,λ_=>rfl⟩)
 obtain⟨b2,C,V⟩:=lp (F:=λm k (s:List ((Int×Int)×Int)×List (Int×Int))=>oq N m (l,((l.length:Nat):Int),(k:Int),(a:Int),h,s.1,s.2)) (n:=l.length) (Q:=λb=>(b=.inr 10/\¬∀x∈l,lI (a:Int) x)\/∃n,b=.inl n/\n.Nodup/\(∀e,e∈n↔e.1<e.2/\e∈l.map c_/\e∉cD h)/\(∀x∈l,lI (a:Int) x)/\n.length<=l.length)
  (I:=λk s=>Mk s.1 (λe=>e∈cD h\/e∈s.2)/\s.2.Nodup/\(∀e,e∈s.2↔e.1<e.2/\e∈(l.take k).map c_/\e∉cD h)/\(∀x∈l.take k,lI (a:Int) x)/\s.2.length<=k) (λm k s D o=>by
   obtain⟨x,j⟩:=get_at (xs:=l) (i:=k) D;have L:=aqw j;obtain⟨t,G,z,X,i5⟩:=o;rw[Eb,dV (by omega),ba j,ob,(ER x).1,(ER x).2,cd];have q:lI (a:Int) x↔¬(c_ x).1<0/\¬(a:Int)<=(c_ x).2:=by unfold lI c_;omega
   by_cases u:(c_ x).1<0
   ·rw[aqd u];exact .inr ⟨_,rfl,.inl ⟨rfl,λf=>(q.1 (f x L)).1 u⟩⟩
   rw[aqc u,cd];by_cases v:(a:Int)<=(c_ x).2
   ·rw[aqd v];exact .inr ⟨_,rfl,.inl ⟨rfl,λf=>(q.1 (f x L)).2 v⟩⟩
   rw[aqc v,cd];have eK:∀y∈l.take (k+1),lI (a:Int) y:=λy p=>by
    rw[cG j]at p;rcases aqp.1 p with p|p
    ·exact X y p
    ·rw[aqB.1 p];exact q.2 ⟨u,v⟩
   have E:∀e,e∈(l.take (k+1)).map c_↔e∈(l.take k).map c_\/e=c_ x:=λe=>by
    rw[cG j,aq4,aqp,List.map_singleton,aqB]
   by_cases w:(c_ x).1<(c_ x).2
   ·rw[aqd w,cd]
    by_cases g:c_ x∈cD h\/c_ x∈s.2
    ·have B:(bC vL s.1 (c_ x)).getD 0=1:=(t _).1 g
     rw[show(bC vL s.1 ((c_ x).1,(c_ x).2)).getD 0=1 from B,aqc (by omega),cn (by omega)];refine .inl ⟨s,⟨t,G,λe=>?_,eK,by omega⟩,rfl⟩;rw[z e,E];constructor
     ·rintro⟨d,b,c⟩;exact⟨d,.inl b,c⟩
     ·rintro⟨d,b|rfl,c⟩
      ·exact⟨d,b,c⟩
      ·rcases g with g|g
       ·exact absurd g c
       ·exact(z _).1 g
    ·have B:(bC vL s.1 (c_ x)).getD 0=0:=(t _).2 g
     rw[show(bC vL s.1 ((c_ x).1,(c_ x).2)).getD 0=0 from B,aqd rfl,cE (by omega) (by simp;omega),ob,cn (by omega)];refine .inl ⟨(dI vL s.1 (c_ x) (1:Int),s.2++[c_ x]),⟨(t.put _).imp λe=>by simp[or_assoc],?_,λe=>?_,eK,by simp;omega⟩,rfl⟩
     ·exact aq8.2 ⟨G,by simp,λd O b P e=>g (.inr (by rw[<-aqB.1 P,<-e];exact O))⟩
     ·rw[aqp,aqB,z e,E]
      constructor
      ·rintro(⟨d,b,c⟩|rfl)
       ·exact⟨d,.inl b,c⟩
       ·exact⟨w,.inr rfl,λf=>g (.inl f)⟩
      ·rintro⟨d,b|rfl,c⟩
       ·exact .inl ⟨d,b,c⟩
       ·exact .inr rfl
   ·rw[aqc w,cn (by omega)]
    refine .inl ⟨s,⟨t,G,λe=>?_,eK,by omega⟩,rfl⟩;rw[z e,E];constructor
    ·rintro⟨d,b,c⟩;exact⟨d,.inl b,c⟩
    ·rintro⟨d,b|rfl,c⟩
     ·exact⟨d,b,c⟩
     ·exact absurd d w) (λm s o=>⟨_,by rw[Eb,dN (by omega)],.inr ⟨s.2,rfl,by have H:=o.2;rw[aqQ (aqf _)]at H;exact H⟩⟩) (m:=N) (i:=0) (s:=(A,[])) (by omega) (by omega) ⟨S.imp λe=>by simp,by simp,λe=>by simp,λx j=>by simp at j,by simp⟩
 rw[show((0:Nat):Int)=(0:Int)from rfl]at J C;simp only at C;rw[XU,f.right (by omega),ob];simp only[aqv,aqi];rw[zU (by omega) f,ob,J,ob];simp only;rw[C,ob];rcases V with⟨rfl,U⟩|⟨n,rfl,Y,Z,q3,q4⟩
 ·exact .inl ⟨rfl,U⟩
 ·obtain⟨r,q,K,W⟩:=VP ahp (Yr Y) (by omega)
  refine .inr ⟨r,?_,W.imp ajT,λe=>by rw[K.mem_iff];exact Z e,q3,by rw[K.length_eq];exact q4⟩;simp only;unfold bU;rw[q,ob]
end
section
open Go Go.RowKit Go.Sort
def tF(d:1<=a)(b:List bT)(c:b.length<=100000000000):UU a b=some b:=by
 obtain⟨a,rfl⟩:∃m,a=m+1:=⟨a - 1,by omega⟩;rw[aco,cE (by omega) (by simpa using c),aqZ];cases b with
 |nil=>exact sV.2 ⟨rfl,rfl⟩
 |cons x e=>rfl
def ET(n:Nat):∀(l:List (Nat×Nat)) (a:List (List Int)),(lh n a l).length=l.length
 |[],_=>rfl
 |e::l,a=>by rw[lh,aqC,ET n l,aqC]
def BC(h9:List (Int×Int))(js:List Bool):List bT:=List.zipWith (λx b=>(x.1,x.2,(0:Int),b)) h9 js
def Of{a:List Bool}(h:a.length=e.length):(BC e a).length=e.length:=by simp[BC,h]
def Og{a:List Bool}(h:a.length=e.length):cD (BC e a)=e:=by
 unfold BC cD;rw[List.map_zipWith];refine arZ λi=>?_;by_cases c:i<e.length
 ·obtain⟨x,f⟩:=get_at (xs:=e) c
  obtain⟨b,d⟩:=get_at (xs:=a) (i:=i) (by omega);rw[avm,f,d]
 ·rw[aq1 (by simp[h];omega),aq1 (by omega)]
def Oh(a b:List bT):cD (a++b)=cD a++cD b:=aq4
def Yt{a b:List bT}(h:a.Perm b):(cD a).Perm (cD b):=h.map _
def QN(d:(cD h).Nodup):jv (ltOf rp) h:=(atq.1 d).imp λ{a b} d=>by
 by_cases c:Fz a b
 ·exact .inl (aqH (mj.2 c))
 ·refine .inr (aqH (mj.2 ?_))
  have:¬(a.1=b.1/\a.2.1=b.2.1):=λe=>d (atl e.1 e.2);unfold Fz at c⊢;omega
def QO(h:ltOf rp v y=true):Fz v y:=mj.1 (aq7 h)
structure aoS(n:Nat)(ts h9 O7:List bT):Prop where
 perm:O7.Perm (ts++h9)
 VF:O7.Pairwise Fz
def adB{a b:List bT}(d:a.Pairwise Fz)(i:b.Pairwise Fz)(h:a.Perm b):a=b:=by
 have e:∀{l:List bT},l.Pairwise Fz->l.Pairwise (λx y=>ltOf rp y x=false):=λh=>h.imp λ{x y} h=>aqK λc=>by
  have:=mj.1 c;unfold Fz at*;omega
 have j:jv (ltOf rp) a:=d.imp λ{x y} h=>.inl (aqH (mj.2 h));exact pa (λx y f g=>by have:=QO f;have:=QO g;unfold Fz at*;omega) h j (e d) (e i)
def vz(n:Nat)(ts:List bT)(h9:List (Int×Int)):List Bool:=lh n (EN n (gp ts 0)) (h9.map r_)
def vA(n:Nat)(b:List bT)(a:List (Int×Int)):(vz n b a).length=a.length:=by rw[vz,ET,aqn]
def add_eq{N:Nat}(L:Fu+20<=N)(d:GR a h)(l:List (Int×Int))(C:l.length<=100000):
 (mb N ((a:Int),h,l)=some (0,10,(a:Int),h)/\¬∀x∈l,lI (a:Int) x)\/∃h9,Ys a h l h9/\((400<h.length+h9.length/\mb N ((a:Int),h,l)=some (0,2,(a:Int),h))\/
  h.length+h9.length<=400/\∃v,mb N ((a:Int),h,l)=some (((h9.length:Nat):Int),0,(a:Int),v)/\aoS a h (BC h9 (vz a h h9)) v):=by
 obtain⟨N,rfl⟩:∃M,N=M+1:=⟨N - 1,by omega⟩;have K:=bH;have R:=d.len;rw[X4];rcases QM (N:=N) (by omega) d l C with⟨p,w⟩|⟨h9,p,j⟩
 ·rw[p,ob];exact .inl ⟨rfl,w⟩
 ·refine .inr ⟨h9,j,?_⟩
  have O:=j.len;rw[p,ob,yV rfl];simp only;obtain⟨M,rfl⟩:∃M,N=M+1:=⟨N - 1,by omega⟩;rw[XW,ob,gG (by omega) (by omega),FQ];by_cases c:h.length+h9.length<=400
  ·rw[aqd (by omega),EP (by omega) d,ob]
   simp only;have z:tQ (a:Int) h9=0:=by
    rw[VJ d.lo d.hi,aqd λe A=>by have:=j.rng e A;exact⟨⟨by omega,by omega⟩,by omega,by omega⟩]
   rw[QH (by omega) (d.JI 0) h9 (by omega),z,ob,aqd rfl,tF (by omega) _ (by omega),ob];simp only;rw[show lh a (EN a (gp h 0)) (h9.map r_)=vz a h h9 from rfl];have q:=vA a h h9;generalize vz a h h9=g at*;have P:=Of q;have t:=lpv (F:=λm k (s:List bT)=>xZ (M+1) m (((h9.length:Nat):Int),(k:Int),(a:Int),h,(0:Int),h9,g,s)) (n:=h9.length) (b:=((a:Int),h,(0:Int),h9,h++BC h9 g)) (I:=λk s=>s=h++(BC h9 g).take k) (λm k s B n=>by
    obtain⟨x,u⟩:=get_at (xs:=h9) (i:=k) B;obtain⟨b,o⟩:=get_at (xs:=g) (i:=k) (by omega);have D:(BC h9 g)[k]? =some (x.1,x.2,(0:Int),b):=by unfold BC;rw[avm,u,o]
    have Q:s.length<=100000:=by rw[n,aqy,aq0];omega
    exact⟨_,by rw[cG D,<-aqJ,<-n],by rw[Ej,dV (by omega),ba u,ob,ob,ba o,ob,ob,cE (by omega) (by simp;omega),ob,cn (by omega)]⟩) (λm s n=>by rw[Ej,dN (by omega),n,aqQ (by omega)]) (m:=M+1) (i:=0) (s:=h) (by omega) (by omega) (by simp)
   rw[show((0:Nat):Int)=(0:Int)from rfl]at t;rw[t,ob];simp only;have E:(cD (h++BC h9 g)).Nodup:=by
    rw[Oh,Og q];exact aq8.2 ⟨tD (ES d.VF),tD j.VF,λf y b o e=>((j.mem b).1 o).2.2 (e▸y)⟩
   obtain⟨r,H,G,J⟩:=VP ali (QN E) (by rw[aqy];omega);unfold cy;rw[H,ob];exact .inr ⟨c,r,rfl,G,J.imp QO⟩
  ·rw[aqc (by omega)]
   exact .inl ⟨by omega,rfl⟩
def adC{N:Nat}(i:Fu+20<=N)(b:GR a h){l:List (Int×Int)}(m:l.length<=100000)(k:∀x∈l,lI (a:Int) x)(n:∀d,Ys a h l d->d=[]):mb N ((a:Int),h,l)=some (0,0,(a:Int),h):=by
 have o:=b.len;rcases add_eq i b l m with⟨_,c⟩|⟨d,j,c⟩
 ·exact absurd k c
 ·obtain rfl:=n d j
  rcases c with⟨c,_⟩|⟨_,p,c,f⟩
  ·simp only[aq5]at c;omega
  ·have e:BC [] (vz a h [])=[]:=rfl
   have g:=f.perm;rw[e,aqV]at g;rw[c,adB f.VF b.VF g];rfl
