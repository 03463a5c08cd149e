/- part 6 -/
import Derived.Test.YtmdbmigbihboaaaGreatDoorZWholeNothing5
set_option linter.all false
noncomputable section
open Go Go.RowKit
open IntKind (wrap)
set_option maxRecDepth 100000
namespace Go.Proofs.YtmdbmigbihboaaaGreatDoor
variable{C:Code}{D:cL}{G:FuncId}{d:Int}{u:List PanicEntry}{a c n:Nat}{i:Type}{E F:TypeId}
def kGo(f:cL->Option i):Exit->cL->Option i
 |.normal,E=>f E
 |_,_=>none
def slI(E:cL)(i:Nat):qc:=match cW E.t i with
 |.sc (.i .i64) e=>some e
 |_=>none
def ajz(h:slI D a=some d):cW D.t a=.sc (.i .i64) d:=by
 unfold slI at h;split at h
 ·rename_i c b;cases h;exact b
 ·cases h
section
variable{P:Program}{dA:Exit->St->Prop}{T:TypeId->bs}{CT:List iZ}{N:Nat}
def TC.QG(m:Place P T CT){c d:Code}(g:Av c=true){o:Pl}{f:cL->Option i}{r:i}(h:uf T CT N c o D i (kGo f)=some r)(j:∀e,e.n=D.n->f e=some r->TC P d (bm e) dA):TC P (.seq c d) (bm D) dA:=by
 refine TC.seq ((TC.ex m g h).mono λx s n=>?_);obtain⟨e,rfl,k,b⟩:=n;cases x with
 |normal=>exact j e k b
 |exit a=>cases b
 |goto l=>cases b
 |ret=>cases b
 |panic p=>cases b
 |outgrown=>cases b
def TC.aox{id:Nat}{l:bp}{p1 p2:String}{i j:dI}{A:iM}{b:cL}(t:l=[⟨some a,.move (.tmp n),E,p1,i,none⟩,⟨some c,.call ⟨.value (.func G), #[.tmp a],A⟩,F,p2,j,none⟩])
 (s:PCX P G [] [.v (.int .i64 d)] u) (q:slI b n=some d) (o:a<b.n) (k:Kh (1000*(c+1)) []=true) (v:∀z,dA (.panic u) z):TC P (.seq (.region id l.toArray false) C) (bm b) dA:=by
 refine TC.seq (TC.region ?_);subst t;have r:(bm b).ev (.tmp n)=.v (.int .i64 d):=by
  show bG (bm b).t n=_;rw[show(bm b).t=gu b.t from rfl,cH,ajz q];rfl
 refine TL.cons λI m=>GS.plain rfl (SS.read (RS.ahi r) o (m _ (TL.last rfl ?_)));refine SP.RK (D:=[]) (h':=(bm b).h) s (Ki.func (args:= #[.tmp a])) (λH g e0 w B x y=>?_) k (v _);refine⟨e0,nk.refl x,(λp e h=>by cases h),(λp ob h=>by cases h),?_⟩;have:([.tmp a]:mL).map (St.ev ⟨(bm b).n,(a,.v (.int .i64 d))::(bm b).t,(bm b).h⟩)=[.v (.int .i64 d)]:=by
  simp only[aqc,aqZ,St.ev,bG,aqs]
 have f:LR (VR (bO H g e0 (bm b).h w) (some e0)) (([.tmp a]:mL).map (St.ev ⟨(bm b).n,(a,.v (.int .i64 d))::(bm b).t,(bm b).h⟩)) B:=y;rw[this]at f;exact f
end
noncomputable def tb:Code:=gV Tryz.f40
noncomputable def tq(i:Nat):Code:=iH (List.replicate i 1++[0]) tb
noncomputable def tz:Code:=iH [1,1,1,1,1,1,1] tb
def ada:tb=.seq (tq 0) (.seq (tq 1) (.seq (tq 2) (.seq (tq 3) (.seq (tq 4) (.seq (tq 5) (.seq (tq 6) tz)))))):=by kernel_rfl
def NZ(s:Nat)(c:Code):Prop:=∃(id a b:Nat) (g h:TypeId) (p1 p2:String) (d e:dI) (f:iM),c=.region id [⟨some a,.move (.tmp s),g,p1,d,none⟩,⟨some b,.call ⟨.value (.func 97), #[.tmp a],f⟩,h,p2,e,none⟩].toArray false/\a<130/\Kh (1000*(b+1)) []=true
def ams:NZ 8 (tq 2):=⟨_,_,_,_,_,_,_,_,_,_,rfl,by decide,rfl⟩
def amt:NZ 8 (tq 4):=⟨_,_,_,_,_,_,_,_,_,_,rfl,by decide,rfl⟩
def amu:NZ 8 (tq 6):=⟨_,_,_,_,_,_,_,_,_,_,rfl,by decide,rfl⟩
def NZ.tc{P:Program}{dA:Exit->St->Prop}{c y:Code}(h:NZ a c)(g:PCX P 97 [] [.v (.int .i64 d)] u)(f:slI D a=some d)(i:D.n=130)(j:∀k,dA (.panic u) k):TC P (.seq c y) (bm D) dA:=by
 obtain⟨id,n,o,q,r,p1,p2,l,m,p,rfl,b,e⟩:=h;exact TC.aox rfl g f (by rw[i];exact b) e j
abbrev TA:Type:=Int×bh×ju×Int×Int×Int×Int×bh×Int×List ca×Int×Int×Int×Int×aX
noncomputable def tE(N:Nat)(x:TA):cL:=⟨130,FW 0 ((ko.c N).as x),(ko.c N).H0 x⟩
noncomputable abbrev tx(N:Nat):=λ(c:Code) (E:cL) (f:cL->qc)=>uf T (Sw Jt N) N c .z E Int (kGo f)
noncomputable def Hu(N:Nat):TA->qc:=λ(k,h,i,e,f,g,P,d,n,b,l,q,p,m,j)=>
 aW (oC N (n,b,k,h,i,e,f,g,P,d)) λc=>cond (!(decide (c.2.1=0))) (some c.2.1) (
 aW (kj N (wrap .i64 (((c.2.2.2.1.length:Nat):Int)+((c.2.2.2.2.length:Nat):Int)),g,P,d)) λo=>cond (!(decide (o.2.1=0))) (some o.2.1) (
 cond (decide (c.2.2.1=1)) (aW (mg N (n,b,c.2.2.2.1)) λa=>some a.2.1)
  (cond (decide (c.2.2.1=2)) (aW (pM N (n,b,c.2.2.2.1)) λa=>some a.1)
   (cond (decide (c.2.2.1=3)) (aW (uW N (n,b,c.2.2.2.2)) λa=>some a.1) (some o.2.1)))))
def aoy N k d f a b g P e n h j o m l i:tx N (tq 0) (tE N (k,d,f,a,b,g,P,e,n,h,j,o,m,l,i)) (λE=>tx N (tq 1) E λE=>slI E 8)=
 aW (oC N (n,h,k,d,f,a,b,g,P,e)) λc=>some c.2.1:=by kernel_rfl
def aoz N k e f b d g P a n h j p m l i:tx N (tq 0) (tE N (k,e,f,b,d,g,P,a,n,h,j,p,m,l,i)) (λE=>tx N (tq 1) E λE=>tx N (tq 2) E λE=>tx N (tq 3) E λE=>slI E 8)=
 aW (oC N (n,h,k,e,f,b,d,g,P,a)) λc=>aW (dP N c.2.1) λ_=>
 aW (kj N (wrap .i64 (((c.2.2.2.1.length:Nat):Int)+((c.2.2.2.2.length:Nat):Int)),g,P,a)) λo=>some o.2.1:=by kernel_rfl
def aoA N k h i e f g P d n b l q p m j:tx N (tq 0) (tE N (k,h,i,e,f,g,P,d,n,b,l,q,p,m,j)) (λE=>tx N (tq 1) E λE=>tx N (tq 2) E λE=>tx N (tq 3) E λE=>tx N (tq 4) E λE=>tx N (tq 5) E λE=>slI E 8)=
 aW (oC N (n,b,k,h,i,e,f,g,P,d)) λc=>aW (dP N c.2.1) λ_=>
 aW (kj N (wrap .i64 (((c.2.2.2.1.length:Nat):Int)+((c.2.2.2.2.length:Nat):Int)),g,P,d)) λo=>aW (dP N o.2.1) λ_=>
 cond (c.2.2.1=1) (aW (mg N (n,b,c.2.2.2.1)) λa=>some a.2.1)
  (cond (c.2.2.1=2) (aW (pM N (n,b,c.2.2.2.1)) λa=>some a.1)
   (cond (c.2.2.1=3) (aW (uW N (n,b,c.2.2.2.2)) λa=>some a.1) (some o.2.1))):=by kernel_rfl
def QH{N:Nat}{x:TA}(h:TC Tryz.prog tb (bm (tE N x)) λy _=>y=.panic u):PCX Tryz.prog 40 (bz ((ko.c N).H0 x)) (bX ((ko.c N).as x)) u:=by
 refine PCX.intro Tryz.func40 (by kernel_rfl) (c:=tb) (by kernel_rfl) (by show _<=130;rw[show(bX ((ko.c N).as x)).length=3 from rfl];decide) (by show(130:Nat)<=1000000;decide) ?_;have e:(⟨Tryz.f40.ntmps,qU 0 (bX ((ko.c N).as x)),bz ((ko.c N).H0 x)⟩:St)=bm (tE N x):=by
  unfold bm tE;simp only[rk];rfl
 rw[e];exact h
def adb{N:Nat}{x:TA}(h:Hu (N+1) x=some d)(W:d≠0):PCX Tryz.prog 40 (bz ((ko.c (N+1)).H0 x)) (bX ((ko.c (N+1)).as x)) [{v:=mG d,recovered:=false}]:=by
 refine QH ?_;obtain⟨k,i,j,e,f,g,P,b,n,l,p,t,r,q,m⟩:=x;have a:=zF Jt (N+1);have B:=ac_ d W;have G:Av (tq 0)=true:=by kernel_rfl
 have H:Av (tq 1)=true:=by kernel_rfl
 have M:Av (tq 2)=true:=by kernel_rfl
 have O:Av (tq 3)=true:=by kernel_rfl
 have Z:Av (tq 4)=true:=by kernel_rfl
 have n5:Av (tq 5)=true:=by kernel_rfl
 have I:=aoy (N+1) k i j e f g P b n l p t r q m;have u:=aoz (N+1) k i j e f g P b n l p t r q m;have s:=aoA (N+1) k i j e f g P b n l p t r q m;have L:dP (N+1) 0=some ():=by rw[qw];rfl
 have S:tx (N+1) (tq 0) (tE (N+1) (k,i,j,e,f,g,P,b,n,l,p,t,r,q,m)) (λE=>tx (N+1) (tq 1) E λE=>slI E 8)=some d->TC Tryz.prog tb (bm (tE (N+1) (k,i,j,e,f,g,P,b,n,l,p,t,r,q,m))) λy _=>y=.panic [{v:=mG d,recovered:=false}]:=λh=>by
  rw[ada];exact TC.QG a G h λJ w h=>TC.QG a H h λK z h=>ams.tc B h (z.trans w) λ_=>rfl
 have U:tx (N+1) (tq 0) (tE (N+1) (k,i,j,e,f,g,P,b,n,l,p,t,r,q,m)) (λE=>tx (N+1) (tq 1) E λE=>tx (N+1) (tq 2) E λE=>tx (N+1) (tq 3) E λE=>slI E 8)=some d->TC Tryz.prog tb (bm (tE (N+1) (k,i,j,e,f,g,P,b,n,l,p,t,r,q,m))) λy _=>y=.panic [{v:=mG d,recovered:=false}]:=λh=>by
  rw[ada];exact TC.QG a G h λJ w h=>TC.QG a H h λK z h=>TC.QG a M h λQ D h=>TC.QG a O h λR F h=>amt.tc B h (F.trans (D.trans (z.trans w))) λ_=>rfl
 have V:tx (N+1) (tq 0) (tE (N+1) (k,i,j,e,f,g,P,b,n,l,p,t,r,q,m)) (λE=>tx (N+1) (tq 1) E λE=>tx (N+1) (tq 2) E λE=>tx (N+1) (tq 3) E λE=>tx (N+1) (tq 4) E λE=>tx (N+1) (tq 5) E λE=>slI E 8)=some d->TC Tryz.prog tb (bm (tE (N+1) (k,i,j,e,f,g,P,b,n,l,p,t,r,q,m))) λy _=>y=.panic [{v:=mG d,recovered:=false}]:=λh=>by
  rw[ada];exact TC.QG a G h λJ w h=>TC.QG a H h λK z h=>TC.QG a M h λQ D h=>TC.QG a O h λR F h=>TC.QG a Z h λE5 X h=>TC.QG a n5 h λE6 Y h=>amu.tc B h (Y.trans (X.trans (F.trans (D.trans (z.trans w))))) λ_=>rfl
 unfold Hu at h;simp only at h;generalize oC (N+1) (n,l,k,i,j,e,f,g,P,b)=oc at h I u s;cases oc with
 |none=>cases h
 |some c=>
  simp only[aW]at h I u s;by_cases A:c.2.1=0
  ·rw[A,L]at u s
   rw[A]at h;simp only[aq0,ap9,apW]at h u s;generalize kj (N+1) (wrap .i64 (((c.2.2.2.1.length:Nat):Int)+((c.2.2.2.2.length:Nat):Int)),g,P,b)=oo at h u s;cases oo with
   |none=>cases h
   |some o=>
    simp only at h u s;by_cases C:o.2.1=0
    ·rw[C,L]at s
     rw[C]at h;simp only[aq0,ap9,apW]at h s;exact V (s.trans h)
    ·rw[aqn C]at h
     exact U (u.trans h)
  ·rw[aqn A]at h
   exact S (I.trans h)
def Bs.yp(B:Bs)(l:vV):Bs:=⟨B.w,B.own,B.bS,B.sv,l⟩
section
variable{P:Program}{B:Bs}{Rd:bE}{e:Env}{h:Hp}{w:World}{st:St}{a:Act}
def SR.yp(b:SR B Rd e h w)(l:vV):SR (B.yp l) Rd e h w:=
 ⟨⟨b.ext.os,b.ext.tape,b.ext.output,b.ext.size,b.ext.block,b.ext.drawn⟩,b.jO,b.ob,b.base,b.inj,b.t_⟩
def SR.N0{l:vV}(b:SR (B.yp l) Rd e h w):SR B Rd e h w:=
 ⟨⟨b.ext.os,b.ext.tape,b.ext.output,b.ext.size,b.ext.block,b.ext.drawn⟩,b.jO,b.ob,b.base,b.inj,b.t_⟩
def Ga.yp(b:Ga B Rd e st a w)(l:vV):Ga (B.yp l) Rd e st {a with defers:=l} w:=
 ⟨b.n,rfl,b.sr.yp l,b.tr⟩
def Ym{id d:Nat}{I r:TypeId}{p1 p2:String}{s n:dI}{b:fU}{q:iM}{l:bp}{Q:Exit->Act->World->Prop}
 (C:l=[⟨some d,.makeFunc (.func G) #[] b,I,p1,s,none⟩,⟨none,.defer ⟨.value (.tmp d), #[],q⟩,r,p2,n,none⟩]) (i:Ga B Rd e st a w) (o:d<st.n)
 (D:∀k:Act,Ga (B.yp ({target:=.fn (.func G) (b.map a.eval),args:= #[]}::B.df)) Rd e ⟨st.n,(d,.cl (.func G) [] (b.toList.map st.ev))::st.t,st.h⟩ k w->Q .normal k w):(Code.region id l.toArray false).wp P Q a w:=by
 subst C;refine wp_region_lit (asM λJ y=>?_);rw[apR (by simp[Region.wanted])];have H:VR (bO B Rd e st.h w) (some e) (.cl (.func G) [] (b.toList.map st.ev)) (.func (.func G) #[] (b.map a.eval)):=by
  have f:=i.args b;have:=VR.cl (Rd:=bO B Rd e st.h w) (E:=some e) (fn:=.func G) (fs:=[]) [] _ rfl f.1 (λj c u A=>by cases A) f.2;have t:(b.toList.map a.eval).toArray=b.map a.eval:=by rw[<-arv]
  rw[t]at this;exact this
 refine eo (v:=.func (.func G) #[] (b.map a.eval)) (w':=w) (by simp[execOp,Instr.makeFunc]) (y _ _ ?_);have g:=i.put o H;have p:(a.put (some d) (.func (.func G) #[] (b.map a.eval))).eval (.tmp d)=.func (.func G) #[] (b.map a.eval):=by
  have x:d<a.tmps.size:=by rw[i.n.1];exact o
  simp[Act.eval,Act.put,x]
 generalize a.put (some d) (.func (.func G) #[] (b.map a.eval))=m at g p;refine asM λK z=>?_;rw[apR (by simp[Region.wanted])];have F:(execOp m.eval ⟨none,.defer ⟨.value (.tmp d), #[],q⟩,r,p2,n,none⟩).run P w=.ok (.defer {target:=.fn (.func G) (b.map a.eval),args:= #[]}) w:=by
  simp[execOp,resolve,p,Deferred.ofValue]
 unfold Oper.wp;rw[F];refine z _ _ (D _ ?_);have f:=g.yp ({target:=.fn (.func G) (b.map a.eval),args:= #[]}::m.defers);rw[g.d]at f⊢;exact f
end
noncomputable def pb:Code:=gV Tryz.f5
noncomputable def pq(i:aZ):Code:=iH i pb
def amv:pb=.seq (pq [0]) (.seq (pq [1,0]) (.seq (pq [1,1,0]) (.seq (pq [1,1,1,0]) (.seq (pq [1,1,1,1,0]) (pq [1,1,1,1,1]))))):=by kernel_rfl
def ajA(c:Code):Prop:=∃(id:Nat) (g i:TypeId) (p1 p2:String) (b d:dI) (f:iM),c=.region id [⟨some 14,.makeFunc (.func 39) #[] #[.tmp 3,.tmp 6,.tmp 7],g,p1,b,none⟩,⟨none,.defer ⟨.value (.tmp 14), #[],f⟩,i,p2,d,none⟩].toArray false
def agb:ajA (pq [1,1,0]):=⟨_,_,_,_,_,_,_,_,rfl⟩
noncomputable def gb:Code:=gV Tryz.f39
noncomputable def gq(i:aZ):Code:=iH i gb
def ajB(c:Code):Prop:=∃(id:Nat) (f g:TypeId) (p1 p2:String) (a b:dI) (e:iM),c=.region id [⟨some 6,.call ⟨.builtin .recover, #[],e⟩,f,p1,a,none⟩,⟨some 3,.assign (.tmp 6),g,p2,b,none⟩].toArray false
def amw:ajB (gq [0]):=⟨_,_,_,_,_,_,_,_,rfl⟩
noncomputable def asL:bp:=match gq [1,0]with
 |.region _ a _=>a.toList.drop 2
 |_=>[]
section
variable{P:Program}{st:St}{d:iN}{ty:TypeId}{pos:String}{af:dI}{gd:fE}
def RS.assert{x:Operand}{v:Value}{c:AV}(k:∃l,P.underlying F=some (.struct l))(n:st.ev x=.v (.iface F v))(m:∀Rd b,VR Rd b c v):RS P ⟨d,.typeAssert x E F true,ty,pos,af,gd⟩ st (.tu [c,.v (.bool true)]):=λr o e a w h=>by
 obtain⟨l,k⟩:=k;have g:=h.ev x;rw[n]at g;have g:=g.bN;refine⟨.tuple #[v,.bool true],?_,λq _=>?_⟩
 ·exact .tu [v,.bool true] rfl λj p u f i=>by
   match j with
   |0=>simp at f i;subst f;subst i;exact m _ _
   |1=>simp at f i;subst f;subst i;exact .v
   |j+2=>simp at f
 ·simp[execOp,g,Instr.typeAssert,aqi k]
def agc(h:ajB C){Q:Exit->Act->List Frame->World->Prop}{a:Act}{w:World}{b:Frame}{c:List Frame}{v:Value}(i:b.mode=.panicking [{v:=v,recovered:=false}])(l:6<a.tmps.size)
 (j:Q .normal ((a.put (some 6) v).put (some 3) v) ({b with mode:=.panicking [{v:=v,recovered:=true}]}::c) w):C.wpS P Q a (b::c) w:=by
 obtain⟨id,p,q,p1,p2,e,f,o,rfl⟩:=h;refine wpS_region ?_;have g:(a.put (some 6) v).eval (.tmp 6)=v:=by simp[Act.eval,Act.put,l]
 have m:(execOp a.eval ⟨some 6,.call ⟨.builtin .recover, #[],o⟩,p,p1,e,none⟩).run P w=.ok .recover w:=by simp[execOp,resolve,invoke,builtin]
 have n:(execOp (a.put (some 6) v).eval ⟨some 3,.assign (.tmp 6),q,p2,f,none⟩).run P w=.ok (.value v) w:=by simp[execOp,g]
 have k:recoverD (b::c)=some (v,{b with mode:=.panicking [{v:=v,recovered:=true}]}::c):=by simp[recoverD,i]
 show wpOpsS P _ Q [0,1] a (b::c) w;simp only[wpOpsS,arj,att,arF,Region.wanted,m,n,k,aqs,Oper.upon_value];exact j
end
section
variable{P:Program}
def DCX(P:Program)(f:FuncId)(a:Hp)(c:List AV)(u g:FrameMode)(K:Hp->Prop):Prop:=
 ∀B Rd e w b,SR B Rd e a w->LR (VR (bO B Rd e a w) (some e)) c b->CallsD P f b.toArray u w λx h i=>(∃v,x=.returned v)/\h=g/\∃d H,K H/\SR B Rd d H i
def Ga.enter{fn:Func}{B:Bs}{Rd:bE}{e:Env}{w:World}{H0:Hp}{av:List AV}{vs:bD}(k:B.df=[])(n:av.length<=fn.ntmps)(j:fn.ntmps<=1000000)(m:SR B Rd e H0 w)(c:LR (VR (bO B Rd e H0 w) (some e)) av vs):
 Ga B Rd e ⟨fn.ntmps,qU 0 av,H0⟩ {tmps:=vs.toArray++Array.replicate (fn.ntmps - vs.toArray.size) undef,defers:=[]} w:=by
 refine⟨⟨by simp[c.1];omega,j⟩,by rw[k],m,λi=>?_⟩;rw[wb];simp only[aql,aqs,asQ];by_cases b:i<av.length
 ·have d:av[i]? =some av[i]:=ap0 b
  obtain⟨u,g,l⟩:=c.get d;have a:av.getD i .un=av[i]:=by simp[List.getD,d]
  have h:(vs.toArray++Array.replicate (fn.ntmps - vs.toArray.size) undef).getD i undef=u:=by
   have f:i<vs.length:=by rw[c.1];exact b
   simp[aq8,asR,f];rw[ap0 f]at g;simpa using g
  rw[a,h];exact l
 ·have a:av.getD i .un=.un:=by simp[List.getD,aqE (asq b)]
  rw[a];exact .un
def DCX.rec{fn:Func}{c0 c1:Code}{g:Hp}{a:List AV}{v:Value}{K:Hp->Prop}(y:P.funcs[G]? =some fn)(t:fn.body=some (.seq c0 c1))(s:ajB c0)(D:a.length<=fn.ntmps)(u:fn.ntmps<=1000000)(m:6<fn.ntmps)(E:fn.results.toList=[])
 (h:TC P c1 ⟨fn.ntmps,(3,.v v)::(6,.v v)::qU 0 a,g⟩ λx q=>(x=.normal\/x=.ret)/\K q.h):DCX P G g a (.panicking [{v:=v,recovered:=false}]) (.panicking [{v:=v,recovered:=true}]) K:=by
 intro B Rd e w I F p;refine callsD_of_wpS y t λc J H=>wpS_seq (agc s H (by simp[p.1];omega) ?_);have z:=Ga.enter (fn:=fn) (B:=B.yp []) (H0:=g) (av:=a) (vs:=I) rfl D u (F.yp []) p;have A:=z.put (d:=6) (c:=.v v) m .v;have C:=A.put (d:=3) (c:=.v v) (Nat.lt_trans (by decide) m) .v;refine wpS_of_wp (h _ _ _ _ _ _ C λx q j l k r i=>?_);have o:k.defers=[]:=i.d;have b:∃f,(results fn k.tmps).run P r=.ok f r:=by
  refine⟨.tuple #[],?_⟩;have:fn.results= #[]:=by simpa using E
  simp[results,this]
 obtain⟨f,b⟩:=b;obtain⟨j,n⟩:=j;rcases j with rfl|rfl
 ·exact⟨o,_,rfl,f,b,⟨_,rfl⟩,rfl,l,_,n,i.sr.N0⟩
 ·exact⟨o,_,rfl,f,b,⟨_,rfl⟩,rfl,l,_,n,i.sr.N0⟩
end
noncomputable def asO:bp:=match gq [1,0]with
 |.region _ a _=>a.toList
 |_=>[]
def aoC:∃id,gq [1,0]=.region id asO.toArray false:=⟨_,rfl⟩
def ajC:∃(c d:TypeId) (p1 p2:String) (a b:dI) (e:TypeId),asO=⟨some 8,.move (.tmp 3),c,p1,a,none⟩::⟨some 9,.typeAssert (.tmp 8) e 119 true,d,p2,b,none⟩::asL:=⟨_,_,_,_,_,_,_,rfl⟩
noncomputable def gAv:List EV:=[.pt 4294967296 0,.pt 4294967297 0,.pt 4294967298 0]
noncomputable def gS(n:Int)(c:List ca)(a b:Int):List EV:=[.sc j1 n,.sc c5 c,.sc j1 a,.sc j1 b]
noncomputable def gH(n:Int)(c:List ca)(a b:Int)(d e:List EV):eQ:=[(4294967296,some (.box 26 (gS n c a b))),(4294967297,some (.box 26 d)),(4294967298,some (.box 35 e))]
noncomputable def gE(e n:Int)(c:List ca)(a b:Int)(d f:List EV):cL:=⟨20,(9,.tu [.ag [.sc j1 e],.sc .b true])::(8,.v (mG e))::(3,.v (mG e))::(6,.v (mG e))::FW 0 gAv,gH n c a b d f⟩
abbrev GR2:Type:=Option ea×Option ea
noncomputable def gK:Exit->cL->Option GR2
 |.normal,E=>some (bC E.h 4294967297,bC E.h 4294967298)
 |.ret,E=>some (bC E.h 4294967297,bC E.h 4294967298)
 |_,_=>none
noncomputable def zS:List EV:=[.sc j1 0,.nil,.sc j1 0,.sc j1 0]
noncomputable def zR:List EV:=[.sc j1 0,.sc j1 0,.nil]
def amx e n c a b:BA T [] asO asL (gE e n c a b zS zR) (λE=>uf T [] 0 (gq [1,1]) .z E GR2 gK)=
 some (some (.box 26 (gS n c a b)),some (.box 35 [.sc j1 e,.sc j1 0,.nil])):=by kernel_rfl
def ade(e n:Int)(c:List ca)(a b:Int)(H:Hp):Prop:=
 a_ H 4294967297=some (b_ (.box 26 (gS n c a b)))/\a_ H 4294967298=some (b_ (.box 35 [.sc j1 e,.sc j1 0,.nil]))
def Yn(e n:Int)(g:List ca)(b f:Int):DCX Tryz.prog 39 (bz (gH n g b f zS zR)) (bX gAv) (.panicking [{v:=mG e,recovered:=false}]) (.panicking [{v:=mG e,recovered:=true}]) (ade e n g b f):=by
 refine DCX.rec (fn:=Tryz.f39) (c0:=gq [0]) (c1:=.seq (gq [1,0]) (gq [1,1])) Tryz.func39 (by kernel_rfl) amw (by show _<=20;rw[show(bX gAv).length=3 from rfl];decide) (by show(20:Nat)<=1000000;decide) (by show 6<20;decide) rfl ?_;obtain⟨id,hid⟩:=aoC;rw[hid];refine TC.seq (TC.region ?_)
 suffices H:∀l,l=asO->TL Tryz.prog asO.toArray l ⟨20,(3,.v (mG e))::(6,.v (mG e))::qU 0 (bX gAv),bz (gH n g b f zS zR)⟩ (Ky (λh=>TC Tryz.prog (gq [1,1]) h λx h=>(x=.normal\/x=.ret)/\ade e n g b f h.h) λx h=>(x=.normal\/x=.ret)/\ade e n g b f h.h)from H _ rfl
 intro l r;obtain⟨P,R,p1,p2,M,N,S,B⟩:=ajC;rw[B]at r;subst r;have t:Place Tryz.prog T []:=zF [] 0;refine TL.cons λz m=>GS.plain rfl (SS.read (RS.ahi (c:=.v (mG e)) rfl) (by show 8<20;decide) (m _ ?_));refine TL.cons λz m=>GS.plain rfl (SS.read (RS.assert (v:=.agg #[.int .i64 e]) (c:=.ag [.v (.int .i64 e)]) (by exact⟨_,rfl⟩) rfl λRd E=>.ag [.int .i64 e] rfl λj c u o y=>?_) (by show 9<20;decide) (m _ ?_))
 ·match j with
  |0=>simp at o y;subst o;subst y;exact .v
  |j+1=>simp at o
 have C:(⟨20,(9,.tu [.ag [.v (.int .i64 e)],.v (.bool true)])::(8,.v (mG e))::(3,.v (mG e))::(6,.v (mG e))::qU 0 (bX gAv),bz (gH n g b f zS zR)⟩:St)=bm (gE e n g b f zS zR):=by
  unfold bm gE;simp only[rk,gu,aqc];rfl
 have q:=Qa t (amx e n g b f);refine TL.of ?_;have J:AL Tryz.prog asO.toArray asL ⟨20,(9,.tu [.ag [.v (.int .i64 e)],.v (.bool true)])::(8,.v (mG e))::(3,.v (mG e))::(6,.v (mG e))::qU 0 (bX gAv),bz (gH n g b f zS zR)⟩ _:=C▸q;intro K A e0 a w Q D G;refine J K A e0 a w Q D λh I=>G h ?_;obtain⟨L,rfl,F⟩:=I;refine(TC.ex t (by kernel_rfl) F).mono λx s q=>?_;obtain⟨k,rfl,_,d⟩:=q;have p:bC k.h 4294967297=some (.box 26 (gS n g b f))/\bC k.h 4294967298=some (.box 35 [.sc j1 e,.sc j1 0,.nil])/\(x=.normal\/x=.ret):=by
  cases x with
  |normal=>simp only[gK,apU,aqa]at d;exact⟨d.1,d.2,.inl rfl⟩
  |ret=>simp only[gK,apU,aqa]at d;exact⟨d.1,d.2,.inr rfl⟩
  |exit i=>cases d
  |goto l=>cases d
  |panic O=>cases d
  |outgrown=>cases d
 refine⟨p.2.2,?_,?_⟩
 ·show a_ (bz k.h) _=_
  rw[da,p.1];rfl
 ·show a_ (bz k.h) _=_
  rw[da,p.2.1];rfl
noncomputable def mi:List CO:=[alz,ko]
noncomputable def pO:bp:=match pq [1,1,1,1,0]with
 |.region _ a _=>a.toList
 |_=>[]
def pq5:∃id,pq [1,1,1,1,0]=.region id pO.toArray false:=⟨_,rfl⟩
noncomputable def pAv(n:Int)(i:List ca)(c h k:Int)(d:bh)(f:ju)(a b g P:Int)(e:bh):List EV:=
 [.ag (gS n i c h),.ag [.sc j1 k,.sc cy d,.sc pv f],.ag [.sc j1 a,.sc j1 b,.sc j1 g,.sc j1 P,.sc cy e]]
noncomputable def pE(n:Int)(i:List ca)(c h k:Int)(d:bh)(f:ju)(a b g P:Int)(e:bh):cL:=⟨30,FW 0 (pAv n i c h k d f a b g P e),[]⟩
noncomputable abbrev px(N:Nat)(R:Type):=λ(c:Code) (E:cL) (f:cL->Option R)=>uf T (Sw mi N) N c .z E R (kGo f)
noncomputable def pD(E:cL):cL:=⟨E.n,(14,.cl (.func 39) [] [cW E.t 3,cW E.t 6,cW E.t 7])::E.t,E.h⟩
noncomputable def pC(N:Nat)(E:cL)(f:cL->Option i):Option i:=px N i (pq [0]) E λE=>px N i (pq [1,0]) E λE=>px N i (pq [1,1,1,0]) (pD E) λE=>BA T (Sw mi N) pO (pO.take 3) E f
def p1 N n i c h k d f a b g P e:px N Nat (pq [0]) (pE n i c h k d f a b g P e) (λE=>some E.n)=some 30:=by kernel_rfl
def p2 N n d a c k h j e f g P i:px N Nat (pq [0]) (pE n d a c k h j e f g P i) (λE=>px N Nat (pq [1,0]) E λE=>some E.n)=aW (qt N (n,d,a,c)) λb=>cond (!b) none (some 30):=by kernel_rfl
def p3 N n d a c k h j e f g P i:pC N (pE n d a c k h j e f g P i) (λE=>some E.n)=aW (qt N (n,d,a,c)) λb=>cond (!b) none (some 30):=by kernel_rfl
def p4 N n d a c k h j e f g P i:pC N (pE n d a c k h j e f g P i) (λE=>aW (aaB (ko.c N) 21 (bC E.h) [cW E.t 18,cW E.t 19,cW E.t 20]) λp=>some p.1)=aW (qt N (n,d,a,c)) λb=>cond (!b) none (some (k,h,j,e,f,g,P,i,n,d,a,c,0,0,([]:aX))):=by kernel_rfl
noncomputable def qT:List (Nat×EV):=[(3,.pt 4294967296 0),(4,.pt 4294967299 0),(5,.pt 4294967300 0),(6,.pt 4294967297 0),(7,.pt 4294967298 0)]
noncomputable def qH(n:Int)(i:List ca)(c h k:Int)(d:bh)(f:ju)(a b g P:Int)(e:bh):eQ:=
 gH n i c h zS zR++[(4294967299,some (.box 30 [.sc j1 k,.sc cy d,.sc pv f])),(4294967300,some (.box 42 [.sc j1 a,.sc j1 b,.sc j1 g,.sc j1 P,.sc cy e]))]
noncomputable def qE(n:Int)(i:List ca)(c h k:Int)(d:bh)(f:ju)(a b g P:Int)(e:bh):cL:=⟨30,qT,qH n i c h k d f a b g P e⟩
abbrev QR:Type:=TA×aZ×bH×Option ea×Option ea×Option ea×EV×EV×Nat
noncomputable def qC(N:Nat)(E:cL)(f:cL->Option i):Option i:=px N i (pq [1,1,1,0]) E λE=>BA T (Sw mi N) pO (pO.take 3) E f
def amy N n c a b k f i d e g P h:qC N (qE n c a b k f i d e g P h) (λE=>aW (aaB (ko.c N) 21 (bC E.h) [cW E.t 18,cW E.t 19,cW E.t 20]) λp=>some ((p.1,p.2.1,p.2.2,bC E.h 4294967296,bC E.h 4294967297,bC E.h 4294967298,cW E.t 6,cW E.t 7,E.n):QR))=
 some ((k,f,i,d,e,g,P,h,n,c,a,b,0,0,([]:aX)),[],[(4294967296,17)],some (.box 26 (gS n c a b)),some (.box 26 zS),some (.box 35 zR),.pt 4294967297 0,.pt 4294967298 0,30):=by kernel_rfl
section
variable{P:Program}{T:TypeId->bs}{CT:List iZ}(hp:Place P T CT)
include hp in
def TL.BA{f l2:bp}{g:Exit->St->Prop}:∀{l:bp} {E:cL} {R:Type} {k:cL->Option R} {r:R},_root_.Go.Proofs.YtmdbmigbihboaaaGreatDoor.BA T CT f l E k=some r->(∀c,k c=some r->TL P f.toArray l2 (bm c) g)->TL P f.toArray (l++l2) (bm E) g
 |[],E,R,k,r,h,d=>d E h
 |o::l,E,R,k,r,h,d=>by
  simp only[_root_.Go.Proofs.YtmdbmigbihboaaaGreatDoor.BA]at h;refine TL.cons λu n=>?_;have a:=Z1 hp h;intro t j e m w next Q p q
  refine a t j e m w next Q p λi s=>q i (n i ?_)
  obtain⟨c,rfl,b⟩:=s;exact TL.BA b d
end
def amz(o:Oper):Prop:=∃(c:TypeId) (p:String) (a:dI) (b:iM),o=⟨some 21,.call ⟨.value (.func 40), #[.tmp 18,.tmp 19,.tmp 20],b⟩,c,p,a,none⟩
def amA:∃o,pO=pO.take 3++[o]/\amz o:=⟨_,rfl,_,_,_,_,rfl⟩
noncomputable def qy:Code:=pq [1,1,1,1,1]
def ajE{H:Hp}{o:ea}(g:22000+1000<=n)(h:a_ H n=some (b_ o))(e:Ob.jP (mA (1000*(21+1))) (b_ o)=b_ o):a_ (nq [(4294967296,17)]++hL (mA (1000*(21+1))) (bz (gD (λ_=>none) [])++H)) n=some (b_ o):=by
 have d:bz (gD (λ_=>none) [])=[]:=rfl;rw[d,aqC,ep];have b:(nq [(4294967296,17)]).any (λp=>p.1==n)=false:=by simp[nq];omega
 rw[b,sR,h];have c:mA (1000*(21+1)) n=false:=by
  cases a:mA (1000*(21+1)) n with
  |false=>rfl
  |true=>
   unfold mA at a;have f:=apY (auU.1 a).2;omega
 rw[c];simp[e]
def agd{A:Int}(n:Int)(j:List ca)(e i k:Int)(t:bh)(y:ju)(m r g P:Int)(w:bh)(h:Hu (a+1) (k,t,y,m,r,g,P,w,n,j,e,i,0,0,[])=some A)(R:A≠0):
 TC Tryz.prog (.seq (pq [1,1,1,0]) (.seq (pq [1,1,1,1,0]) qy)) (bm (qE n j e i k t y m r g P w)) λx s=>x=.panic [{v:=mG A,recovered:=false}]/\a_ s.h 4294967296=some (b_ (.box 26 (gS n j e i)))/\a_ s.h 4294967297=some (b_ (.box 26 zS))/\a_ s.h 4294967298=some (b_ (.box 35 zR))/\bG s.t 6=.pt 4294967297 0/\bG s.t 7=.pt 4294967298 0/\s.n=30:=by
 have hp:=zF mi (a+1);have C:=amy (a+1) n j e i k t y m r g P w;unfold qC px at C;have V:Av (pq [1,1,1,0])=true:=by kernel_rfl
 generalize Y:((k,t,y,m,r,g,P,w,n,j,e,i,(0:Int),(0:Int),([]:aX)),([]:aZ),[((4294967296:Nat),(17:Nat))],some (ea.box 26 (gS n j e i)),some (ea.box 26 zS),some (ea.box 35 zR),EV.pt 4294967297 0,EV.pt 4294967298 0,30)=rr at C;refine TC.QG hp V C λF hn U=>?_;obtain⟨id,hid⟩:=pq5;rw[hid];refine TC.seq (TC.region ?_);obtain⟨o,W,ty,p,G,tt,rfl⟩:=amA
 suffices X:∀l,l=pO->TL Tryz.prog pO.toArray l (bm F) (Ky (λa0=>TC Tryz.prog qy a0 _) _)from X _ rfl
 intro l E;rw[W]at E;subst E;refine TL.BA hp U λb u=>?_;refine TL.last rfl ?_;cases B:aaB (ko.c (a+1)) 21 (bC b.h) [cW b.t 18,cW b.t 19,cW b.t 20]with
 |none=>rw[B]at u;cases u
 |some q=>
  obtain⟨x,gs,D⟩:=q;rw[B]at u;have c:=apZ (u.trans (ap5 some Y.symm));have Z:x=(k,t,y,m,r,g,P,w,n,j,e,i,(0:Int),(0:Int),([]:aX)):=ap5 (λz=>z.1) c;have S:gs=[]:=ap5 (λz=>z.2.1) c;have Q:D=[(4294967296,17)]:=ap5 (λz=>z.2.2.1) c;have H:bC b.h 4294967296=_:=ap5 (λz=>z.2.2.2.1) c;have I:bC b.h 4294967297=_:=ap5 (λz=>z.2.2.2.2.1) c;have J:bC b.h 4294967298=_:=ap5 (λz=>z.2.2.2.2.2.1) c;have K:cW b.t 6=_:=ap5 (λz=>z.2.2.2.2.2.2.1) c;have L:cW b.t 7=_:=ap5 (λz=>z.2.2.2.2.2.2.2.1) c;have M:b.n=30:=ap5 (λz=>z.2.2.2.2.2.2.2.2) c;clear u c;subst S;subst Q;refine SP.ctr B (by rw[Z];exact adb h R) ?_ (λk _=>da _ _) ?_
  ·have O:=Ki.func (P:=Tryz.prog) (st:=bm b) (d:=21) (f:=40) (args:= #[.tmp 18,.tmp 19,.tmp 20]) (ts:=tt) (ty:=ty) (pos:=p) (af:=G) (gd:=none)
   have N:([.tmp 18,.tmp 19,.tmp 20]:mL).map (bm b).ev=bX [cW b.t 18,cW b.t 19,cW b.t 20]:=by
    simp only[aqc,aqZ,bX,St.ev];rw[show(bm b).t=gu b.t from rfl,cH,cH,cH]
   rw[<-N];exact O
  ·exact⟨rfl,ajE (by decide) ((da _ _).trans (by rw[H];rfl)) rfl,ajE (by decide) ((da _ _).trans (by rw[I];rfl)) rfl,ajE (by decide) ((da _ _).trans (by rw[J];rfl)) rfl,(lP _ _ _).trans ((ap5 _ ((cH _ _).trans (ap5 enc K))).trans rfl),(lP _ _ _).trans ((ap5 _ ((cH _ _).trans (ap5 enc L))).trans rfl),M⟩
abbrev GR6:Type:=Option ea×Option ea×EV×EV
noncomputable def gK6:Exit->cL->Option GR6
 |.normal,E=>some (bC E.h 4294967297,bC E.h 4294967298,cW E.t 6,cW E.t 7)
 |.ret,E=>some (bC E.h 4294967297,bC E.h 4294967298,cW E.t 6,cW E.t 7)
 |_,_=>none
def amB N n i c h k d f a b g P e:px N GR6 (pq [1,1,1,0]) (qE n i c h k d f a b g P e) (λE=>px N GR6 (pq [1,1,1,1,0]) E λE=>uf T (Sw mi N) N qy .z E GR6 gK6)=
 aW (zU N (k,d,f,a,b,g,P,e,n,i,c,h,0,0,([]:aX))) λ(y:Int×List ca×Int×Int×Int×Int×aX)=>some (some (.box 26 (gS y.1 y.2.1 y.2.2.1 y.2.2.2.1)),some (.box 35 [.sc j1 y.2.2.2.2.1,.sc j1 y.2.2.2.2.2.1,.sc j6 y.2.2.2.2.2.2]),.pt 4294967297 0,.pt 4294967298 0):=by kernel_rfl
def ajF(n:Int)(t:List ca)(j r k:Int)(m:bh)(q:ju)(e f g P:Int)(p:bh){y:Int×List ca×Int×Int×Int×Int×aX}(h:zU a (k,m,q,e,f,g,P,p,n,t,j,r,0,0,[])=some y):
 TC Tryz.prog (.seq (pq [1,1,1,0]) (.seq (pq [1,1,1,1,0]) qy)) (bm (qE n t j r k m q e f g P p)) λx s=>(x=.normal\/x=.ret)/\a_ s.h 4294967297=some (b_ (.box 26 (gS y.1 y.2.1 y.2.2.1 y.2.2.2.1)))/\a_ s.h 4294967298=some (b_ (.box 35 [.sc j1 y.2.2.2.2.1,.sc j1 y.2.2.2.2.2.1,.sc j6 y.2.2.2.2.2.2]))/\bG s.t 6=.pt 4294967297 0/\bG s.t 7=.pt 4294967298 0/\s.n=30:=by
 have u:=zF mi a;have d:=amB a n t j r k m q e f g P p;rw[h]at d;simp only[aW]at d;have N:Av (pq [1,1,1,0])=true:=by kernel_rfl
 have O:Av (pq [1,1,1,1,0])=true:=by kernel_rfl
 have Q:Av qy=true:=by kernel_rfl
 generalize J:((some (ea.box 26 (gS y.1 y.2.1 y.2.2.1 y.2.2.2.1)),some (ea.box 35 [.sc j1 y.2.2.2.2.1,.sc j1 y.2.2.2.2.2.1,.sc j6 y.2.2.2.2.2.2]),EV.pt 4294967297 0,EV.pt 4294967298 0):GR6)=A at d;unfold px at d;have I:uf T (Sw mi a) a (pq [1,1,1,0]) .z (qE n t j r k m q e f g P p) GR6 (kGo λE=>uf T (Sw mi a) a (pq [1,1,1,1,0]) .z E GR6 (kGo λE=>uf T (Sw mi a) a qy .z E GR6 gK6))=some A:=d;refine TC.QG u N I λR K G=>TC.QG u O G λS L H=>(TC.ex u Q H).mono λx s w=>?_;obtain⟨b,rfl,M,c⟩:=w;have v:(x=.normal\/x=.ret)/\(bC b.h 4294967297,bC b.h 4294967298,cW b.t 6,cW b.t 7)=A:=by
  cases x with
  |normal=>exact⟨.inl rfl,apZ c⟩
  |ret=>exact⟨.inr rfl,apZ c⟩
  |exit i=>cases c
  |goto l=>cases c
  |panic U=>cases c
  |outgrown=>cases c
 obtain⟨w,v⟩:=v;have o:=v.trans J.symm;have B:bC b.h 4294967297=_:=ap5 (λz=>z.1) o;have C:bC b.h 4294967298=_:=ap5 (λz=>z.2.1) o;have D:cW b.t 6=_:=ap5 (λz=>z.2.2.1) o;have F:cW b.t 7=_:=ap5 (λz=>z.2.2.2) o;exact⟨w,(da _ _).trans (by rw[B];rfl),(da _ _).trans (by rw[C];rfl),(cH _ _).trans (by rw[D];rfl),(cH _ _).trans (by rw[F];rfl),M.trans (L.trans K)⟩
variable{v:Int}
def Fu:Nat:=18446744073709551616
def bQ:Fu=18446744073709551616:=rfl
def Hv:maxLen=9223372036854775807:=rfl
def cd{p:Prop} [Decidable p](x y:i):cond (decide p) x y=if p then x else y:=by
 by_cases h:p<;>simp[h]
def FX{p:Prop} [Decidable p](x y:i):cond (!(decide p)) x y=if p then y else x:=by
 by_cases h:p<;>simp[h]
def cb(b:Bool)(x y:i):cond b x y=if b=true then x else y:=by cases b<;>rfl
def ob{α β:Type}(x:α)(f:α->Option β):aW (some x) f=f x:=rfl
def gT{x:Int}(a: -9223372036854775808<=x)(b:x<=9223372036854775807):wrap .i64 x=x:=by
 simp[wrap,IntKind.bits,IntKind.signed];omega
def cE(h:a<9223372036854775807):wrap .i64 ((a:Int)+1)=((a+1:Nat):Int):=by
 rw[gT (by omega) (by omega)];omega
def wu8(a:0<=d)(b:d<=255):wrap .u8 d=d:=by
 simp[wrap,IntKind.bits,IntKind.signed];omega
def aoD(a:0<=d)(b:d<=4294967295):wrap .u32 d=d:=by
 simp[wrap,IntKind.bits,IntKind.signed];omega
def bd{α:Type}{a:List α}{i:Nat}{x:α}(h:a[i]? =some x):ba a (i:Int)=some x:=by
 simp[ba,h]
def ajG{b:List i}{x:i}(h:b[a]? =some x)(c:d=a):ba b d=some x:=by
 subst c;exact bd h
def get_at{α:Type}{xs:List α}{i:Nat}(h:i<xs.length):∃x,xs[i]? =some x:=⟨_,ap0 h⟩
def Jv{α:Type}{a:List α}(c:0<=d)(h:d<a.length):∃x,a[d.toNat]? =some x/\ba a d=some x:=by
 obtain⟨x,b⟩:=get_at (xs:=a) (i:=d.toNat) (by omega);exact⟨x,b,ajG b (by omega)⟩
def de{b:List i}{x:i}(h:b[a]? =some x):b.drop a=x::b.drop (a+1):=by
 obtain⟨d,c⟩:=apV.1 h;rw[<-c];exact List.drop_eq_getElem_cons d
def cP{b:List i}{x:i}(h:b[a]? =some x):b.take (a+1)=b.take a++[x]:=by
 rw[List.take_add_one,h];rfl
def QI{a:List i}(b:0<=d)(c:d<=v)(e:v<=a.length):jm a d v=some ((a.take v.toNat).drop d.toNat):=by
 simp[jm,b,c,e]
def r_{a:List i}(b:0<=d)(c:d<=a.length):jm a 0 d=some (a.take d.toNat):=by
 rw[QI (by omega) b c];rfl
def sa{a:List i}(b:0<=d)(c:d<=a.length):jm a d ((a.length:Nat):Int)=some (a.drop d.toNat):=by
 rw[QI b c (by omega)];simp
def adf(a:List i):K0 a 0 ((a.length:Nat):Int) ((a.length:Nat):Int)=some a:=by
 simp[K0]
def cO{b ys:List i}(c:a<=1000)(h:b.length+ys.length<=100000000000):eN a b ys=some (b++ys):=by
 unfold eN;rw[apR];refine⟨?_,by rw[Hv];omega⟩
 calc (b.length+ys.length)*a<=100000000000*1000:=arp h c
  _<=140737488355328:=by decide
def mj(c:a<=1000)(b:0<=d)(h:d<=100000000000):qM d a=some d.toNat:=by
 unfold qM;rw[apR];refine⟨b,?_,by rw[Hv];omega⟩
 calc a*d.toNat<=1000*100000000000:=arp c (by omega)
  _<=140737488355328:=by decide
def Jw(h:v≠0):FQ d v=some (d.tmod v):=by simp[FQ,h]
def QJ(h:v≠0):PC d v=some (d.tdiv v):=by simp[PC,h]
def yq(a b:Nat):Int.tmod (a:Int) (b:Int)=((a % b:Nat):Int):=by
 rw[Int.tmod_eq_emod_of_nonneg (by omega)];omega
def yr(a b:Nat):Int.tdiv (a:Int) (b:Int)=((a/b:Nat):Int):=by
 rw[Int.tdiv_eq_ediv_of_nonneg (by omega)];omega
variable{t:Int×Int}{y:Nat}{h:Nat->Nat}{m:bh}{e:bM}{j k s:aZ}{b o:aX}
def pQ:∀(g:bh) (c d v:Int),bJ (.i .i64) (dS (.i .i64) g c v) d=if c=d then some v else bJ (.i .i64) g d
 |[],c,d,v=>by
  by_cases h:c=d
  ·subst h;simp[dS,bJ,iF]
  ·have b:iF (.i .i64) c d=false:=by simp[iF,h]
   simp[dS,bJ,b,h]
 |(x,y)::g,c,d,v=>by
  rw[dS];by_cases h:x=c
  ·subst h
   by_cases a:x=d
   ·subst a;simp[iF,bJ]
   ·have b:iF (.i .i64) x d=false:=by simp[iF,a]
    have f:iF (.i .i64) x x=true:=by simp[iF]
    simp[bJ,b,f,a]
  ·have b:iF (.i .i64) x c=false:=by simp[iF,h]
   simp only[b,apW,bJ];by_cases a:x=d
   ·subst a
    have f:iF (.i .i64) x x=true:=by simp[iF]
    rw[f,apQ (λe=>h e.symm)];rfl
   ·have f:iF (.i .i64) x d=false:=by simp[iF,a]
    rw[f];simp only[apW];exact pQ g c d v
def yt:∀(a:bh) (c v:Int),(dS (.i .i64) a c v).length=a.length+if(bJ (.i .i64) a c).isSome then 0 else 1
 |[],c,v=>by simp[dS,bJ]
 |(x,y)::a,c,v=>by
  rw[dS,bJ];by_cases h:x=c
  ·subst h
   have d:iF (.i .i64) x x=true:=by simp[iF]
   simp[d]
  ·have b:iF (.i .i64) x c=false:=by simp[iF,h]
   simp only[b,apW,aqf,yt a c v];omega
def Hw(N:Nat)(a b:aX)(g:a.length=b.length)(j:a.length<=9223372036854775807):∀(k i m:Nat),i+k=a.length->k<m->
 ym N m (a,b,(i:Int))=some (if a.drop i=b.drop i then .inl ()else .inr false)
 |k,i,0,c,d=>by omega
 |0,i,m+1,c,d=>by
  rw[ED,dX (by omega),aqP (by omega),aqP (by omega),apR rfl]
 |k+1,i,m+1,c,d=>by
  obtain⟨x,e⟩:=get_at (xs:=a) (i:=i) (by omega);obtain⟨y,f⟩:=get_at (xs:=b) (i:=i) (by omega);rw[ED,eh (by omega),bd e,ob,bd f,ob,FX,cE (by omega),Hw N a b g j k (i+1) m (by omega) (by omega),de e,de f];by_cases h:x=y
  ·simp[h]
  ·simp[h]
def age(N:Nat)(f:Fu+1<=N)(a b:aX)(d:a.length<=9223372036854775807):Jr N (a,b)=some (decide (a=b)):=by
 obtain⟨N,rfl⟩:∃n,N=n+1:=⟨N - 1,by omega⟩;rw[Yk,FX];by_cases c:a.length=b.length
 ·rw[apR (by omega),show((0:Int)=((0:Nat):Int))from rfl,Hw N a b c d a.length 0 N (by omega) (by have:=bQ;omega),ob,aqG,aqG]
  by_cases h:a=b<;>simp[h]
 ·rw[apQ (by omega)]
  have:¬a=b:=λe=>c (by rw[e]);simp[this]
def BF(l:aX):Prop:=∀t∈l,0<=t/\t<=10000
def e8(l:aX):Prop:=l.length<=1000/\BF l/\l.Nodup
instance(l:aX):Decidable (BF l):=by unfold BF;exact inferInstance
instance(l:aX):Decidable (e8 l):=by unfold e8;exact inferInstance
def agf(N:Nat)(a:Fu<=N)(t:Int):SN N t=some (decide (¬(0<=t/\t<=10000))):=by
 obtain⟨N,rfl⟩:∃n,N=n+1:=⟨N - 1,by have:=bQ;omega⟩;rw[aaR,cd];by_cases h:t<0
 ·rw[apR h]
  have:¬(0<=t/\t<=10000):=by omega
  simp[this]
 ·rw[apQ h]
  congr 1;simp only[arq];omega
def Hx(N:Nat)(f:Fu<=N)(l:aX)(n:l.length<=9223372036854775807):∀(k i m:Nat),i+k=l.length->k<m->
 ∃j:Nat,B0 N m (l,((l.length:Nat):Int),(i:Int))=some (if BF (l.drop i)then .inl ()else .inr (j:Int))
 |k,i,0,c,d=>by omega
 |0,i,m+1,c,d=>by
  refine⟨0,?_⟩;rw[Gz,dX (by omega),aqP (by omega),apR (by intro t h;cases h)]
 |k+1,i,m+1,c,d=>by
  obtain⟨x,g⟩:=get_at (xs:=l) (i:=i) (by omega);obtain⟨j,o⟩:=Hx N f l n k (i+1) m (by omega) (by omega);rw[Gz,eh (by omega),bd g,ob,agf N f x,ob,cd,cE (by omega),o,de g];by_cases h:0<=x/\x<=10000
  ·refine⟨j,?_⟩
   rw[apQ (λe=>e h)];have:BF (x::l.drop (i+1))↔BF (l.drop (i+1)):=⟨λe t a=>e t (by simp[a]),λe t a=>by
    rcases aqj.1 a with rfl|a
    ·exact h
    ·exact e t a⟩
   by_cases b:BF (l.drop (i+1))
   ·rw[apR b,apR (this.2 b)]
   ·rw[apQ b,apQ (λe=>b (this.1 e))]
  ·refine⟨i,?_⟩
   rw[apR h,apQ (λe=>h (e x (by simp)))]
def agh(N:Nat)(c:Fu+2<=N)(l:aX)(b:l.length<=9223372036854775807):SX N l=some (!decide (BF l)):=by
 obtain⟨N,rfl⟩:∃n,N=n+2:=⟨N - 2,by omega⟩;rw[aaU,aaT];obtain⟨j,h⟩:=Hx N (by omega) l b l.length 0 N (by omega) (by have:=bQ;omega);rw[show((0:Int)=((0:Nat):Int))from rfl,h,aqG];by_cases a:BF l<;>simp[ob,a]
structure Met(l:aX)(met:bh):Prop where
 mem:∀c,(bJ (.i .i64) met c).isSome=decide (c∈l)
 le:met.length<=l.length
 eq:met.length=l.length↔l.Nodup
def agi:Met [] []:=⟨λc=>rfl,by simp,by simp⟩
def agj(h:Met b m)(x v:Int):Met (b++[x]) (dS (.i .i64) m x v):=by
 refine⟨λc=>?_,?_,?_⟩
 ·rw[pQ]
  by_cases g:x=c
  ·subst g;simp
  ·rw[apQ g,h.mem c]
   have l:¬c=x:=λe=>g e.symm;simp[l]
 ·rw[yt]
  have:=h.le;simp only[aqb,ar0];split<;>omega
 ·rw[yt,h.mem x]
  have n:=h.le;have i:=h.eq;simp only[aqb,ar0];by_cases f:x∈b
  ·simp only[f,aq0,aqs]
   constructor
   ·intro e;omega
   ·intro e
    rw[aqL]at e;exact absurd rfl (e.2.2 x f x (by simp))
  ·simp only[f,decide_false,aru,aqN]
   constructor
   ·intro e
    rw[aqL];refine⟨i.1 (by omega),by simp,λa k d j=>?_⟩;simp at j;subst j;rintro rfl;exact f k
   ·intro e
    rw[aqL]at e;have:=i.2 e.1;omega
def Hy(N:Nat)(l c:aX)(h:l.length<=9223372036854775807):∀(k i m:Nat) (a:bh),i+k=l.length->k<m->Met (l.take i) a->
 ∃g,B1 N m (c,l,((l.length:Nat):Int),(i:Int),a)=some (c,g)/\Met l g
 |k,i,0,a,d,e,b=>by omega
 |0,i,m+1,a,d,e,b=>by
  rw[GA,dX (by omega)];rw[aqt (by omega)]at b;exact⟨a,rfl,b⟩
 |k+1,i,m+1,a,d,e,b=>by
  obtain⟨x,f⟩:=get_at (xs:=l) (i:=i) (by omega);rw[GA,eh (by omega),bd f,ob,cE (by omega)];refine Hy N l c h k (i+1) m _ (by omega) (by omega) ?_;rw[cP f];exact agj b x _
def Jx(N:Nat)(d:Fu+1<=N)(l:aX)(c:l.length<=9223372036854775807):S2 N l=some (decide l.Nodup):=by
 obtain⟨N,rfl⟩:∃n,N=n+1:=⟨N - 1,by omega⟩;obtain⟨f,a,b⟩:=Hy N l l c l.length 0 N [] (by omega) (by have:=bQ;omega) agi;rw[aaV,show((0:Int)=((0:Nat):Int))from rfl,a,ob];congr 1;rw[arq];have:=b.eq;constructor
 ·intro e;simp only at e;exact this.1 (by omega)
 ·intro e;have:=this.2 e;simp only;omega
def Jy(N:Nat)(e:Fu+3<=N)(l:aX)(c:l.length<=9223372036854775807):zG N l=some (decide (e8 l)):=by
 obtain⟨N,rfl⟩:∃n,N=n+1:=⟨N - 1,by omega⟩;rw[Xk,cd];by_cases d:1000<l.length
 ·rw[apR (by omega)]
  have:¬e8 l:=λh=>by have:=h.1;omega
  simp[this]
 rw[apQ (by omega),agh N (by omega) l c,ob,Jx N (by omega) l c];by_cases a:BF l
 ·by_cases b:l.Nodup
  ·have:e8 l:=⟨by omega,a,b⟩
   simp[a,b,this,ob]
  ·have:¬e8 l:=λh=>b h.2.2
   simp[a,b,this,ob]
 ·have:¬e8 l:=λh=>a h.2.1
  simp[a,this,ob]
def amC(l:aX):Prop:=BF l/\l.Nodup
instance(l:aX):Decidable (amC l):=by unfold amC;exact inferInstance
def ix:aX->Int->Nat
 |[],_=>0
 |x::l,v=>if x=v then 0 else ix l v+1
def BG(l:aX)(p:Nat):aX:=l.drop p++l.take p
def ef(l:aX)(v:Int):aX:=BG l (ix l v)
def adg:∀{l:aX} {v:Int},v∈l->ix l v<l.length
 |x::l,v,h=>by
  rw[ix];by_cases c:x=v
  ·rw[apR c];simp
  ·rw[apQ c]
   have:=adg (l:=l) (v:=v) ((aqj.1 h).resolve_left λe=>c e.symm);simp;omega
def VG:∀{a:aX} (b:aX) {v:Int},v∉a->ix (a++b) v=a.length+ix b v
 |[],b,v,h=>by simp
 |x::a,b,v,h=>by
  rw[aq6,ix,apQ (λe=>h (by simp[e])),VG b (λe=>h (by simp[e]))];simp;omega
def ajH{v:Int}(h:v∉b):ix (b++v::o) v=b.length:=by
 rw[VG _ h,ix,apR rfl,arf]
def yu:∀{l:aX} {v:Int},v∈l->∃u t,l=u++v::t/\v∉u/\ix l v=u.length
 |x::l,v,h=>by
  by_cases c:x=v
  ·exact⟨[],l,by rw[c];rfl,by simp,by rw[ix,apR c];rfl⟩
  ·obtain⟨u,t,a,b,d⟩:=yu ((aqj.1 h).resolve_left λe=>c e.symm)
   exact⟨x::u,t,by rw[a];rfl,by simp[b,show¬v=x fromλe=>c e.symm],by rw[ix,apQ c,d];rfl⟩
def ahK:∀{l:aX},l.Nodup->∀{i:Nat} {v:Int},l[i]? =some v->ix l v=i
 |[],_,i,v,h=>by simp at h
 |x::l,a,0,v,h=>by
  simp at h;rw[ix,apR h]
 |x::l,a,i+1,v,h=>by
  have b:v∈l:=ap_ (by simpa using h);rw[ix,apQ (λe:x=v=>(aq2.1 a).1 (by rw[e];exact b)),ahK (aq2.1 a).2 (by simpa using h)]
def Jz(l:aX)(p:Nat):(BG l p).length=l.length:=by simp[BG];omega
def yv(l:aX)(p:Nat):(BG l p).Perm l:=by
 unfold BG;have:= @as6 Int (l.drop p) (l.take p);rwa[arK]at this
def VH:d∈BG b a↔d∈b:=(yv b a).mem_iff
def Yo:(BG b a).Nodup↔b.Nodup:=(yv b a).nodup_iff
def N1:e8 (BG b a)↔e8 b:=by
 unfold e8 BF;rw[Jz,Yo];simp only[VH]
def agk(A B:aX):BG (A++B) A.length=B++A:=by simp[BG]
def oG{u t:aX}{v:Int}(h:v∉u):ef (u++v::t) v=v::t++u:=by
 rw[ef,ajH h,agk]
def QL{A B:aX}{v:Int}(e:(A++B).Nodup)(f:v∈A++B):ef (A++B) v=ef (B++A) v:=by
 have d:=aqL.1 e;by_cases h:v∈A
 ·obtain⟨u,t,rfl,a,_⟩:=yu h
  have b:v∉B:=λc=>d.2.2 v h v c rfl;rw[show u++v::t++B=u++v::(t++B) by simp,oG a,show B++(u++v::t)=(B++u)++v::t by simp,oG (by simp[a,b])];simp
 ·have b:v∈B:=by simpa[h]using f
  obtain⟨u,t,rfl,a,_⟩:=yu b;rw[show A++(u++v::t)=(A++u)++v::t by simp,oG (by simp[a,h]),show u++v::t++A=u++v::(t++A) by simp,oG a];simp
def Yp{l:aX}(b:l.Nodup)(c:v∈l):ef (BG l a) v=ef l v:=by
 have e:l=l.take a++l.drop a:=(arK a l).symm;unfold BG;rw[<-QL (by rw[<-e];exact b) (by rw[<-e];exact c),<-e]
def QM:e8 (ef b v)↔e8 b:=N1
def Hz(l:aX)(v:Int):(ef l v).length=l.length:=Jz _ _
def HA:d∈ef b v↔d∈b:=VH
def sb(h:v∈b):(ef b v)[0]? =some v:=by
 obtain⟨u,t,rfl,a,_⟩:=yu h;rw[oG a];rfl
def mI:aX->Int
 |[]=>0
 |[x]=>x
 |x::y::l=>if x<=mI (y::l)then x else mI (y::l)
def mZ:∀{l:aX},l≠[]->mI l∈l/\∀y∈l,mI l<=y
 |[],h=>absurd rfl h
 |[x],_=>by simp[mI]
 |x::y::l,_=>by
  obtain⟨d,b⟩:=mZ (l:=y::l) (by simp);rw[mI];by_cases c:x<=mI (y::l)
  ·rw[apR c]
   refine⟨by simp,λz a=>?_⟩;rcases aqj.1 a with rfl|a
   ·exact asp _
   ·exact Int.le_trans c (b z a)
  ·rw[apQ c]
   refine⟨aqU _ d,λz a=>?_⟩;rcases aqj.1 a with rfl|a
   ·omega
   ·exact b z a
def zV(a:d∈b)(c:∀y∈b,d<=y):mI b=d:=by
 obtain⟨e,f⟩:=mZ (List.ne_nil_of_mem a);exact Int.le_antisymm (f d a) (c _ e)
def Yq(h:b.Perm o):mI b=mI o:=by
 by_cases c:o=[]
 ·subst c;rw[h.eq_nil]
 ·obtain⟨a,d⟩:=mZ c
  exact zV (h.mem_iff.2 a) λy e=>d y (h.mem_iff.1 e)
def dg(l:aX):aX:=if e8 l/\l≠[]then ef l (mI l)else []
def fO(h:e8 b)(a:b≠[]):dg b=ef b (mI b):=apR ⟨h,a⟩
def Yr(h:e8 b):dg (BG b a)=dg b:=by
 by_cases c:b=[]
 ·subst c;simp[BG]
 ·have d:BG b a≠[]:=λe=>c (by have:=Jz b a;rw[e]at this;exact aqT this.symm)
  rw[fO h c,fO (N1.2 h) d,Yq (yv b a),Yp h.2.2 (mZ c).1]
def N3(h:e8 b):dg (dg b)=dg b:=by
 by_cases c:b=[]
 ·subst c;rfl
 ·rw[fO h c]
  exact(Yr h).trans (fO h c)
def QN(h:e8 b):e8 (dg b):=by
 by_cases c:b=[]
 ·subst c;simpa[dg]using h
 ·rw[fO h c];exact QM.2 h
def JA(l:aX)(x:Int):Bool×aX:=if e8 l/\x∈l then(true,ef l x)else(false,[])
def ixI(l:aX)(v:Int):Int:=if v∈l then(ix l v:Int)else -1
def Cx(h:v∈b):ixI b v=(ix b v:Int):=apR h
def JB(h:v∉b):ixI b v= -1:=apQ h
def adh:(0<=ixI b v)↔v∈b:=by
 by_cases h:v∈b
 ·rw[Cx h];simp[h]
 ·rw[JB h];simp[h]
def EE(N:Nat)(l:aX)(v:Int)(f:l.length<=9223372036854775807):∀(k i m:Nat),i+k=l.length->k<m->
 B4 N m (l,v,((l.length:Nat):Int),(i:Int))=some (if v∈l.drop i then .inr ((i+ix (l.drop i) v:Nat):Int)else .inl ())
 |k,i,0,b,a=>by omega
 |0,i,m+1,b,a=>by
  rw[GI,dX (by omega),aqP (by omega)];simp
 |k+1,i,m+1,b,a=>by
  obtain⟨x,c⟩:=get_at (xs:=l) (i:=i) (by omega);rw[GI,eh (by omega),bd c,ob,cd,cE (by omega),de c];by_cases h:v=x
  ·subst h
   rw[apR rfl,apR (by simp),ix,apR rfl];rfl
  ·have d:ix (x::l.drop (i+1)) v=ix (l.drop (i+1)) v+1:=by rw[ix,apQ (λe:x=v=>h e.symm)]
   rw[apQ h,EE N l v f k (i+1) m (by omega) (by omega),d];by_cases a:v∈l.drop (i+1)
   ·rw[apR a,apR (by simp[a])];congr 3;omega
   ·rw[apQ a,apQ (by simp[h,a])]
def EF(N:Nat)(b:Fu+1<=N)(l:aX)(v:Int)(a:l.length<=9223372036854775807):GH N (l,v)=some (ixI l v):=by
 obtain⟨N,rfl⟩:∃n,N=n+1:=⟨N - 1,by omega⟩;have h:=EE N l v a l.length 0 N (by omega) (by have:=bQ;omega);rw[aqG,aqq]at h;rw[aa4,show((0:Int)=((0:Nat):Int))from rfl,h,ob,ixI];by_cases c:v∈l
 ·rw[apR c,apR c]
 ·rw[apQ c,apQ c]
def has_eq(N:Nat)(b:Fu+2<=N)(l:aX)(v:Int)(a:l.length<=9223372036854775807):DK N (l,v)=some (decide (v∈l)):=by
 obtain⟨N,rfl⟩:∃n,N=n+1:=⟨N - 1,by omega⟩;rw[aa5,EF N (by omega) l v a,ob];congr 1;exact arq.2 adh
def N4(N:Nat)(l:aX)(o:l.length<=1000):∀(k i m:Nat) (a:Int),i+k=l.length->k<m->a∈l->(∀(j:Nat) y,j<i->l[j]? =some y->a<=y)->
 B2 N m (l,a,(i:Int))=some (mI l)
 |k,i,0,a,h,n,c,d=>by omega
 |0,i,m+1,a,h,n,c,d=>by
  rw[GB,dX (by omega)];congr 1;refine(zV c λy b=>?_).symm;obtain⟨j,f⟩:=atu b;exact d j y (by have:=(apV.1 f).1;omega) f
 |k+1,i,m+1,a,h,n,c,d=>by
  obtain⟨x,g⟩:=get_at (xs:=l) (i:=i) (by omega);rw[GB,eh (by omega),bd g,ob,cE (by omega)];refine N4 N l o k (i+1) m _ (by omega) (by omega) ?_ λj y f b=>?_
  ·split
   ·exact ap_ g
   ·exact c
  ·by_cases e:j=i
   ·subst e
    rw[g]at b;cases b;split<;>omega
   ·have:=d j y (by omega) b
    split<;>omega
def min_eq(N:Nat)(f:Fu+1<=N)(l:aX)(d:l.length<=1000)(c:l≠[]):LU N l=some (mI l):=by
 obtain⟨N,rfl⟩:∃n,N=n+1:=⟨N - 1,by omega⟩;have e:=arD.2 c;obtain⟨x,a⟩:=get_at (xs:=l) (i:=0) e;rw[aaW,dX (by omega),show((0:Int)=((0:Nat):Int))from rfl,bd a,ob,show((1:Int)=((1:Nat):Int))from rfl,N4 N l d (l.length - 1) 1 N x (by omega) (by have:=bQ;omega) (ap_ a) (λj y g b=>by
  have:j=0:=by omega
  subst this;rw[a]at b;cases b;exact asp _),ob]
structure Cl(n:Nat)(l:bH)(c:Nat->Nat):Prop where
 le:∀v,v<n->c v<=v
 fix:∀v,v<n->c (c v)=c v
 ed:∀e∈l,c e.1=c e.2
 uni:∀f:Nat->Nat,(∀e∈l,f e.1=f e.2)->∀v,v<n->f (c v)=f v
def jn(c:Nat->Nat)(u v:Nat):Nat->Nat:=λx=>if c x=max (c u) (c v)then min (c u) (c v)else c x
def agm(b:h a=h c):jn h a c=h:=by
 funext x;unfold jn;rw[b];split
 ·rename_i d;omega
 ·rfl
def Cl.jn{n:Nat}{l:bH}{c:Nat->Nat}(h:Cl n l c){u v:Nat}(i:u<n)(j:v<n):Cl n (l++[(u,v)]) (jn c u v):=by
 have p:=h.fix u i;have r:=h.fix v j;have o:c (min (c u) (c v))=min (c u) (c v):=by
  rcases as7 (c u) (c v)with q|q
  ·rw[aq_ q];exact p
  ·rw[as8 q];exact r
 refine⟨λx d=>?_,λx d=>?_,λe a=>?_,λf k x d=>?_⟩
 ·have:=h.le x d
  unfold Proofs.YtmdbmigbihboaaaGreatDoor.jn;split<;>omega
 ·have:=h.fix x d
  by_cases q:c x=max (c u) (c v)
  ·have g:Proofs.YtmdbmigbihboaaaGreatDoor.jn c u v x=min (c u) (c v):=apR q
   rw[g];unfold Proofs.YtmdbmigbihboaaaGreatDoor.jn;rw[o];split<;>rfl
  ·have g:Proofs.YtmdbmigbihboaaaGreatDoor.jn c u v x=c x:=apQ q
   rw[g];unfold Proofs.YtmdbmigbihboaaaGreatDoor.jn;rw[this,apQ q]
 ·rcases ap3.1 a with a|a
  ·unfold Proofs.YtmdbmigbihboaaaGreatDoor.jn;rw[h.ed e a]
  ·simp only[aqe]at a
   subst a;have:∀y,(c y=c u\/c y=c v)->Proofs.YtmdbmigbihboaaaGreatDoor.jn c u v y=min (c u) (c v):=λy t=>by
    unfold Proofs.YtmdbmigbihboaaaGreatDoor.jn;split
    ·rfl
    ·omega
   rw[this u (.inl rfl),this v (.inr rfl)]
 ·have b:=h.uni f (λe a=>k e (by simp[a]))
  have m:f u=f v:=k (u,v) (by simp);have s:f (min (c u) (c v))=f (max (c u) (c v)):=by
   rcases as7 (c u) (c v)with q|q
   ·rw[aq_ q,aul q,b u i,b v j,m]
   ·rw[as8 q,aum q,b u i,b v j,m]
  unfold Proofs.YtmdbmigbihboaaaGreatDoor.jn;split
  ·rename_i q;rw[s,<-q,b x d]
  ·exact b x d
def cnt(n:Nat)(c:Nat->Nat):Nat:=((List.range n).filter λv=>c v==v).length
def FH(l:bH):Nat->Nat:=l.foldl (λc e=>jn c e.1 e.2) id
def N5(l:bH)(e:Nat×Nat):FH (l++[e])=jn (FH l) e.1 e.2:=by simp[FH]
def JC(n:Nat)(l:bH):Prop:=∀e∈l,e.1<n/\e.2<n
def adi(l:bH)(e:Nat×Nat):Bool:=FH l e.1 !=FH l e.2
def jl(p:bH):bH->bq
 |[]=>[]
 |e::l=>adi p e::jl (p++[e]) l
def rtf(p:Nat->Nat):Nat->Nat->Nat
 |0,v=>v
 |k+1,v=>if p v=v then v else rtf p k (p v)
def root(p:Nat->Nat)(v:Nat):Nat:=rtf p v v
def pR{p:Nat->Nat}(a:∀v,p v<=v):∀(k v:Nat),v<=k->rtf p k v=root p v
 |0,v,h=>by
  have:v=0:=by omega
  subst this;rfl
 |k+1,v,h=>by
  unfold root;cases v with
  |zero=>
   have:p 0=0:=by have:=a 0;omega
   simp only[rtf,apR this]
  |succ v=>
   rw[rtf,rtf];by_cases c:p (v+1)=v+1
   ·rw[apR c,apR c]
   ·have b:=a (v+1)
    rw[apQ c,apQ c,pR a k _ (by omega),pR a v _ (by omega)]
def gU(a:∀v,h v<=v)(v:Nat):root h v=if h v=v then v else root h (h v):=by
 rw[<-pR a (v+1) v (by omega),rtf];split
 ·rfl
 ·rename_i c
  have b:=a v;exact pR a v _ (by omega)
def sd(a:∀v,h v<=v)(v:Nat):root h (h v)=root h v:=by
 rw[gU a v];split
 ·rename_i c;rw[c,gU a v,apR c]
 ·rfl
def yw(a:∀v,h v<=v):∀v,h (root h v)=root h v:=λv=>by
 induction v using Nat.strongRecOn with
 |_ v b=>
  rw[gU a v];split
  ·assumption
  ·rename_i c
   have d:=a v;exact b _ (by omega)
def yx(a:∀v,h v<=v):∀v,root h v<=v:=λv=>by
 induction v using Nat.strongRecOn with
 |_ v b=>
  rw[gU a v];have d:=a v;split
  ·exact apT _
  ·rename_i c
   have:=b (h v) (by omega);omega
def kq(c:∀a,h a<=a)(b:h a=a):root h a=a:=by rw[gU c,apR b]
def cK(p:Nat->Nat)(a b:Nat):Nat->Nat:=λx=>if x=a then b else p x
def Ys(a:∀v,h v<=v)(v x:Nat):root (cK h v (h (h v))) x=root h x:=by
 have g:∀y,cK h v (h (h v)) y<=y:=λy=>by
  unfold cK;split
  ·rename_i c;subst c;exact aqM (a _) (a _)
  ·exact a y
 induction x using Nat.strongRecOn with
 |_ x d=>
  rw[gU g x];by_cases c:x=v
  ·subst c
   have e:cK h x (h (h x)) x=h (h x):=apR rfl;rw[e];split
   ·rename_i c
    have b:=a x;have f:=a (h x);exact(kq a (by omega)).symm
   ·rename_i c
    have b:=a x;have f:=a (h x);rw[d _ (by omega),sd a,sd a]
  ·have e:cK h v (h (h v)) x=h x:=apQ c
   rw[e,gU a x];split
   ·rfl
   ·have b:=a x
    exact d _ (by omega)
def Yt(d:∀v,h v<=v)(k:h a=a)(i:h c=c)(j:a<=c)(x:Nat):root (cK h c a) x=if root h x=c then a else root h x:=by
 have f:∀y,cK h c a y<=y:=λy=>by
  unfold cK;split
  ·rename_i b;subst b;exact j
  ·exact d y
 induction x using Nat.strongRecOn with
 |_ x l=>
  rw[gU f x];by_cases b:x=c
  ·subst b
   have e:cK h x a x=a:=apR rfl;rw[e,kq d i,apR rfl];split
   ·rename_i b;exact b.symm
   ·rename_i b
    refine kq f ?_;unfold cK;rw[apQ b,k]
  ·have e:cK h c a x=h x:=apQ b
   rw[e];split
   ·rename_i g
    rw[kq d g,apQ b]
   ·have m:=d x
    rw[l _ (by omega),sd d]
def par(s:aX)(v:Nat):Nat:=(s.getD v 0).toNat
structure HB(n:Nat)(s:aX)(c:Nat->Nat):Prop where
 len:s.length=n
 at_:∀i,i<n->∃w:Nat,s[i]? =some (w:Int)/\w<=i
 cls:∀x,x<n->root (par s) x=c x
def HB.QO(a:HB n b h)(v:Nat):par b v<=v:=by
 unfold par;by_cases d:v<n
 ·obtain⟨w,c,e⟩:=a.at_ v d
  simp only[ari,c,Option.getD_some];omega
 ·rw[ari,aqE (by have:=a.len;omega)];simp
def HB.nth(c:HB n b h)(e:a<n):ba b (a:Int)=some ((par b a:Nat):Int):=by
 obtain⟨w,d,f⟩:=c.at_ a e;rw[bd d];unfold par;simp[ari,d]
def JD(f:a<b.length):par (b.set a (c:Int))=cK (par b) a c:=by
 funext x;unfold par cK;simp only[ari,aqS];by_cases d:a=x
 ·subst d;simp[f]
 ·rw[apQ d,apQ (λe=>d e.symm)]
def HB.set{c c':Nat->Nat}(h:HB n b c){v w:Nat}(a:v<n)(f:w<=v)(d:∀x,x<n->root (cK (par b) v w) x=c' x):HB n (b.set v (w:Int)) c':=by
 refine⟨by rw[ard];exact h.len,λi e=>?_,λx g=>by rw[JD (by rw[h.len];exact a)];exact d x g⟩;rw[aqS];by_cases q:v=i
 ·subst q
  rw[apR rfl,apR (by rw[h.len];exact a)];exact⟨w,rfl,f⟩
 ·rw[apQ q]
  exact h.at_ i e
def EG(N:Nat){n:Nat}:∀(m v:Nat) (s:aX) {c:Nat->Nat},v<m->v<n->HB n s c->
 ∃f,Cp N m ((v:Int),s)=some (((c v:Nat):Int),f)/\HB n f c/\∀j,j<n->par s j=c j->par f j=c j
 |0,v,s,c,h,_,_=>absurd h (by omega)
 |m+1,v,s,c,w,d,a=>by
  rw[X9];simp only[a.nth d,ob,FX];have b:=a.QO;have z:=b v;by_cases q:((par s v:Nat):Int)=(v:Int)
  ·rw[apR q]
   have l:par s v=v:=by omega
   refine⟨s,?_,a,λj _ h=>h⟩;rw[<-a.cls v d,kq b l]
  ·rw[apQ q]
   have l:¬par s v=v:=λe=>q (by rw[e]);have y:=b (par s v);simp only[a.nth (show par s v<n by omega),ob,ap2];have k:HB n (s.set v ((par s (par s v):Nat):Int)) c:=a.set d (by omega) λx u=>by rw[Ys b,a.cls x u]
   have g:par (s.set v ((par s (par s v):Nat):Int))=cK (par s) v (par s (par s v)):=JD (by rw[a.len];exact d);have o:par (s.set v ((par s (par s v):Nat):Int)) v=par s (par s v):=by rw[g];exact apR rfl
   simp only[k.nth d,ob,o];obtain⟨f,p,r,t⟩:=EG N m (par s (par s v)) _ (by omega) (by omega) k;refine⟨f,?_,r,λj i h=>t j i ?_⟩
   ·rw[p]
    have:c (par s (par s v))=c v:=by rw[<-a.cls _ (by omega),sd b,sd b,a.cls _ d]
    rw[this]
   ·rw[g]
    unfold cK;split
    ·rename_i e
     subst e;rw[h,<-a.cls j i,yw b]
    ·exact h
def EH{N:Nat}(g:Fu+1<=N)(l:n<=1000)(k:a<n)(i:HB n b h):∃c,Hh N ((a:Int),b)=some (((h a:Nat):Int),c)/\HB n c h/\∀j,j<n->par b j=h j->par c j=h j:=by
 obtain⟨M,rfl⟩:∃M,N=M+1:=⟨N - 1,by omega⟩;obtain⟨c,d,e,f⟩:=EG M M a b (by rw[bQ]at g;omega) k i;exact⟨c,by rw[acr,d];rfl,e,f⟩
def join_eq(E:Fu+2<=a)(o:n<=1000)(g:c<n)(i:y<n)(z:HB n b h):
 ∃p,U1 a ((c:Int),(y:Int),b)=some (h c !=h y,p)/\HB n p (jn h c y):=by
 obtain⟨M,rfl⟩:∃M,a=M+1:=⟨a - 1,by omega⟩;obtain⟨F,s,B,_⟩:=EH (N:=M) (by omega) o g z;obtain⟨f,t,d,_⟩:=EH (N:=M) (by omega) o i B;have e:=d.QO;have C:h c<=c:=by rw[<-d.cls c g];exact yx e c
 have D:h y<=y:=by rw[<-d.cls y i];exact yx e y
 have j:par f (h c)=h c:=by rw[<-d.cls c g];exact yw e c
 have l:par f (h y)=h y:=by rw[<-d.cls y i];exact yw e y
 have r:(if((h y:Nat):Int)>((h c:Nat):Int)then((h y:Nat):Int)else((h c:Nat):Int))=((max (h c) (h y):Nat):Int):=by
  split<;>omega
 have em:(if((h y:Nat):Int)<((h c:Nat):Int)then((h y:Nat):Int)else((h c:Nat):Int))=((min (h c) (h y):Nat):Int):=by
  split<;>omega
 have m:max (h c) (h y)<n:=by omega
 rw[acs];simp only[s,t,ob,r,em,d.nth m,ap2];refine⟨_,?_,d.set (w:=min (h c) (h y)) m (by omega) (c':=jn h c y) λx A=>?_⟩
 ·congr 2
  by_cases q:h c=h y
  ·simp[q]
  ·have:¬((h c:Nat):Int)=((h y:Nat):Int):=by omega
   simp[q,this]
 ·have u:par f (max (h c) (h y))=max (h c) (h y):=by
   rcases as7 (h c) (h y)with k|k
   ·rw[aul k];exact l
   ·rw[aum k];exact j
  have v:par f (min (h c) (h y))=min (h c) (h y):=by
   rcases as7 (h c) (h y)with k|k
   ·rw[aq_ k];exact j
   ·rw[as8 k];exact l
  rw[Yt e v u (by omega),d.cls x A];rfl
def EI(N:Nat){n:Nat}(e:n<=1000):∀(m i:Nat) (s:aX),n - i<m->i<=n->s.length=n->(∀j,j<i->s[j]? =some (j:Int))->
 ∃a,x8 N m ((n:Int),(i:Int),s)=some a/\a.length=n/\∀j,j<n->a[j]? =some (j:Int)
 |0,i,s,h,_,_,_=>absurd h (by omega)
 |m+1,i,s,l,g,b,c=>by
  rw[QC,cd];by_cases q:i<n
  ·rw[apR (by omega)]
   obtain⟨x,f⟩:=get_at (xs:=s) (i:=i) (by omega);simp only[bd f,ob,cE (show i<9223372036854775807 by omega),ap2];refine EI N e m (i+1) _ (by omega) (by omega) (by rw[ard];exact b) λj d=>?_;rw[aqS];by_cases k:i=j
   ·subst k;rw[apR rfl,apR (by omega)]
   ·rw[apQ k];exact c j (by omega)
  ·rw[apQ (by omega)]
   exact⟨s,rfl,b,λj d=>c j (by omega)⟩
def N6{N:Nat}(d:Fu+1<=N){n:Nat}(f:n<=1000):∃s,Ep N (n:Int)=some s/\HB n s id:=by
 obtain⟨N,rfl⟩:∃M,N=M+1:=⟨N - 1,by omega⟩;rw[X8,mj (by omega) (by omega) (by omega),ob];simp only[ap2,as1];obtain⟨s,b,c,a⟩:=EI N f N 0 (List.replicate n 0) (by rw[bQ]at d;omega) (by omega) (by simp) (λj l=>by omega);refine⟨s,?_,c,λi e=>⟨i,a i e,apT _⟩,λx k=>?_⟩
 ·rw[show((0:Nat):Int)=0 from rfl]at b
  rw[b];rfl
 ·have g:∀v,par s v<=v:=λv=>by
   unfold par;by_cases h:v<n
   ·simp[ari,a v h]
   ·rw[ari,aqE (by omega)];simp
  refine kq g ?_;unfold par;simp[ari,a x k]
def VI(e:Nat×Nat):Int×Int:=((e.1:Int),(e.2:Int))
def se(e:Int×Int):Nat×Nat:=(e.1.toNat,e.2.toNat)
def lM(n:Int)(e:Int×Int):Prop:=(0<=e.1/\e.1<n)/\0<=e.2/\e.2<n
instance(n:Int)(e:Int×Int):Decidable (lM n e):=inferInstanceAs (Decidable (_/\_))
def ahL(h:lM d t):VI (se t)=t:=by
 obtain⟨a,b⟩:=t;have c:=h.1.1;have e:=h.2.1;simp only at c e;exact asZ (ath c) (ath e)
def lM.nat(h:lM (n:Int) t):(se t).1<n/\(se t).2<n:=by
 have a:=h.1;have b:=h.2;exact⟨by unfold se;omega,by unfold se;omega⟩
def EJ(N:Nat)(d:Fu+2<=N){n:Nat}(e:n<=1000){l:bH}(t:l.length<=100000)(c:JC n l):∀(m i:Nat) (s:aX) (a:bq),l.length - i<m->i<=l.length->a.length=i->HB n s (FH (l.take i))->
 ∃k,Cq N m (l.map VI,(l.length:Int),(i:Int),s,a)=some (a++jl (l.take i) (l.drop i),k)/\HB n k (FH l)
 |0,i,s,a,h,_,_,_=>absurd h (by omega)
 |m+1,i,s,a,B,A,u,f=>by
  rw[X_,cd];by_cases q:i<l.length
  ·rw[apR (by omega)]
   obtain⟨x,b⟩:=get_at (xs:=l) (i:=i) q;have g:=c x (ap_ b);have v:(l.map VI)[i]? =some (VI x):=by rw[aqd,b];rfl
   obtain⟨y,p,j⟩:=join_eq d e g.1 g.2 f;have o:jn (FH (l.take i)) x.1 x.2=FH (l.take (i+1)):=by rw[cP b,N5]
   rw[o]at j;rw[bd v,ob];simp only[VI,p,ob];rw[cO (by omega) (by simp;omega),ob,cE (by omega)];obtain⟨z,r,w⟩:=EJ N d e t c m (i+1) y (a++[FH (l.take i) x.1 !=FH (l.take i) x.2]) (by omega) (by omega) (by simp[u]) j;refine⟨z,?_,w⟩;rw[r,de b,jl,cP b];simp[adi]
  ·rw[apQ (by omega)]
   refine⟨s,?_,?_⟩
   ·rw[aqP (by omega)];simp[jl]
   ·rwa[aqt (by omega)]at f
def N7{N:Nat}(f:Fu+4<=N){n:Nat}(h:n<=1000){l:bH}(g:l.length<=100000)(e:JC n l)(i:HB n b id):
 ∃a,Ny N (l.map VI,b)=some (jl [] l,a)/\HB n a (FH l):=by
 obtain⟨M,rfl⟩:∃M,N=M+2:=⟨N - 2,by omega⟩;obtain⟨a,c,d⟩:=EJ M (by omega) h g e M 0 b [] (by rw[bQ]at f;omega) (by omega) rfl i;refine⟨a,?_,d⟩;rw[acw,acv,ap1,show(0:Int)=((0:Nat):Int)from rfl,c];rfl
def EK(N:Nat)(n:Int)(l:bh)(p:l.length<=9223372036854775807):∀(m i:Nat),l.length - i<m->i<=l.length->
 x6 N m (n,l,(l.length:Int),(i:Int))=some (if∀e∈l.drop i,lM n e then .inl ()else .inr 10)
 |0,i,h,_=>absurd h (by omega)
 |m+1,i,s,r=>by
  rw[QB,cd];by_cases q:i<l.length
  ·rw[apR (by omega)]
   obtain⟨x,g⟩:=get_at (xs:=l) (i:=i) q;obtain⟨a,b⟩:=x;rw[bd g,ob,de g,cd,cd,cE (by omega),EK N n l p m (i+1) (by omega) (by omega)];simp only;by_cases c:lM n (a,b)
   ·have k:=c.1
    have o:=c.2;simp only at k o;rw[apQ (by split<;>omega),apQ (by split<;>omega)];by_cases d:∀e∈l.drop (i+1),lM n e
    ·rw[apR d,apR (as9.2 ⟨c,d⟩)]
    ·rw[apQ d,apQ (λh=>d (as9.1 h).2)]
   ·have:¬((0<=a/\a<n)/\0<=b/\b<n):=c
    rw[apQ (λh=>c (as9.1 h).1)];by_cases f:(if b<a then b else a)<0
    ·rw[apR f]
    ·rw[apQ f]
     by_cases j:n<=(if b>a then b else a)
     ·rw[apR j]
     ·exfalso
      refine this ?_;split at f<;>split at j<;>omega
  ·rw[apQ (by omega),aqP (by omega),apR (by simp)]
def tV(n:Int)(l:bh):Int:=if n<1\/64<n then 1 else if∀e∈l,lM n e then 0 else 10
def N8(g:Fu+1<=a)(n:Int)(l:bh)(h:l.length<=9223372036854775807):Em a (n,l)=some (tV n l):=by
 obtain⟨M,rfl⟩:∃M,a=M+1:=⟨a - 1,by omega⟩;have f:=EK M n l h M 0 (by rw[bQ]at g;omega) (by omega);rw[X5,cd,cd,show(0:Int)=((0:Nat):Int)from rfl,f,ob,aqG];unfold tV;by_cases c:n<1
 ·rw[apR c,apR (.inl c)]
 ·rw[apQ c]
  by_cases d:64<n
  ·rw[apR d,apR (.inr d)]
  ·rw[apQ d,apQ (show¬(n<1\/64<n) by omega)]
   by_cases b:∀e∈l,lM n e
   ·rw[apR b,apR b];rfl
   ·rw[apQ b,apQ b]
def Yu(a:∀v,h v<=v)(v x:Nat):root (cK h v (root h v)) x=root h x:=by
 have f:∀y,cK h v (root h v) y<=y:=λy=>by
  unfold cK;split
  ·rename_i c;subst c;exact yx a _
  ·exact a y
 induction x using Nat.strongRecOn with
 |_ x b=>
  rw[gU f x];by_cases c:x=v
  ·subst c
   have e:cK h x (root h x) x=root h x:=apR rfl;rw[e];split
   ·rename_i c;exact c.symm
   ·rename_i c
    have d:=yx a x;rw[b _ (by omega),kq a (yw a x)]
  ·have e:cK h v (root h v) x=h x:=apQ c
   rw[e,gU a x];split
   ·rfl
   ·have d:=a x
    exact b _ (by omega)
def yy(N:Nat)(f:Fu+1<=N){n:Nat}(l:n<=1000){c:Nat->Nat}:∀(m i:Nat) (s:aX),n - i<m->i<=n->HB n s c->(∀j,j<i->par s j=c j)->
 Cv N m ((n:Int),(i:Int),s)=some ((List.range n).map λv=>((c v:Nat):Int))
 |0,i,s,h,_,_,_=>absurd h (by omega)
 |m+1,i,s,B,z,d,g=>by
  rw[Ye,cd];by_cases q:i<n
  ·rw[apR (by omega)]
   obtain⟨p,b,a,t⟩:=EH f l q d;rw[b,ob];simp only[a.nth q,ob,ap2];rw[cE (by omega)];have o:=a.QO;have u:c i<=i:=by rw[<-a.cls i q];exact yx o i
   have r:par (p.set i ((c i:Nat):Int))=cK (par p) i (c i):=JD (by rw[a.len];exact q);refine yy N f l m (i+1) _ (by omega) (by omega) (a.set q u λx y=>?_) λj A=>?_
   ·rw[<-a.cls i q,Yu o,a.cls x y]
   ·rw[r]
    unfold cK;split
    ·rename_i e;rw[e]
    ·exact t j (by omega) (g j (by omega))
  ·rw[apQ (by omega)]
   congr 1;refine arC λj=>?_;rw[aqd];by_cases k:j<n
   ·obtain⟨w,b,_⟩:=d.at_ j k
    have:=g j (by omega);unfold par at this;rw[ari,b]at this;simp at this;rw[b,as2 k,this];rfl
   ·rw[aqE (by have:=d.len;omega),aqE (by simp;omega)]
    rfl
def agn(n:Int)(l:bh):aX:=(List.range n.toNat).map λv=>((FH (l.map se) v:Nat):Int)
def VJ(h:∀e∈m,lM d e):m=(m.map se).map VI:=by
 rw[aq4];exact(arJ m).symm.trans (aqJ λe a=>(ahL (h e a)).symm)
def yz{n:Int}(a:0<=n)(h:∀e∈m,lM n e):JC n.toNat (m.map se):=λe b=>by
 obtain⟨x,c,rfl⟩:=ap4.1 b;have:=h x c;have e0:((n.toNat:Nat):Int)=n:=ath a;exact lM.nat (by rw[e0];exact this)
def vA(n:Int)(l:bh):(tV n l=1/\(n<1\/64<n))\/(tV n l=10/\(1<=n/\n<=64)/\¬∀e∈l,lM n e)\/(tV n l=0/\(1<=n/\n<=64)/\∀e∈l,lM n e):=by
 unfold tV;by_cases b:n<1\/64<n
 ·exact .inl ⟨apR b,b⟩
 ·rw[apQ b]
  by_cases a:∀e∈l,lM n e
  ·exact .inr (.inr ⟨apR a,by omega,a⟩)
  ·exact .inr (.inl ⟨apQ a,by omega,a⟩)
def QP(g:Fu+5<=a)(n:Int)(l:bh)(i:l.length<=100000):Vu a (n,l)=some (tV n l,if tV n l=0 then agn n l else []):=by
 obtain⟨M,rfl⟩:∃M,a=M+1:=⟨a - 1,by omega⟩;rw[acP,N8 (by omega) n l (by omega),ob,FX];rcases vA n l with⟨h,_⟩|⟨h,_⟩|⟨h,o,d⟩
 ·rw[h];rfl
 ·rw[h];rfl
 ·rw[h,apR rfl,apR rfl]
  obtain⟨k,rfl⟩:∃k:Nat,n=k:=⟨n.toNat,by omega⟩;obtain⟨q,e,f⟩:=N6 (N:=M) (by omega) (n:=k) (by omega);obtain⟨m,b,c⟩:=N7 (N:=M) (by omega) (n:=k) (by omega) (l:=l.map se) (by simpa using i) (yz (by omega) d) f;rw[<-VJ d]at b;rw[e,ob,b,ob];simp only[c.len];rw[show(0:Int)=((0:Nat):Int)from rfl,yy M (by omega) (by omega) M 0 m (by rw[bQ]at g;omega) (by omega) c (λj p=>by omega)];rfl
abbrev Tk:=Nat×Nat
def jV:aZ->Tk->Option aZ
 |[],_=>none
 |[u],t=>if t.1=u then(if t.2=u then some [u]else some [t.2,u])else none
 |u::w::r,t=>if t.1=u then(if t.2=u then some (u::w::r)else if t.2=w then some (w::r)else some (t.2::u::w::r))else none
def run:aZ->List Tk->Option aZ
 |s,[]=>some s
 |s,t::l=>match jV s t with
  |some z=>run z l
  |none=>none
def eL{t:Tk}{l:List Tk}:run s (t::l)=some j↔∃y,jV s t=some y/\run y l=some j:=by
 rw[run];cases h:jV s t with
 |none=>simp
 |some y=>simp
def ks:∀{l m:List Tk} {s z:aZ},run s (l++m)=some z↔∃y,run s l=some y/\run y m=some z
 |[],m,s,z=>by simp[run]
 |t::l,m,s,z=>by
  rw[aq6,eL];constructor
  ·rintro⟨y,a,b⟩
   obtain⟨x,c,d⟩:=ks.1 b;exact⟨x,eL.2 ⟨y,a,c⟩,d⟩
  ·rintro⟨x,c,d⟩
   obtain⟨y,a,b⟩:=eL.1 c;exact⟨y,a,ks.2 ⟨x,b,d⟩⟩
def il{t:Tk}(h:jV s t=some j):∃r,s=t.1::r/\((t.2=t.1/\j=s)\/(t.2≠t.1/\∃d,r=t.2::d/\j=r)\/(t.2≠t.1/\r.head?≠some t.2/\j=t.2::s)):=by
 match s with
 |[]=>simp[jV]at h
 |[u]=>
  simp only[jV]at h;split at h
  ·rename_i b
   subst b;refine⟨[],rfl,?_⟩;split at h
   ·rename_i a;cases h;exact .inl ⟨a,rfl⟩
   ·rename_i a;cases h;exact .inr (.inr ⟨a,by simp,rfl⟩)
  ·cases h
 |u::w::r=>
  simp only[jV]at h;split at h
  ·rename_i b
   subst b;refine⟨w::r,rfl,?_⟩;split at h
   ·rename_i a;cases h;exact .inl ⟨a,rfl⟩
   ·rename_i a
    split at h
    ·rename_i c;cases h;exact .inr (.inl ⟨a,r,by rw[c],rfl⟩)
    ·rename_i c;cases h;exact .inr (.inr ⟨a,by simpa usingλe=>c e.symm,rfl⟩)
  ·cases h
def kV(u:Nat)(r:aZ):jV (u::r) (u,u)=some (u::r):=by
 cases r<;>simp[jV]
def pS(h:c≠a)(r:aZ):jV (a::c::r) (a,c)=some (c::r):=by
 simp[jV,h]
def kW(h:c≠a)(b:j.head?≠some c):jV (a::j) (a,c)=some (c::a::j):=by
 cases j with
 |nil=>simp[jV,h]
 |cons w j=>simp[jV,h,show¬c=w fromλe=>b (by rw[e];rfl)]
def VK:∀{l:List Tk} {s z:aZ} {t:Tk},run s (l++[t])=some z->∃r,z=t.2::r:=by
 intro l s z t h;obtain⟨y,j,c⟩:=ks.1 h;obtain⟨x,d,a⟩:=eL.1 c;obtain⟨r,f,g⟩:=il d;have a:x=z:=by simpa[run]using a
 subst a;rcases g with⟨e,rfl⟩|⟨e,i,b,rfl⟩|⟨e,b,rfl⟩
 ·exact⟨r,by rw[e,f]⟩
 ·exact⟨i,b⟩
 ·exact⟨_,rfl⟩
def mn{t:Tk}{l:List Tk}(h:run s (t::l)=some j):s.head?=some t.1:=by
 obtain⟨y,a,c⟩:=eL.1 h;obtain⟨r,b,_⟩:=il a;rw[b];rfl
def Rb(u v:Nat)(s b:aZ):Prop:=(∃a,s=a++[v,u]/\b=a++[v])\/∃a,s=a++[u]/\b=a++[u,v]/\a.getLast?≠some v
def ajJ{t:Tk}(h:Rb a c s j)(D:jV s t=some k):∃C,jV j t=some C/\Rb a c k C:=by
 obtain⟨E,f⟩:=t;obtain⟨r,i,p⟩:=il D;simp only at i p;rcases h with⟨d,m,n⟩|⟨d,m,n,B⟩
 ·cases d with
  |nil=>
   simp only[aqC]at m n;subst m;subst n;simp only[aqX]at i;obtain⟨rfl,rfl⟩:=i;rcases p with⟨rfl,rfl⟩|⟨g,A,l,rfl⟩|⟨g,v,rfl⟩
   ·exact⟨[f],kV _ _,.inl ⟨[],rfl,rfl⟩⟩
   ·simp only[aqX]at l
    obtain⟨rfl,rfl⟩:=l;exact⟨[a,c],kW g (by simp),.inr ⟨[],rfl,rfl,by simp⟩⟩
   ·exact⟨[f,c],kW g (by simp),.inl ⟨[f],rfl,rfl⟩⟩
  |cons x b=>
   subst m;subst n;simp only[aq6,aqX]at i;obtain⟨rfl,rfl⟩:=i;have v:∀y,(b++[c,a]).head?=some y->(b++[c]).head?=some y:=λy h=>by cases b<;>simpa using h
   have w:∀y,(b++[c]).head?=some y->(b++[c,a]).head?=some y:=λy h=>by cases b<;>simpa using h
   rcases p with⟨rfl,rfl⟩|⟨g,A,l,rfl⟩|⟨g,o,rfl⟩
   ·exact⟨_,kV _ _,.inl ⟨f::b,rfl,rfl⟩⟩
   ·have:(b++[c]).head?=some f:=v _ (by rw[l];rfl)
    obtain⟨q,o⟩:∃q,b++[c]=f::q:=by
     cases u:b++[c]with
     |nil=>simp at u
     |cons y q=>rw[u]at this;simp at this;exact⟨q,by rw[this]⟩
    refine⟨b++[c],?_,.inl ⟨b,rfl,rfl⟩⟩;rw[aq6,o];exact pS g _
   ·refine⟨f::x::b++[c],kW g λh=>o (w _ h),.inl ⟨f::x::b,rfl,rfl⟩⟩
 ·cases d with
  |nil=>
   simp only[aqC]at m n;subst m;subst n;simp only[aqX]at i;obtain⟨rfl,rfl⟩:=i;rcases p with⟨rfl,rfl⟩|⟨g,A,l,rfl⟩|⟨g,v,rfl⟩
   ·exact⟨[f,c],kV _ _,.inr ⟨[],rfl,rfl,by simp⟩⟩
   ·cases l
   ·by_cases z:f=c
    ·subst z
     exact⟨[f],pS g _,.inl ⟨[],rfl,rfl⟩⟩
    ·exact⟨[f,a,c],kW g (by simpa usingλe:c=f=>z e.symm),.inr ⟨[f],rfl,rfl,by simpa using z⟩⟩
  |cons x b=>
   subst m;subst n;simp only[aq6,aqX]at i;obtain⟨rfl,rfl⟩:=i;have v:∀y,(b++[a]).head?=some y->(b++[a,c]).head?=some y:=λy h=>by cases b<;>simpa using h
   have w:∀y,(b++[a,c]).head?=some y->(b++[a]).head?=some y:=λy h=>by cases b<;>simpa using h
   rcases p with⟨rfl,rfl⟩|⟨g,A,l,rfl⟩|⟨g,o,rfl⟩
   ·exact⟨_,kV _ _,.inr ⟨f::b,rfl,rfl,B⟩⟩
   ·have:(b++[a,c]).head?=some f:=v _ (by rw[l];rfl)
    obtain⟨q,o⟩:∃q,b++[a,c]=f::q:=by
     cases u:b++[a,c]with
     |nil=>simp at u
     |cons y q=>rw[u]at this;simp at this;exact⟨q,by rw[this]⟩
    refine⟨b++[a,c],?_,.inr ⟨b,rfl,rfl,?_⟩⟩
    ·rw[aq6,o]
     exact pS g _
    ·cases b with
     |nil=>simp
     |cons y b=>rwa[atv]at B
   ·refine⟨f::x::b++[a,c],kW g λh=>o (w _ h),.inr ⟨f::x::b,rfl,rfl,by rwa[atv]⟩⟩
def adj{u v:Nat}:∀{l:List Tk} {s s' z:aZ},Rb u v s s'->run s l=some z->∃a,run s' l=some a/\Rb u v z a
 |[],s,s',z,h,b=>⟨s',rfl,by have:s=z:=by simpa[run]using b
                            exact this▸h⟩
 |t::l,s,s',z,h,b=>by
  obtain⟨y,c,d⟩:=eL.1 b;obtain⟨j,e,f⟩:=ajJ h c;obtain⟨a,g,i⟩:=adj f d;exact⟨a,eL.2 ⟨j,e,g⟩,i⟩
def Clo(l:List Tk)(r:Nat):Prop:=run [r] l=some [r]
def adl{t:Tk}{l:List Tk}(h:Clo (t::l) a):t.1=a/\Clo (l++[t]) t.2:=by
 obtain⟨f,c⟩:=t;have m:f=a:=by have:=mn h;simpa using this.symm
 subst m;refine⟨rfl,?_⟩;obtain⟨y,n,g⟩:=eL.1 h;obtain⟨q,i,j⟩:=il n;simp only[aqX,true_and]at i j;subst i;rcases j with⟨rfl,rfl⟩|⟨k,B,r,rfl⟩|⟨k,A,rfl⟩
 ·exact ks.2 ⟨_,g,by simp[run,jV]⟩
 ·cases r
 ·obtain⟨w,o,p⟩:=adj (u:=f) (v:=c) (s:=[c,f]) (s':=[c]) (.inl ⟨[],rfl,rfl⟩) g
  refine ks.2 ⟨w,o,?_⟩;rcases p with⟨b,d,e⟩|⟨b,d,e,z⟩
  ·have:=ap5 List.length d
   simp at this
  ·cases b with
   |nil=>
    simp only[aqC]at e;subst e;refine eL.2 ⟨[c],pS k _,rfl⟩
   |cons x b=>
    have:=ap5 List.length d;simp at this
def VL:∀{a b:List Tk} {r:Nat},Clo (a++b) r->∃c,Clo (b++a) c
 |[],b,r,h=>⟨r,by simpa using h⟩
 |t::a,b,r,h=>by
  obtain⟨f,d⟩:=adl (by simpa using h:Clo (t::(a++b)) r);rw[aqm]at d;obtain⟨c,e⟩:=VL d;exact⟨c,by simpa using e⟩
def JE:aZ->List Tk->aZ
 |_,[]=>[]
 |s,t::l=>match jV s t with
  |some z=>if s.length<z.length then t.2::JE z l else JE z l
  |none=>[]
def si(l:List Tk):Nat:=(l.filter λt=>t.1 !=t.2).length
def eV(l:List Tk):aZ:=(l.filter λt=>t.1==t.2).map (·.1)
def N9{t:Tk}{l:List Tk}(h:jV s t=some j):JE s (t::l)=if s.length<j.length then t.2::JE j l else JE j l:=by
 rw[JE,h]
def tA(t:Tk)(l:List Tk):si (t::l)=(if t.1=t.2 then 0 else 1)+si l:=by
 unfold si;by_cases h:t.1=t.2
 ·simp[ar1,h]
 ·simp[ar1,h];omega
def N_(l m:List Tk):si (l++m)=si l+si m:=by simp[si]
def JF:∀{l:List Tk} {s z:aZ},run s l=some z->2*(JE s l).length+s.length=si l+z.length
 |[],s,z,h=>by
  have:s=z:=by simpa[run]using h
  subst this;simp[JE,si]
 |t::l,s,z,h=>by
  obtain⟨y,b,d⟩:=eL.1 h;have g:=JF d;obtain⟨r,c,f⟩:=il b;rw[N9 b,tA];rcases f with⟨e,rfl⟩|⟨a,k,j,rfl⟩|⟨a,i,rfl⟩
  ·rw[apQ (aun _),apR e.symm];omega
  ·rw[apQ (by rw[c];simp),apQ (λe=>a e.symm)]
   have:s.length=y.length+1:=by rw[c];rfl
   omega
  ·rw[apR (by simp),apQ (λe=>a e.symm)]
   simp at g⊢;omega
def JG:∀{l:List Tk} {s z:aZ},run s l=some z->∀t∈l,t.1∈s\/t.1∈JE s l
 |[],s,z,h,t,b=>by cases b
 |x::l,s,z,h,t,b=>by
  obtain⟨y,d,f⟩:=eL.1 h;obtain⟨r,c,g⟩:=il d;rw[N9 d];rcases aqj.1 b with rfl|b
  ·exact .inl (by rw[c];simp)
  ·have a:=JG f t b
   rcases g with⟨e,rfl⟩|⟨i,m,k,rfl⟩|⟨i,j,rfl⟩
   ·rw[apQ (aun _)];exact a
   ·rw[apQ (by rw[c];simp)]
    rcases a with a|a
    ·exact .inl (by rw[c];exact aqU _ a)
    ·exact .inr a
   ·rw[apR (by simp)]
    rcases a with a|a
    ·rcases aqj.1 a with a|a
     ·exact .inr (by rw[a];simp)
     ·exact .inl a
    ·exact .inr (aqU _ a)
def m_{α:Type} [BEq α] [LawfulBEq α]:∀{A B:List α},A.Nodup->(∀x∈A,x∈B)->B.length<=A.length->B.Perm A
 |[],B,_,_,b=>by
  have:B=[]:=aqT (by simpa using b);subst this;exact atw _
 |a::A,B,j,f,b=>by
  have h:a∈B:=f a (by simp);have c:=auV h;have d:=aq2.1 j;have i:=c.length_eq;have l:(B.erase a).Perm A:=m_ d.2 (λx g=>by
   have k:=f x (by simp[g]);have:=c.mem_iff.1 k;rcases aqj.1 this with e|e
   ·exact absurd (e▸g) d.1
   ·exact e) (by simp at b i;omega)
  exact c.trans (l.cons a)
def tB{l:List Tk}:a∈eV l↔(a,a)∈l:=by
 unfold eV;simp only[ap4,arN,asH];constructor
 ·rintro⟨⟨c,b⟩,⟨f,d⟩,e⟩
  simp only at d e;subst d;subst e;exact f
 ·exactλh=>⟨(a,a),⟨h,rfl⟩,rfl⟩
def iT(t:Tk)(l:List Tk):eV (t::l)=if t.1=t.2 then t.1::eV l else eV l:=by
 unfold eV;by_cases h:t.1=t.2
 ·simp[ar1,h]
 ·simp[ar1,h]
def JH(l m:List Tk):eV (l++m)=eV l++eV m:=by simp[eV]
def kX:∀{l:List Tk},l.Nodup->(eV l).Nodup
 |[],_=>by simp[eV]
 |t::l,h=>by
  have c:=aq2.1 h;rw[iT];split
  ·rename_i e
   refine aq2.2 ⟨λd=>c.1 ?_,kX c.2⟩;have:=tB.1 d;obtain⟨a,b⟩:=t;simp only at e this;rw[e]at this;rw[e];exact this
  ·exact kX c.2
structure BH(l:List Tk):Prop where
 nod:l.Nodup
 FH:∃r,Clo l r
 own:∀t∈l,(t.1,t.1)∈l
 num:si l+2=2*(eV l).length
def BH.perm{l m:List Tk}(h:BH l)(a:l.Perm m)(c:∃r,Clo m r):BH m:=by
 have e:(eV l).length=(eV m).length:=((a.filter _).map _).length_eq;have b:si l=si m:=(a.filter _).length_eq;exact⟨a.nodup_iff.1 h.nod,c,λt d=>a.mem_iff.1 (h.own t (a.mem_iff.2 d)),by rw[<-b,<-e];exact h.num⟩
def BH.BG{a b:List Tk}(h:BH (a++b)):BH (b++a):=by
 obtain⟨r,c⟩:=h.FH;exact h.perm as6 (VL c)
def BH.ne{l:List Tk}(h:BH l):l≠[]:=λe=>by
 have:=h.num;subst e;simp[si,eV]at this
def BH.amD{l:List Tk}(h:BH l)(c:Clo l a):(a::JE [a] l).Perm (eV l):=by
 have d:=JF c;have:=h.num;refine m_ (kX h.nod) (λx b=>?_) (by simp at d⊢;omega);have b:=tB.1 b;rcases JG c _ b with e|e
 ·simp at e;simp[e]
 ·exact aqU _ e
def BH.once{l:List Tk}(h:BH l)(b:Clo l a):(a::JE [a] l).Nodup:=(h.amD b).nodup_iff.2 (kX h.nod)
def EL{l:List Tk}(c:l.Nodup):(run [a] l=some [a]/\(a::JE [a] l).Nodup/\(eV l).length=(JE [a] l).length+1)↔(BH l/\Clo l a):=by
 constructor
 ·rintro⟨b,j,d⟩
  have f:(a::JE [a] l).Perm (eV l):=m_ (kX c) (λx i=>by
   rcases JG b _ (tB.1 i)with e|e
   ·simp at e;simp[e]
   ·exact aqU _ e) (by simp[d])
  refine⟨⟨c,⟨a,b⟩,λt g=>?_,?_⟩,b⟩
  ·refine tB.1 (f.mem_iff.1 ?_)
   rcases JG b _ g with e|e
   ·simp at e;simp[e]
   ·exact aqU _ e
  ·have:=JF b
   simp at this;omega
 ·rintro⟨h,b⟩
  exact⟨b,h.once b,by have:=(h.amD b).length_eq;simpa using this.symm⟩
def BH.ajL{l:List Tk}(h:BH l){t:Tk}(o:t∈l):(t.2,t.2)∈l:=by
 obtain⟨a,b,rfl⟩:=List.append_of_mem o;have i:BH (t::b++a):=h.BG;have g:BH ((b++a)++[t]):=by
  have:=(show BH ([t]++(b++a))from by simpa using i).BG;exact this
 obtain⟨r,d⟩:=g.FH;obtain⟨q,e⟩:=VK d;have n:r=t.2:=(auo e).1;subst n;have j:∃x m,(b++a)++[t]=x::m:=by
  cases k:(b++a)++[t]with
  |nil=>simp at k
  |cons x m=>exact⟨x,m,rfl⟩
 obtain⟨x,m,f⟩:=j;rw[f]at d;have p:x.1=t.2:=by have:=mn d;simpa using this.symm
 have c:=g.own x (by rw[f];simp);rw[p]at c;simp only[ap3,aqj,List.not_mem_nil,or_false]at c⊢;rcases c with(c|c)|c
 ·exact .inr (.inr c)
 ·exact .inl c
 ·exact .inr (.inl c)
def adm{t:Tk}{w:Nat}(d:t.2≠w)(h:jV s t=some j):jV (s++w::k) t=some (j++w::k):=by
 obtain⟨l,m⟩:=t;obtain⟨r,b,c⟩:=il h;simp only at b c d;subst b;rcases c with⟨rfl,rfl⟩|⟨a,i,g,rfl⟩|⟨a,f,rfl⟩
 ·exact kV _ _
 ·subst g
  exact pS a _
 ·refine kW a ?_
  cases r with
  |nil=>simpa usingλe=>d e.symm
  |cons x r=>simpa using f
def run_lift{b:aZ}{w:Nat}:∀{l:List Tk} {s z:aZ},(∀t∈l,t.2≠w)->run s l=some z->run (s++w::b) l=some (z++w::b)
 |[],s,z,_,h=>by
  have:s=z:=by simpa[run]using h
  subst this;rfl
 |t::l,s,z,a,h=>by
  obtain⟨y,c,d⟩:=eL.1 h;exact eL.2 ⟨_,adm (a t (by simp)) c,run_lift (λx e=>a x (by simp[e])) d⟩
def BH.link{d b:List Tk}(i:BH ((a,a)::d))(g:BH ((c,c)::b))(j:∀x,(x,x)∈(a,a)::d->(x,x)∉(c,c)::b):BH ((a,a)::(a,c)::((c,c)::b++(c,a)::d)):=by
 have k:a≠c:=λe=>by subst e;exact j a (by simp) (by simp)
 obtain⟨r,p⟩:=i.FH;have:r=a:=by have:=mn p;simpa using this
 subst this;obtain⟨f,q⟩:=g.FH;have:f=c:=by have:=mn q;simpa using this
 subst this;have w:∀t∈(f,f)::b,t.2≠r:=λt o e=>j r (by simp) (by have:=g.ajL o;rwa[e]at this);have v:∀t,t∈(r,r)::d->t∉(f,f)::b:=λt l n=>j _ (i.own t l) (g.own t n);have B:(r,f)∉(r,r)::d:=λh=>j _ (i.ajL h) (by simp);have E:(f,r)∉(r,r)::d:=λh=>j _ (i.own _ h) (by simp);have C:(r,f)∉(f,f)::b:=λh=>j _ (by simp) (g.own _ h);have F:(f,r)∉(f,f)::b:=λh=>j _ (by simp) (g.ajL h);have m:((r,r)::(r,f)::((f,f)::b++(f,r)::d)).Perm ((r,f)::(f,r)::((r,r)::d++(f,f)::b)):=by
  refine(List.Perm.swap (r,f) (r,r) _).trans (List.Perm.cons _ ?_);have l:((f,f)::b++(f,r)::d).Perm ((f,r)::(d++(f,f)::b)):=by
   have:= @as6 _ ((f,f)::b) ((f,r)::d);simpa using this
  exact(l.cons (r,r)).trans (List.Perm.swap _ _ _)
 have A:((r,f)::(f,r)::((r,r)::d++(f,f)::b)).Nodup:=by
  refine aq2.2 ⟨λh=>?_,aq2.2 ⟨λh=>?_,aqL.2 ⟨i.nod,g.nod,λx G y H e=>v x G (e▸H)⟩⟩⟩
  ·rcases aqj.1 h with h|h
   ·simp at h;exact k h.1
   ·rcases ap3.1 h with h|h
    ·exact B h
    ·exact C h
  ·rcases ap3.1 h with h|h
   ·exact E h
   ·exact F h
 refine⟨m.nodup_iff.2 A,⟨r,?_⟩,λt o=>?_,?_⟩
 ·refine eL.2 ⟨[r],kV _ _,eL.2 ⟨[f,r],kW (λe=>k e.symm) (by simp),?_⟩⟩
  refine ks.2 ⟨[f,r],?_,eL.2 ⟨[r],pS k _,?_⟩⟩
  ·exact run_lift (s:=[f]) (z:=[f]) (b:=[]) w q
  ·obtain⟨y,l,n⟩:=eL.1 p
   obtain rfl:=apZ ((kV _ _:jV [r] (r,r)=_).symm.trans l);exact n
 ·have:=m.mem_iff.1 o
  refine m.mem_iff.2 ?_;refine aqU _ (aqU _ ?_);rcases aqj.1 this with rfl|h
  ·exact atV _ (by simp)
  rcases aqj.1 h with rfl|h
  ·exact atW _ (by simp)
  rcases ap3.1 h with h|h
  ·exact atV _ (i.own t h)
  ·exact atW _ (g.own t h)
 ·have D:(eV ((r,r)::(r,f)::((f,f)::b++(f,r)::d))).length=(eV ((r,f)::(f,r)::((r,r)::d++(f,f)::b))).length:=((m.filter _).map _).length_eq
  have u:si ((r,r)::(r,f)::((f,f)::b++(f,r)::d))=si ((r,f)::(f,r)::((r,r)::d++(f,f)::b)):=(m.filter _).length_eq;rw[D,u];have l:=i.num;have n:=g.num;rw[tA,tA,iT,iT,apQ k,apQ k,apQ (λe:f=r=>k e.symm),apQ (λe:f=r=>k e.symm),N_,JH,aqb];omega
def Oa:∀l:List Tk,si l+(eV l).length=l.length
 |[]=>rfl
 |t::l=>by
  have:=Oa l;rw[tA,iT];split<;>simp<;>omega
def BH.len{l:List Tk}(h:BH l):l.length+2=3*(eV l).length:=by
 have:=h.num;have:=Oa l;omega
def dk(n:Nat)(t:Int):Option Tk:=
 if 0<=t/\t<n then some (t.toNat,t.toNat)
 else if(n:Int)<=t/\t.toNat<n*(n+1)then(if t.toNat/n - 1=t.toNat % n then none else some (t.toNat/n - 1,t.toNat % n))
 else none
def ek(n:Nat)(e:Tk):Int:=if e.1=e.2 then(e.1:Int)else((n*(e.1+1)+e.2:Nat):Int)
def yA{e:Tk}(h:dk n d=some e):ek n e=d/\e.1<n/\e.2<n:=by
 unfold dk at h;split at h
 ·rename_i c
  cases h;refine⟨?_,by omega,by omega⟩;unfold ek;rw[apR rfl];omega
 ·split at h
  ·rename_i f c
   split at h
   ·cases h
   ·rename_i b
    cases h;have a:0<n:=by
     rcases as3 n with e|e
     ·subst e;simp at c
     ·exact e
    have g:d.toNat/n<n+1:=auW c.2;have i:1<=d.toNat/n:=(atx a).2 (by omega);refine⟨?_,by simp only;omega,asb _ a⟩;unfold ek;rw[apQ b];simp only;rw[show d.toNat/n - 1+1=d.toNat/n by omega,Nat.div_add_mod];omega
  ·cases h
def adn{n:Nat}{e:Tk}(f:e.1<n)(a:e.2<n):dk n (ek n e)=some e:=by
 obtain⟨u,v⟩:=e;simp only at f a;unfold ek dk;by_cases c:u=v
 ·subst c
  simp only[aqs];rw[apR (by omega)];simp
 ·simp only[c,aqN]
  have h:n*1<=n*(u+1):=arL n (by omega);have g:n*(u+1)+v<n*(n+1):=by
   have:n*(u+1)+n<=n*(n+1):=by
    have:=arL n (show u+1+1<=n+1 by omega);rw[Nat.mul_add n (u+1) 1,arh]at this;exact this
   omega
  rw[apQ (by omega),apR ⟨by omega,by rw[ap2];exact g⟩];have b:(n*(u+1)+v)/n=u+1:=by
   rw[Nat.mul_add_div (by omega),aui a]
  have d:(n*(u+1)+v) % n=v:=by
   rw[Nat.mul_add_mod,asa a]
  rw[ap2,b,d,apQ (by omega)];simp
def ajM{e:Tk}(h:dk n d=some e)(k:dk n v=some e):d=v:=(yA h).1.symm.trans (yA k).1
def Cy(h:dk n d=some (a,a)):d=(a:Int)/\a<n:=by
 have:=yA h;unfold ek at this;simp only[aqs]at this;exact⟨this.1.symm,this.2.1⟩
def ia(h:a<n):dk n (a:Int)=some (a,a):=by
 have:=adn (e:=(a,a)) h h;unfold ek at this;simpa using this
def Oc(n:Nat)(t:Int):Int×Int×Bool×Bool:=match dk n t with
 |none=>(0,0,false,false)
 |some (u,v)=>if u=v then((u:Int),0,false,true)else((u:Int),(v:Int),true,true)
def aoF(h:n<=64):n*(n+1)<=4160:=aqM (arp h (show n+1<=65 by omega)) (by decide)
def yB(b:1<=a)(n:Int):vu a n=some (decide (1<=n/\n<=64)):=by
 obtain⟨a,rfl⟩:∃M,a=M+1:=⟨a - 1,by omega⟩;rw[Xi,cd];by_cases c:1<=n<;>simp[c]
def Od(d:2<=a)(n v:Int):nF a (n,v)=some (decide ((1<=n/\n<=64)/\0<=v/\v<n)):=by
 obtain⟨a,rfl⟩:∃M,a=M+1:=⟨a - 1,by omega⟩;rw[Xl,yB (by omega),ob];by_cases c:1<=n/\n<=64
 ·simp only[c,and_self,aq0,aqh,cd,true_and]
  by_cases b:0<=v<;>simp[b]
 ·simp[c]
def ado(m:2<=a)(h:1<=n)(f:n<=64)(t:Int):IT a ((n:Int),t)=some (Oc n t):=by
 obtain⟨a,rfl⟩:∃M,a=M+1:=⟨a - 1,by omega⟩;have p:=aoF f;have g:wrap .i64 ((n:Int)*(wrap .i64 ((n:Int)+(1:Int))))=((n*(n+1):Nat):Int):=by
  rw[gT (x:=(n:Int)+1) (by omega) (by omega),show(n:Int)*((n:Int)+1)=((n*(n+1):Nat):Int) by rw[arM,Int.natCast_add];rfl,gT (by omega) (by omega)]
 rw[Xm,yB (by omega),ob,g];rw[aqk (show(1:Int)<=(n:Int)/\(n:Int)<=64 by omega)];simp only[ap9,apW,cd];unfold Oc dk;by_cases c:t<0
 ·rw[apR c,apQ (by omega),apQ (by omega)]
 rw[apQ c];by_cases d:((n*(n+1):Nat):Int)<=t
 ·have o:n*1<=n*(n+1):=arL n (by omega)
  rw[apR d,apQ (by omega),apQ (by omega)]
 rw[apQ d];by_cases e:t<n
 ·rw[apR e,apR (by omega)]
  simp;omega
 rw[apQ e,apQ (by omega),apR (by omega)];obtain⟨k,rfl⟩:∃k:Nat,t=k:=⟨t.toNat,by omega⟩;rw[QJ (by omega),ob,Jw (by omega),ob,yr,yq,ap2];have i:k/n<n+1:=auW (by omega);have j:1<=k/n:=(atx (by omega)).2 (by omega);have l:k % n<n:=asb _ (by omega);rw[gT (x:=((k/n:Nat):Int)) (by omega) (by omega),gT (x:=((k/n:Nat):Int) - 1) (by omega) (by omega)];by_cases b:k/n - 1=k % n
 ·rw[apR (by omega),apR b]
 ·rw[apQ (by omega),apQ b]
  simp only[b,aqN];congr 2;omega
def gs:aZ->aZ->List Tk->Option (aZ×aZ)
 |s,c,[]=>some (s,c)
 |s,c,t::l=>match jV s t with
  |none=>none
  |some z=>if s.length<z.length then(if t.2∈c then none else gs z (c++[t.2]) l)else gs z c l
def JI:∀{l:List Tk} {s c z d:aZ},c.Nodup->(gs s c l=some (z,d)↔run s l=some z/\d=c++JE s l/\(c++JE s l).Nodup)
 |[],s,c,z,d,f=>by
  simp only[gs,run,JE,aqy,apU,aqa];constructor
  ·rintro⟨rfl,rfl⟩;exact⟨rfl,rfl,f⟩
  ·rintro⟨rfl,rfl,_⟩;exact⟨rfl,rfl⟩
 |t::l,s,c,z,d,f=>by
  rw[gs,run,JE];cases n:jV s t with
  |none=>simp
  |some y=>
   simp only;by_cases g:s.length<y.length
   ·rw[apR g,apR g]
    by_cases i:t.2∈c
    ·rw[apR i]
     constructor
     ·intro h;cases h
     ·rintro⟨_,_,h⟩
      exact absurd rfl ((aqL.1 h).2.2 t.2 i t.2 (by simp))
    ·rw[apQ i]
     have m:(c++[t.2]).Nodup:=aqL.2 ⟨f,by simp,λa k b j e=>i (by simp at j;rw[<-j,<-e];exact k)⟩;rw[JI m];simp only[aqm,arn]
   ·rw[apQ g,apQ g]
    exact JI f
def mo(n:Nat)(l:aX):Prop:=∃T,l.map (dk n)=T.map some/\BH T
def yC{α:Type}:∀{a b:List α},a.map some=b.map some->a=b
 |[],[],_=>rfl
 |[],_::_,h=>by simp at h
 |_::_,[],h=>by simp at h
 |x::a,y::b,h=>by
  simp only[aqc,aqX,apU]at h;rw[h.1,yC h.2]
def Bc{T S:List Tk}(h:b.map (dk n)=T.map some)(k:b.map (dk n)=S.map some):T=S:=by
 have:T.map some=S.map some:=h.symm.trans k;exact yC this
def EM{n:Nat}:∀{l:aX} {T:List Tk},l.map (dk n)=T.map some->(l.Nodup↔T.Nodup)
 |[],T,h=>by cases T<;>simp at h⊢
 |x::l,[],h=>by simp at h
 |x::l,t::T,h=>by
  simp only[aqc,aqX]at h;have e:=EM h.2;have a:x∈l↔t∈T:=by
   constructor
   ·intro c
    have:dk n x∈T.map some:=by rw[<-h.2];exact ap4.2 ⟨x,c,rfl⟩
    rw[h.1]at this;simpa using this
   ·intro b
    have:some t∈l.map (dk n):=by rw[h.2];exact ap4.2 ⟨t,b,rfl⟩
    obtain⟨y,f,d⟩:=ap4.1 this;rwa[ajM h.1 d]
  rw[aq2,aq2,e,a]
structure Cm(c:aZ)(m:bh):Prop where
 at_:∀v:Nat,(bJ (.i .i64) m (v:Int)).getD 0=if v∈c then 1 else 0
 len:m.length=c.length
 pos:∀v x,bJ (.i .i64) m v=some x->x=1
def Cm.push{c:aZ}{m:bh}(h:Cm c m){v:Nat}(i:v∉c):Cm (c++[v]) (dS (.i .i64) m (v:Int) 1):=by
 have b:=h.at_ v;rw[apQ i]at b;have g:bJ (.i .i64) m (v:Int)=none:=by
  cases d:bJ (.i .i64) m (v:Int)with
  |none=>rfl
  |some x=>
   have:=h.pos _ _ d;rw[d,this]at b;simp at b
 refine⟨λw=>?_,?_,λw x a=>?_⟩
 ·rw[pQ]
  by_cases e:v=w
  ·subst e;simp
  ·rw[apQ (by omega),h.at_ w]
   have:(w∈c++[v])↔w∈c:=by simp only[ap3,aqe];exact⟨λh=>h.resolve_right λf=>e f.symm,.inl⟩
   simp only[this]
 ·rw[yt,g,h.len];simp
 ·rw[pQ]at a
  split at a
  ·exact(apZ a).symm
  ·exact h.pos _ _ a
structure Me(ms:aZ)(m:bh):Prop where
 mem:∀v:Nat,(bJ (.i .i64) m (v:Int)).isSome=decide (v∈ms)
 len:m.length=ms.length
def Me.push{m:bh}(h:Me j m){v:Nat}(b:v∉j)(x:Int):Me (j++[v]) (dS (.i .i64) m (v:Int) x):=by
 refine⟨λw=>?_,?_⟩
 ·rw[pQ]
  by_cases e:v=w
  ·subst e;simp
  ·rw[apQ (by omega),h.mem w]
   have:(w∈j++[v])↔w∈j:=by simp only[ap3,aqe];exact⟨λh=>h.resolve_right λa=>e a.symm,.inl⟩
   simp only[this]
 ·rw[yt,h.mem v,h.len];simp[b]
def jR(s:aZ):aX:=s.reverse.map λv:Nat=>(v:Int)
def oH(s:aZ):(jR s).length=s.length:=by simp[jR]
def Oe(x:Nat)(r:aZ):(jR (x::r))[r.length]? =some (x:Int):=by
 simp[jR,aqH]
def adp(x y:Nat)(r:aZ):(jR (x::y::r))[r.length]? =some (y:Int):=by
 simp[jR,aqH]
def HD(x:Nat)(s:aZ):jR (x::s)=jR s++[(x:Int)]:=by simp[jR]
def adq(x:1<=a){d f:bh}(w:j.length<=100000)(o:c≠n)(u:Cm k d):
 S6 a ((c:Int),(n:Int),jR (y::j),d,f)=some (match jV (y::j) (c,n)with
  |none=>(false,d,f,jR (y::j))
  |some z=>if(y::j).length<z.length then(if n∈k then(false,d,f,jR (y::j))else(true,dS (.i .i64) d (n:Int) 1,f,jR z))else(true,d,f,jR z)):=by
 obtain⟨a,rfl⟩:∃M,a=M+1:=⟨a - 1,by omega⟩;have r:wrap .i64 ((((jR (y::j)).length:Nat):Int) - (1:Int))=(j.length:Int):=by
  rw[oH,aqf,gT (by omega) (by omega)];omega
 have v:=u.at_ n;rw[aaX,r];simp only[bd (Oe y j),ob,FX,cd];by_cases h:y=c
 rotate_left
 ·rw[apQ (by omega)]
  have:jV (y::j) (c,n)=none:=by
   cases j with
   |nil=>simp[jV,show¬c=y fromλe=>h e.symm]
   |cons b j=>simp[jV,show¬c=y fromλe=>h e.symm]
  rw[this]
 subst h;rw[apR rfl,v];have m:∀l:j.head?≠some n,(if(0:Int)<(if n∈k then 1 else 0)then some (false,d,f,jR (y::j))else
  aW (eN (8:Nat) (jR (y::j)) [(n:Int)]) λz=>some (true,dS (.i .i64) d (n:Int) (wrap .i64 ((if n∈k then 1 else 0)+(1:Int))),f,z))=
  some (match jV (y::j) (y,n)with
  |none=>(false,d,f,jR (y::j))
  |some z=>if(y::j).length<z.length then(if n∈k then(false,d,f,jR (y::j))else(true,dS (.i .i64) d (n:Int) 1,f,jR z))else(true,d,f,jR z)):=λl=>by
  rw[kW (λe=>o e.symm) l];have g:(y::j).length<(n::y::j).length:=by simp
  by_cases p:n∈k
  ·simp only[apR p,apR g,apR (show(0:Int)<1 by decide)]
  ·simp only[apQ p,apR g,apQ (show¬(0:Int)<0 by decide)]
   rw[cO (by omega) (by rw[oH];simp;omega),ob,HD n];rfl
 cases j with
 |nil=>
  rw[apQ (by simp)];exact m (by simp)
 |cons b j=>
  rw[apR (by simp only[aqf];omega)];have s:wrap .i64 ((((b::j).length:Nat):Int) - (1:Int))=(j.length:Int):=by
   rw[aqf,gT (by omega) (by simp at w;omega)];omega
  rw[s];simp only[bd (adp y b j),ob];by_cases q:b=n
  ·subst q
   have g:¬(y::b::j).length<(b::j).length:=by simp
   have t:jm (jR (y::b::j)) (0:Int) (((b::j).length:Nat):Int)=some (jR (b::j)):=by
    rw[r_ (by omega) (by rw[oH];simp only[aqf];omega),ap2,HD y];exact ap5 some (asE (l₁:=jR (b::j)) (l₂:=[(y:Int)]) (i:=(b::j).length) (oH _))
   rw[apR rfl,t,ob];simp only[pS (λe:b=y=>o e.symm),apQ g]
  ·rw[apQ (by omega)]
   exact m (by simpa usingλe=>q e)
def yD{t:Tk}{T:List Tk}(h:jV s t=none):gs s j (t::T)=none:=by rw[gs,h]
def EN{t:Tk}{T:List Tk}(h:jV s t=some k)(a:¬s.length<k.length):gs s j (t::T)=gs k j T:=by
 rw[gs,h];exact apQ a
def QQ{t:Tk}{T:List Tk}(h:jV s t=some k)(a:s.length<k.length)(b:t.2∈j):gs s j (t::T)=none:=by
 rw[gs,h];simp only;rw[apR a,apR b]
def Of{t:Tk}{T:List Tk}(h:jV s t=some k)(a:s.length<k.length)(b:t.2∉j):gs s j (t::T)=gs k (j++[t.2]) T:=by
 rw[gs,h];simp only;rw[apR a,apQ b]
def VM{t:Tk}(h:jV s t=some j):j.length<=s.length+1/\j≠[]:=by
 obtain⟨r,a,b⟩:=il h;rcases b with⟨_,rfl⟩|⟨_,d,c,rfl⟩|⟨_,_,rfl⟩
 ·exact⟨by omega,by rw[a];simp⟩
 ·exact⟨by rw[a];simp;omega,by rw[c];simp⟩
 ·exact⟨by simp,by simp⟩
abbrev Cz(n:Nat)(l:aX)(i:Nat)(s c e:aZ)(o:(aX×bh×bh)⊕Bool):Prop:=
 (o=.inr false/\∀T z a,(l.drop i).map (dk n)=T.map some->gs s c T≠some (z,a))\/
  ∃T z a b d,(l.drop i).map (dk n)=T.map some/\gs s c T=some (z,a)/\o=.inl (jR z,b,d)/\Cm a b/\Me (e++eV T) d
def pT{s c m q i p:aZ}{e:Tk}{o:(aX×bh×bh)⊕Bool}(l:b[a]? =some d)(j:dk n d=some e)
 (k:∀T,gs s c (e::T)=gs q i T) (A:∀T,m++eV (e::T)=p++eV T) (h:Cz n b (a+1) q i p o):Cz n b a s c m o:=by
 rcases h with⟨rfl,h⟩|⟨T,z,g,r,B,t,u,v,w,y⟩
 ·refine .inl ⟨rfl,λT z g f=>?_⟩
  rw[de l,aqc,j]at f;cases T with
  |nil=>simp at f
  |cons x T=>
   simp only[aqc,aqX,apU]at f;rw[<-f.1,k];exact h T z g f.2
 ·refine .inr ⟨e::T,z,g,r,B,?_,by rw[k];exact u,v,w,by rw[A];exact y⟩
  rw[de l,aqc,j,t];rfl
def pU{e:Tk}(i:b[a]? =some d)(f:dk n d=some e)(g:∀T,gs s j (e::T)=none):Cz n b a s j k (.inr false):=by
 refine .inl ⟨rfl,λT z l c=>?_⟩;rw[de i,aqc,f]at c;cases T with
 |nil=>simp at c
 |cons x T=>
  simp only[aqc,aqX,apU]at c;rw[<-c.1,g];intro h;cases h
def tD(N:Nat)(L:Fu+3<=N){n:Nat}(F:1<=n)(G:n<=64){l:aX}(O:l.length<=1000):∀(m i:Nat) (s c f:aZ) (j k:bh),l.length - i<m->i<=l.length->s≠[]->s.length<=i+1->Cm c j->Me f k->(f.map (λv:Nat=>(v:Int))++l.drop i).Nodup->
 ∃o,hZ N m ((n:Int),l,(l.length:Int),(i:Int),jR s,j,k)=some o/\Cz n l i s c f o
 |0,i,s,c,f,j,k,h,_,_,_,_,_,_=>absurd h (by omega)
 |m+1,i,s,c,f,j,k,hm,hi,hs,R,w,H,I=>by
  rw[Qs,cd];by_cases q:i<l.length
  rotate_left
  ·rw[apQ (by omega)]
   have d:l.drop i=[]:=aqP (by omega);exact⟨_,rfl,.inr ⟨[],s,c,j,k,by rw[d];rfl,rfl,rfl,w,by simpa[eV]using H⟩⟩
  rw[apR (by omega)];obtain⟨t,g⟩:=get_at (xs:=l) (i:=i) q;rw[bd g,ob,ado (by omega) F G,ob,cE (by omega)];obtain⟨x,r,rfl⟩:∃x r,s=x::r:=by
   cases s with
   |nil=>exact absurd rfl hs
   |cons x r=>exact⟨x,r,rfl⟩
  rw[de g]at I;cases d:dk n t with
  |none=>
   have D:Oc n t=(0,0,false,false):=by unfold Oc;rw[d]
   rw[D];refine⟨_,rfl,.inl ⟨rfl,λT z c2 M=>?_⟩⟩;rw[de g,aqc,d]at M;cases T with
   |nil=>simp at M
   |cons x T=>simp at M
  |some e=>
   obtain⟨u,v⟩:=e;by_cases J:u=v
   ·subst J
    have D:Oc n t=((u:Int),0,false,true):=by unfold Oc;rw[d];simp
    obtain⟨S,a0⟩:=Cy d;rw[D];simp only[ap9,aq5,apW,aqh];have W:wrap .i64 ((((jR (x::r)).length:Nat):Int) - (1:Int))=(r.length:Int):=by
     rw[oH,aqf,gT (by omega) (by simp only[aqf]at R;omega)];omega
    rw[W];simp only[bd (Oe x r),ob,FX];by_cases P:x=u
    ·subst P
     rw[apR rfl];have Z:x∉f:=λhx=>(aqL.1 I).2.2 (x:Int) (ap4.2 ⟨x,hx,rfl⟩) t (by simp) S.symm;obtain⟨o,A,B⟩:=tD N L F G O m (i+1) (x::r) c (f++[x]) j _ (by omega) (by omega) (by simp) (by omega) w (H.push Z _) (by
      rw[aqH,aqm];simp only[aqc,aqZ,arn];rw[<-S];exact I)
     refine⟨o,A,pT g d (λT=>EN (kV _ _) (aun _)) (λT=>?_) B⟩;rw[iT,apR rfl,aqm];rfl
    ·rw[apQ (by omega)]
     refine⟨_,rfl,pU g d λT=>yD ?_⟩;cases r with
     |nil=>simp[jV,show¬u=x fromλe=>P e.symm]
     |cons y r=>simp[jV,show¬u=x fromλe=>P e.symm]
   ·have D:Oc n t=((u:Int),(v:Int),true,true):=by unfold Oc;rw[d];simp[J]
    rw[D];simp only[ap9,aq5,apW,aqh];rw[adq (by omega) (by simp only[aqf]at R;omega) J w,ob];have Q:(f.map (λv:Nat=>(v:Int))++l.drop (i+1)).Nodup:=by
     have K:=aqL.1 I;exact aqL.2 ⟨K.1,(aq2.1 K.2.1).2,λa X b Y=>K.2.2 a X b (by simp[Y])⟩
    have U:∀T,f++eV ((u,v)::T)=f++eV T:=λT=>by rw[iT,apQ J]
    cases C:jV (x::r) (u,v)with
    |none=>exact⟨_,rfl,pU g d λT=>yD C⟩
    |some z=>
     have V:=VM C;by_cases p:(x::r).length<z.length
     ·by_cases E:v∈c
      ·simp only[apR p,apR E]
       exact⟨_,rfl,pU g d λT=>QQ C p E⟩
      ·simp only[apR p,apQ E,ap9,aq5,apW]
       obtain⟨o,A,B⟩:=tD N L F G O m (i+1) z (c++[v]) f _ k (by omega) (by omega) V.2 (by omega) (w.push E) H Q;exact⟨o,A,pT g d (λT=>Of C p E) U B⟩
     ·simp only[apQ p,ap9,aq5,apW]
      obtain⟨o,A,B⟩:=tD N L F G O m (i+1) z c f j k (by omega) (by omega) V.2 (by omega) w H Q;exact⟨o,A,pT g d (λT=>EN C p) U B⟩
def ago{N:Nat}(Z:Fu+5<=N)(U:1<=n)(V:n<=64)(hl:b.length<=1000)(K:b.Nodup)(B:b=d::o):
 ∃f,IU N ((n:Int),b)=some f/\(f=true↔(0<=d/\d<n)/\mo n b):=by
 obtain⟨N,rfl⟩:∃M,N=M+1:=⟨N - 1,by omega⟩;have a8:b[0]? =some d:=by rw[B];rfl
 have a6:ba b (0:Int)=some d:=bd (i:=0) a8;rw[Xn];simp only[a6,ob];rw[Od (by omega),ob,FX];by_cases c:0<=d/\d<n
 rotate_left
 ·rw[apQ (by omega)]
  exact⟨false,rfl,by simp[c]⟩
 rw[apR ⟨by omega,c⟩];obtain⟨u,rfl⟩:∃u:Nat,d=u:=⟨d.toNat,by omega⟩;have E:u<n:=by omega
 have a1:Cm [u] (dS (.i .i64) [] (u:Int) 1):=by
  have:=Cm.push (c:=[]) (m:=[]) ⟨λv=>by simp[bJ],rfl,λv d h=>by simp[bJ]at h⟩ (v:=u) (by simp);simpa using this
 obtain⟨g,O,a7⟩:=tD N (by omega) U V hl N 0 [u] [u] [] _ [] (by rw[bQ]at Z;omega) (by omega) (by simp) (by simp) a1 ⟨λv=>by simp[bJ],rfl⟩ (by simpa using K);have hw:jR [u]=[(u:Int)]:=rfl;rw[hw,show((0:Nat):Int)=(0:Int)from rfl]at O;rw[O,ob];rcases a7 with⟨rfl,L⟩|⟨T,z,Q,R,aa,j,hg,rfl,a3,a5⟩
 ·refine⟨false,rfl,?_⟩
  simp only[aru,asv,not_and];rintro _ ⟨T,j,k⟩;rw[aqG]at L;have q:T≠[]:=k.ne;have J:T.head?=some (u,u):=by
   rw[B]at j;cases T with
   |nil=>exact absurd rfl q
   |cons t T=>
    simp only[aqc,aqX,ia E,apU]at j;rw[<-j.1];rfl
  obtain⟨r,p⟩:=k.FH;have A:r=u:=by
   cases T with
   |nil=>exact absurd rfl q
   |cons t T=>
    have:=mn p;simp at J this;rw[J]at this;exact this
  subst A;have:=((EL k.nod).2 ⟨k,p⟩);exact L T [r] ([r]++JE [r] T) j ((JI (by simp)).2 ⟨this.1,rfl,this.2.1⟩)
 ·rw[aqG]at j
  have q:T.Nodup:=(EM j).1 K;have w:=(JI (by simp)).1 hg;have a4:aa.length=(eV T).length:=by simpa using a5.len
  have a2:R.length=Q.length:=a3.len;simp only[oH];have a9:∃y r,z=y::r:=by
   have Y:T≠[]:=λe=>by rw[B,e]at j;simp at j
   obtain⟨G,t,rfl⟩:∃G t,T=G++[t]:=by
    rcases auX T with e|⟨a,f,e⟩
    ·exact absurd e Y
    ·exact⟨a,f,by rw[e,auY]⟩
   obtain⟨r,p⟩:=VK w.1;exact⟨_,_,p⟩
  obtain⟨y,r,rfl⟩:=a9;rw[cd];by_cases D:r=[]
  rotate_left
  ·have ab:0<r.length:=arD.2 D
   rw[apQ (by simp only[aqf];omega)];refine⟨false,rfl,?_⟩;simp only[aru,asv,not_and];rintro _ ⟨S,C,k⟩;obtain rfl:=Bc j C;obtain⟨F,x⟩:=k.FH;have A:F=u:=by
    cases T with
    |nil=>exact absurd rfl k.ne
    |cons t T=>
     rw[B]at j;simp only[aqc,aqX,ia E,apU]at j;have l:=mn x;simp at l;rw[l,<-j.1]
   subst A;have:=x.symm.trans w.1;simp only[apU,aqX]at this;exact D this.2.symm
  ·subst D
   rw[apR (by simp)];have P:run [u] T=some [y]:=w.1;refine⟨_,rfl,?_⟩;rw[aqQ,a4,a2,w.2.1];have ac:y=u\/True:=.inr trivial;constructor
   ·intro he
    refine⟨c,T,j,?_⟩;have a0:∀(b:List Tk) (s z:aZ),s≠[]->run s b=some z->z.getLast?=s.getLast?:=λb=>by
     induction b with
     |nil=>intro s z _ h;have:s=z:=by simpa[run]using h
           rw[this]
     |cons t b ih=>
      intro s z hs h;obtain⟨y,l,W⟩:=eL.1 h;rw[ih y z (VM l).2 W];obtain⟨r,H,X⟩:=il l;rcases X with⟨_,rfl⟩|⟨_,r',p,rfl⟩|⟨_,_,rfl⟩
      ·rfl
      ·rw[H,p,atv]
      ·rw[H,atv]
    have I:=a0 T [u] [y] (by simp) P;simp at I;subst I;exact((EL q).1 ⟨P,by simpa using w.2.2,by simp at he;omega⟩).1
   ·rintro⟨_,S,C,k⟩
    obtain rfl:=Bc j C;obtain⟨F,x⟩:=k.FH;have A:F=u:=by
     cases T with
     |nil=>exact absurd rfl k.ne
     |cons t T=>
      rw[B]at j;simp only[aqc,aqX,ia E,apU]at j;have l:=mn x;simp at l;rw[l,<-j.1]
    subst A;have:=((EL q).2 ⟨k,x⟩).2.2;simp;omega
def mo.BG{n:Nat}{a b:aX}(h:mo n (a++b)):mo n (b++a):=by
 obtain⟨T,c,i⟩:=h;rw[aqH]at c;obtain⟨S1,d,e,f,g⟩:=List.append_eq_map_iff.1 c;subst e;exact⟨d++S1,by rw[aqH,aqH,<-f,<-g],i.BG⟩
def zW{l:aX}:mo n (Proofs.YtmdbmigbihboaaaGreatDoor.BG l a)↔mo n l:=by
 have e:l.take a++l.drop a=l:=arK a l;constructor
 ·intro h
  have:=mo.BG h;rwa[e]at this
 ·intro h
  rw[<-e]at h;exact h.BG
def ajN{a b:Nat}(e:0<b)(h:a<=100000)(f:b<=100000)(c:d=(a:Int)):FQ (wrap .i64 d) (b:Int)=some ((a % b:Nat):Int):=by
 subst c;rw[gT (by omega) (by omega),Jw (by omega),yq]
def jQ(r:aX):Int:=r.headD 0
def agp(n:Nat)(a:Int)(r:aX):Prop:=r≠[]/\a<jQ r/\e8 r/\mI r=jQ r/\mo n r
def yE(n:Nat):Int->bM->Prop
 |_,[]=>True
 |last,r::a=>agp n last r/\yE n (jQ r) a
def vt(n:Nat)(r:aX):aX:=r.filter λt=>decide (t<(n:Int))
def qx(n:Nat)(a:bM):aX:=a.flatMap (vt n)
structure b9(n:Nat)(rs:bM):Prop where
 lo:1<=n
 hi:n<=64
 rg:yE n (-1) rs
 nd:(qx n rs).Nodup
 all:∀v:Nat,v<n->(v:Int)∈qx n rs
def yF(h:b≠[]):b[0]? =some (jQ b):=by
 cases b with
 |nil=>exact absurd rfl h
 |cons x b=>rfl
def CA{α:Type} [BEq α] [LawfulBEq α]:∀{A B:List α},A.Nodup->(∀x∈A,x∈B)->A.length<=B.length
 |[],B,_,_=>by simp
 |a::A,B,i,d=>by
  have g:a∈B:=d a (by simp);have c:=auV g;have b:=aq2.1 i;have h:=c.length_eq;have j:A.length<=(B.erase a).length:=CA b.2 λx f=>by
   have:=c.mem_iff.1 (d x (by simp[f]));rcases aqj.1 this with e|e
   ·exact absurd (e▸f) b.1
   ·exact e
  simp at h⊢;omega
def Og{n:Nat}:∀{b:bM} {c:Int},yE n c b->∀r∈b,∃l,agp n l r
 |[],_,_,r,a=>by cases a
 |x::b,c,h,r,a=>by
  rcases aqj.1 a with rfl|a
  ·exact⟨_,h.1⟩
  ·exact Og h.2 r a
def adr(h:e8 b)(a:d∈vt n b):d∈b/\0<=d/\d<n:=by
 unfold vt at a;simp only[arN,aqQ]at a;exact⟨a.1,(h.2.1 d a.1).1,a.2⟩
def ads(h:yE n d e)(a:v∈qx n e):∃r∈e,v∈r/\0<=v/\v<n:=by
 obtain⟨r,b,a⟩:=aq9.1 a;obtain⟨l,c⟩:=Og h r b;exact⟨r,b,adr c.2.2.1 a⟩
def zX(h:mo n b):vt n b≠[]:=by
 obtain⟨T,e,c⟩:=h;cases T with
 |nil=>exact absurd rfl c.ne
 |cons t T=>
  have:=c.own t (by simp);have d:some (t.1,t.1)∈b.map (dk n):=by rw[e];exact ap4.2 ⟨_,this,rfl⟩
  obtain⟨y,f,g⟩:=ap4.1 d;have i:=Cy g;refine List.ne_nil_of_mem (a:=y) ?_;unfold vt;simp only[arN,aqQ];exact⟨f,by omega⟩
def VN{n:Nat}:∀{a:bM} {b:Int},yE n b a->a.length<=(qx n a).length
 |[],_,_=>by simp
 |r::a,b,h=>by
  have:=VN h.2;have c:=arD.2 (zX h.1.2.2.2.2);unfold qx at this⊢;rw[aqr,aqb,aqf];omega
def adt(h:yE n d e)(a:(qx n e).Nodup):(qx n e).length<=n:=by
 have:=CA (B:=(List.range n).map λv:Nat=>(v:Int)) a λx b=>by
  obtain⟨r,_,_,c,f⟩:=ads h b;exact ap4.2 ⟨x.toNat,aqR.2 (by omega),by omega⟩
 simpa using this
def Bd(n:Nat):((List.range n).map λv:Nat=>(v:Int)).Nodup:=by
 refine List.Pairwise.map _ ?_ aup;intro a b h e;exact h (by omega)
def VO(h:yE n d e)(c:(qx n e).Nodup):(∀v:Nat,v<n->(v:Int)∈qx n e)↔(qx n e).length=n:=by
 have l:=adt h c;constructor
 ·intro f
  have:=CA (A:=(List.range n).map λv:Nat=>(v:Int)) (B:=qx n e) (Bd n) λx b=>by
   obtain⟨v,a,rfl⟩:=ap4.1 b;exact f v (aqR.1 a)
  simp at this;omega
 ·intro g v a
  have i:=m_ (B:=(List.range n).map λv:Nat=>(v:Int)) c (λx b=>by
   obtain⟨r,_,_,j,k⟩:=ads h b;exact ap4.2 ⟨x.toNat,aqR.2 (by omega),by omega⟩) (by simp[g])
  exact i.mem_iff.1 (ap4.2 ⟨v,aqR.2 a,rfl⟩)
def Mv(n:Nat)(seen:aX)(a:bh):Prop:=∀v:Int,v<n->(bJ (.i .i64) a v).getD 0=if v∈seen then 1 else 0
def Mv.aoG{seen:aX}(h:Mv n seen m)(f:d<n)(c:d∉seen):Mv n (seen++[d]) (dS (.i .i64) m d (wrap .i64 ((bJ (.i .i64) m d).getD 0+1))):=λv g=>by
 have a:=h d f;rw[apQ c]at a;rw[pQ,a];by_cases e:d=v
 ·subst e
  rw[apR rfl,apR (by simp)];rfl
 ·rw[apQ e,h v g]
  have:v∈seen++[d]↔v∈seen:=by simp only[ap3,aqe];exact⟨λh=>h.resolve_right λb=>e b.symm,.inl⟩
  simp only[this]
def Mv.arc{seen:aX}(h:Mv n seen m)(b:¬d<n)(x:Int):Mv n seen (dS (.i .i64) m d x):=λv a=>by
 rw[pQ,apQ (by omega)];exact h v a
def yG(n:Nat)(t:Int)(r:aX):vt n (t::r)=if t<(n:Int)then t::vt n r else vt n r:=by
 unfold vt;by_cases c:t<(n:Int)<;>simp[ar1,c]
def sj(N:Nat){n:Nat}{r:aX}(u:r.length<=1000)(g a b:Int)(j l:bM):∀(m k:Nat) (seen:aX) (f:bh),r.length - k<m->k<=r.length->seen.Nodup->Mv n seen f->
 ∃o,rE N m (g,j,a,b,r,(r.length:Int),(k:Int),(n:Int),l,f)=some o/\((o=.inr false/\¬(seen++vt n (r.drop k)).Nodup)\/
  ∃z,o=.inl (g,j,a,b,(n:Int),l,z)/\(seen++vt n (r.drop k)).Nodup/\Mv n (seen++vt n (r.drop k)) z)
 |0,k,seen,f,h,_,_,_=>absurd h (by omega)
 |m+1,k,seen,f,D,C,p,d=>by
  rw[Qu,cd];by_cases q:k<r.length
  rotate_left
  ·rw[apQ (by omega),aqP (by omega)]
   exact⟨_,rfl,.inr ⟨f,rfl,by simpa[vt]using p,by simpa[vt]using d⟩⟩
  rw[apR (by omega)];obtain⟨t,v⟩:=get_at (xs:=r) (i:=k) q;rw[bd v,ob,cE (by omega),cd,de v,yG];by_cases c:t<(n:Int)
  ·rw[apR c,apR c,d t c,cd]
   by_cases eW:t∈seen
   ·simp only[apR eW,apR (show(0:Int)<1 by decide)]
    exact⟨_,rfl,.inl ⟨rfl,λh=>(aqL.1 h).2.2 t eW t (by simp) rfl⟩⟩
   ·simp only[apQ eW,apQ (show¬(0:Int)<0 by decide)]
    have s:=d.aoG c eW;rw[d t c,apQ eW]at s;obtain⟨o,A,h⟩:=sj N u g a b j l m (k+1) (seen++[t]) _ (by omega) (by omega) (aqL.2 ⟨p,by simp,λx B y w e=>eW (by simp at w;rw[<-w,<-e];exact B)⟩) s;refine⟨o,A,?_⟩;rw[aqm]at h;exact h
  ·rw[apQ c,apQ c]
   exact sj N u g a b j l m (k+1) seen _ (by omega) (by omega) p (d.arc c _)
def JJ(h:b≠[])(a:mI b=jQ b):∀x∈b,jQ b<=x:=λx c=>by
 rw[<-a];exact(mZ h).2 x c
def Be(N:Nat)(C:Fu+6<=N){n:Nat}(z:1<=n)(A:n<=64){a:bM}(M:a.length<=9223372036854775807)(E:∀r∈a,r.length<=9223372036854775807):∀(m i:Nat) (c:Int) (seen:aX) (k:bh),a.length - i<m->i<=a.length->seen.Nodup->Mv n seen k->
 ∃o,wP N m (c,a,(a.length:Int),(i:Int),(n:Int),a,k)=some o/\((o=.inr false/\¬(yE n c (a.drop i)/\(seen++qx n (a.drop i)).Nodup))\/
  ∃f,o=.inl ((n:Int),a,f)/\yE n c (a.drop i)/\(seen++qx n (a.drop i)).Nodup/\Mv n (seen++qx n (a.drop i)) f)
 |0,i,c,seen,k,h,_,_,_=>absurd h (by omega)
 |m+1,i,c,seen,k,V,S,G,F=>by
  rw[Qv,cd];by_cases q:i<a.length
  rotate_left
  ·rw[apQ (by omega),aqP (by omega)]
   exact⟨_,rfl,.inr ⟨k,rfl,trivial,by simpa[qx]using G,by simpa[qx]using F⟩⟩
  rw[apR (by omega)];obtain⟨r,v⟩:=get_at (xs:=a) (i:=i) q;have W:=E r (ap_ v);rw[bd v,ob,de v,cd];have l:¬agp n c r->∃o,(some (.inr false):Option ((Int×bM×bh)⊕Bool))=some o/\((o=.inr false/\¬(yE n c (r::a.drop (i+1))/\(seen++qx n (r::a.drop (i+1))).Nodup))\/
   ∃f,o=.inl ((n:Int),a,f)/\yE n c (r::a.drop (i+1))/\(seen++qx n (r::a.drop (i+1))).Nodup/\Mv n (seen++qx n (r::a.drop (i+1))) f):=λh=>⟨_,rfl,.inl ⟨rfl,λd=>h d.1.1⟩⟩
  by_cases e:r=[]
  ·subst e
   rw[apR (show(((([]:aX).length):Nat):Int)=0 from rfl)];exact l λh=>h.1 rfl
  have U:=arD.2 e;rw[apQ (by omega)];have P:ba r (0:Int)=some (jQ r):=bd (i:=0) (yF e);simp only[P,ob,cd,FX];by_cases u:jQ r<=c
  ·rw[apR u]
   exact l λh=>by have:=h.2.1;omega
  rw[apQ u,Jy N (by omega) r (by omega),ob];by_cases b:e8 r
  rotate_left
  ·rw[aqn b]
   exact l λh=>b h.2.2.1
  rw[aqk b];simp only[ap9,apW];rw[min_eq N (by omega) r b.1 e,ob];by_cases p:mI r=jQ r
  rotate_left
  ·rw[apQ p]
   exact l λh=>p h.2.2.2.1
  rw[apR p];obtain⟨x,t,w⟩:∃x t,r=x::t:=by
   cases r with
   |nil=>exact absurd rfl e
   |cons x t=>exact⟨x,t,rfl⟩
  have X:jQ r=x:=by rw[w];rfl
  obtain⟨g,K,L⟩:=ago (N:=N) (by omega) z A b.1 b.2.2 w;rw[K,ob];have D:g=true↔mo n r:=by
   rw[L];constructor
   ·exactλh=>h.2
   ·intro h
    refine⟨?_,h⟩;obtain⟨y,Q⟩:=asU _ (zX h);have d:=adr b Q;have B:=JJ e p y d.1;have j:=(b.2.1 x (by rw[w];simp)).1;omega
  cases g with
  |false=>
   exact l λh=>by
    have:=D.2 h.2.2.2.2;cases this
  |true=>
   have O:¬(jQ r<=c)->agp n c r:=λh=>⟨e,by omega,b,p,D.1 rfl⟩;simp only[ap9,apW];obtain⟨o,s,d⟩:=sj N (n:=n) b.1 (jQ r) ((a.length:Nat):Int) (i:Int) a a N 0 seen k (by rw[bQ]at C;have:=b.1;omega) (by omega) G F;rw[show((0:Nat):Int)=(0:Int)from rfl]at s;rw[s,ob];rw[aqG]at d;rcases d with⟨rfl,d⟩|⟨f,rfl,d,B⟩
   ·refine⟨_,rfl,.inl ⟨rfl,λh=>d ?_⟩⟩
    have:=h.2;unfold qx at this;rw[aqr,<-aqm]at this;exact(aqL.1 this).1
   ·simp only
    rw[cE (by omega)];obtain⟨o,s,j⟩:=Be N C z A M E m (i+1) (jQ r) (seen++vt n r) f (by omega) (by omega) d B;refine⟨o,s,?_⟩;have H:seen++qx n (r::a.drop (i+1))=seen++vt n r++qx n (a.drop (i+1)):=by
     unfold qx;rw[aqr,aqm]
    rw[H];rcases j with⟨rfl,j⟩|⟨R,rfl,j,I,J⟩
    ·exact .inl ⟨rfl,λh=>j ⟨h.1.2,h.2⟩⟩
    ·exact .inr ⟨R,rfl,⟨O u,j⟩,I,J⟩
def Bf(N:Nat){n:Nat}(f:n<=64){seen:aX}{d:bh}(c:Mv n seen d):∀(m v:Nat),n - v<m->v<=n->
 ∃o,wO N m ((n:Int),(v:Int),d)=some o/\((o=.inr false/\¬∀w:Nat,v<=w->w<n->(w:Int)∈seen)\/(o=.inl ()/\∀w:Nat,v<=w->w<n->(w:Int)∈seen))
 |0,v,h,_=>absurd h (by omega)
 |m+1,v,i,j=>by
  rw[Qt,cd];by_cases q:v<n
  rotate_left
  ·rw[apQ (by omega)]
   exact⟨_,rfl,.inr ⟨rfl,λw a b=>by omega⟩⟩
  rw[apR (by omega),c v (by omega),cd,cE (by omega)];by_cases eW:(v:Int)∈seen
  ·simp only[apR eW,apQ (show¬(1:Int)=0 by decide)]
   obtain⟨o,g,a⟩:=Bf N f c m (v+1) (by omega) (by omega);refine⟨o,g,?_⟩;have e:(∀w:Nat,v<=w->w<n->(w:Int)∈seen)↔∀w:Nat,v+1<=w->w<n->(w:Int)∈seen:=by
    constructor
    ·exactλh w a b=>h w (by omega) b
    ·intro h w a b
     by_cases e:w=v
     ·subst e;exact eW
     ·exact h w (by omega) b
   rw[e];exact a
  ·simp only[apQ eW,apR (show(0:Int)=0 from rfl)]
   exact⟨_,rfl,.inl ⟨rfl,λh=>eW (h v (by omega) q)⟩⟩
def tF(i:Fu+7<=a)(f:Int){rs:bM}(l:rs.length<=9223372036854775807)(m:∀r∈rs,r.length<=9223372036854775807):∃b,rF a (f,rs)=some b/\(b=true↔0<=f/\b9 f.toNat rs):=by
 obtain⟨a,rfl⟩:∃M,a=M+1:=⟨a - 1,by omega⟩;rw[Xo,yB (by omega),ob];by_cases c:1<=f/\f<=64
 rotate_left
 ·rw[aqn c]
  exact⟨false,rfl,by simp only[aru,asv];rintro⟨s,h⟩;exact c ⟨by have:=h.lo;omega,by have:=h.hi;omega⟩⟩
 rw[aqk c];obtain⟨n,rfl⟩:∃n:Nat,f=n:=⟨f.toNat,by omega⟩;simp only[ap9,apW,ap2];obtain⟨o,g,d⟩:=Be a (by omega) (n:=n) (by omega) (by omega) l m a 0 (-1) [] [] (by rw[bQ]at i;omega) (by omega) (by simp) (λv _=>by simp[bJ]);rw[show((0:Nat):Int)=(0:Int)from rfl]at g;rw[g,ob];rw[aqG,aqC]at d;rcases d with⟨rfl,d⟩|⟨t,rfl,d,j,k⟩
 ·exact⟨false,rfl,by simp only[aru,asv];rintro⟨_,h⟩;exact d ⟨h.rg,h.nd⟩⟩
 ·simp only
  obtain⟨o,g,e⟩:=Bf a (n:=n) (by omega) k a 0 (by rw[bQ]at i;omega) (by omega);rw[show((0:Nat):Int)=(0:Int)from rfl]at g;rw[g,ob];rcases e with⟨rfl,e⟩|⟨rfl,e⟩
  ·exact⟨false,rfl,by simp only[aru,asv];rintro⟨_,h⟩;exact e λw _ q=>h.all w q⟩
  ·exact⟨true,rfl,by simp only[true_iff];exact⟨by omega,by omega,by omega,d,j,λv p=>e v (by omega) p⟩⟩
def QS(h:e8 b)(a:b≠[]):dg b=b↔mI b=jQ b:=by
 rw[fO h a];have d:=(mZ a).1;constructor
 ·intro e
  have:=sb d;rw[e,yF a]at this;exact(apZ this).symm
 ·intro e
  have c:ix b (mI b)=0:=ahK h.2.2 (by rw[e];exact yF a);unfold ef;rw[c];simp[BG]
def Body(n:Nat)(r:aX):Prop:=r≠[]/\e8 r/\mI r=jQ r/\mo n r
def yH(h:b≠[]):jQ b∈b:=ap_ (yF h)
def yI{n:Nat}:∀{c:bM} {e:Int},yE n e c↔(∀r∈c,Body n r)/\c.Pairwise (λa b=>jQ a<jQ b)/\∀r∈c,e<jQ r
 |[],e=>by simp[yE]
 |r::c,e=>by
  rw[yE,yI];simp only[as9,arE];constructor
  ·rintro⟨⟨f,g,h,i,j⟩,k,l,d⟩
   exact⟨⟨⟨f,h,i,j⟩,k⟩,⟨d,l⟩,g,λx m=>by have:=d x m;omega⟩
  ·rintro⟨⟨⟨f,h,i,j⟩,k⟩,⟨d,l⟩,g,o⟩
   exact⟨⟨f,g,h,i,j⟩,k,l,d⟩
def b9.body(h:b9 n e):∀r∈e,Body n r:=(yI.1 h.rg).1
def b9.VP(h:b9 n e):e.Pairwise λa b=>jQ a<jQ b:=(yI.1 h.rg).2.1
def b9.of(d:1<=n)(f:n<=64)(c:∀r∈e,Body n r)(i:e.Pairwise λa b=>jQ a<jQ b)(h:(qx n e).Nodup)(g:∀v:Nat,v<n->(v:Int)∈qx n e):b9 n e:=
 ⟨d,f,yI.2 ⟨c,i,λr j=>by
  have:=c r j;have:=(this.2.1.2.1 _ (yH this.1)).1;omega⟩,h,g⟩
def Body.head(h:Body n b):0<=jQ b/\jQ b<n:=by
 have d:=(h.2.1.2.1 _ (yH h.1)).1;obtain⟨y,c⟩:=asU _ (zX h.2.2.2);have a:=adr h.2.1 c;have e:=JJ h.1 h.2.2.1 y a.1;omega
def Body.pV(h:Body n b):jQ b∈vt n b:=by
 unfold vt;simp only[arN,aqQ];exact⟨yH h.1,h.head.2⟩
def iU(c:a<n):(a:Int)∈vt n b↔(a:Int)∈b:=by
 unfold vt;simp only[arN,aqQ];exact⟨λh=>h.1,λh=>⟨h,by omega⟩⟩
def zY{α β:Type}{f:α->List β}:∀{g:List α},(g.flatMap f).Nodup->∀{i j:Nat} {a b:α} {x:β},g[i]? =some a->g[j]? =some b->x∈f a->x∈f b->i=j
 |[],_,i,j,a,b,x,c,_,_,_=>by simp at c
 |r::g,e,i,j,a,b,x,c,d,h,k=>by
  rw[aqr,aqL]at e;cases i with
  |zero=>
   cases j with
   |zero=>rfl
   |succ j=>
    simp only[att,apU,arF]at c d;subst c;exact absurd rfl (e.2.2 x h x (aq9.2 ⟨b,ap_ d,k⟩))
  |succ i=>
   cases j with
   |zero=>
    simp only[att,apU,arF]at c d;subst d;exact absurd rfl (e.2.2 x k x (aq9.2 ⟨a,ap_ c,h⟩))
   |succ j=>
    simp only[arF]at c d;rw[zY e.2.1 c d h k]
def kZ:bM->Int->Nat
 |[],_=>0
 |r::a,v=>if v∈r then 0 else kZ a v+1
def VQ:∀{rs:bM} {v:Int},kZ rs v<rs.length->∃r,rs[kZ rs v]? =some r/\v∈r
 |[],v,h=>by simp at h
 |r::rs,v,h=>by
  rw[kZ];split
  ·rename_i c;exact⟨r,rfl,c⟩
  ·rename_i c
   rw[kZ,apQ c]at h;simp only[aqf]at h;obtain⟨d,a,b⟩:=VQ (rs:=rs) (v:=v) (by omega);exact⟨d,by rw[arF];exact a,b⟩
def adu:∀{a:bM} {v:Int} {r:aX},r∈a->v∈r->kZ a v<a.length
 |x::a,v,r,h,b=>by
  rw[kZ,aqf];split
  ·omega
  ·rename_i c
   rcases aqj.1 h with rfl|h
   ·exact absurd b c
   ·have:=adu h b
    omega
def dQ(a:bM)(v:Nat):aX:=a.getD (kZ a (v:Int)) []
def vC(a:bM)(v:Nat):Nat:=(jQ (dQ a v)).toNat
def b9.ring(h:b9 n e)(f:a<n):e[kZ e (a:Int)]? =some (dQ e a)/\(a:Int)∈dQ e a/\dQ e a∈e/\kZ e (a:Int)<e.length:=by
 obtain⟨r,i,j⟩:=aq9.1 (h.all a f);have d:=adu i ((iU f).1 j);obtain⟨k,c,g⟩:=VQ d;have b:dQ e a=k:=by unfold dQ;rw[ari,c];rfl
 rw[b];exact⟨c,g,ap_ c,d⟩
def b9.uniq(h:b9 n e)(i:a<n)(g:e[c]? =some b)(j:(a:Int)∈b):c=kZ e (a:Int)/\b=dQ e a:=by
 have d:=h.ring i;have:=zY (f:=vt n) h.nd g d.1 ((iU i).2 j) ((iU i).2 d.2.1);refine⟨this,?_⟩;rw[this,d.1]at g;exact(apZ g).symm
def b9.lv(h:b9 n e)(g:a<n)(c:b∈e)(f:(a:Int)∈b):jQ b=(vC e a:Int)/\vC e a<n:=by
 obtain⟨i,d⟩:=atu c;have:=(h.uniq g d f).2;have j:=(h.body b c).head;unfold vC;rw[<-this];omega
def b9.ahM(h:b9 n e)(b:a<n):vC e a<n:=(h.lv b (h.ring b).2.2.1 (h.ring b).2.1).2
def b9.same{n:Nat}(h:b9 n e)(j:a<n)(k:c<n):kZ e (a:Int)=kZ e (c:Int)↔vC e a=vC e c:=by
 have d:=h.ring j;have g:=h.ring k;have l:=(h.lv j d.2.2.1 d.2.1).1;have i:=(h.lv k g.2.2.1 g.2.1).1;constructor
 ·intro b
  rw[b,g.1]at d;have:=apZ d.1;rw[this]at i;omega
 ·intro b
  have m:=h.body _ d.2.2.1;have o:=h.body _ g.2.2.1;refine zY (f:=vt n) h.nd d.1 g.1 m.pV ?_;rw[l,b,<-i];exact o.pV
def adv(h:mo n b):b.length+2=3*(vt n b).length:=by
 obtain⟨T,e,k⟩:=h;have g:=k.len;have i:b.length=T.length:=by simpa using ap5 List.length e
 have j:∀(b:aX) (T:List Tk),b.map (dk n)=T.map some->(vt n b).length=(eV T).length:=λb=>by
  induction b with
  |nil=>intro T e;cases T<;>simp[vt,eV]at e⊢
  |cons x b l=>
   intro T e;cases T with
   |nil=>simp at e
   |cons t T=>
    simp only[aqc,aqX]at e;have:=l T e.2;rw[yG,iT];obtain⟨a,d⟩:=t;have f:=yA e.1;unfold ek at f;by_cases c:a=d
    ·subst c
     simp only[aqs]at f;rw[apR (by omega),apR rfl];simp[this]
    ·simp only[c,aqN]at f
     have:n*1<=n*(a+1):=arL n (by omega);rw[apQ (by omega),apQ c];assumption
 rw[i,j b T e];exact g
def VS(h:b.Perm o):(vt n b).Perm (vt n o):=h.filter _
def yJ{n:Nat}{a b:bM}(h:a.Perm b):(qx n a).Perm (qx n b):=h.flatMap_right _
def oJ(n:Nat)(u v:Nat)(a b:aX):aX:=[(u:Int),ek n (u,v)]++ef b (v:Int)++[ek n (v,u)]++(ef a (u:Int)).drop 1
def JK(h:a≠c)(f:a<n)(g:c<n):(n:Int)<=ek n (a,c)/\ek n (a,c)<=10000\/64<n:=by
 by_cases b:64<n
 ·exact .inr b
 ·refine .inl ?_
  unfold ek;simp only[h,aqN];have d:n*1<=n*(a+1):=arL n (by omega);have e:n*(a+1)<=64*64:=arp (by omega) (by omega);omega
def mq(h:d∈b):ef b d=d::(ef b d).drop 1:=by
 have:=sb h;cases a:ef b d with
 |nil=>rw[a]at this;simp at this
 |cons x l=>rw[a]at this;simp at this;rw[this];rfl
def vD(a:aX)(u:Int):(ef a u).Perm a:=yv _ _
def EO{n u v:Nat}{a b:aX}(f:(u:Int)∈a):(oJ n u v a b).Perm (ek n (u,v)::ek n (v,u)::(a++b)):=by
 unfold oJ;have c:([(u:Int),ek n (u,v)]++ef b (v:Int)++[ek n (v,u)]++(ef a (u:Int)).drop 1).Perm (ek n (u,v)::ek n (v,u)::((u:Int)::(ef a (u:Int)).drop 1++ef b (v:Int))):=by
  have d:[(u:Int),ek n (u,v)]++ef b (v:Int)++[ek n (v,u)]++(ef a (u:Int)).drop 1=(u:Int)::ek n (u,v)::(ef b (v:Int)++ek n (v,u)::(ef a (u:Int)).drop 1):=by simp
  rw[d];refine(List.Perm.swap _ _ _).trans (List.Perm.cons _ ?_);have e:(ef b (v:Int)++ek n (v,u)::(ef a (u:Int)).drop 1).Perm (ek n (v,u)::((ef a (u:Int)).drop 1++ef b (v:Int))):=by
   have:= @as6 _ (ef b (v:Int)) (ek n (v,u)::(ef a (u:Int)).drop 1);simpa using this
  exact(e.cons (u:Int)).trans (List.Perm.swap _ _ _)
 rw[<-mq f]at c;exact c.trans (((((vD a u).append (vD b v))).cons _).cons _)
def Oh{T:List Tk}(c:b.map (dk n)=T.map some)(d:a<n):(a:Int)∈b↔(a,a)∈T:=by
 constructor
 ·intro h
  have:dk n (a:Int)∈T.map some:=by rw[<-c];exact ap4.2 ⟨_,h,rfl⟩
  rw[ia d]at this;simpa using this
 ·intro h
  have:some (a,a)∈b.map (dk n):=by rw[c];exact ap4.2 ⟨_,h,rfl⟩
  obtain⟨y,e,f⟩:=ap4.1 this;rw[<-(Cy f).1];exact e
def EP(f:a<n)(l:c<n)(A:Body n b)(B:Body n o)(k:(a:Int)∈b)(q:(c:Int)∈o)(p:∀x∈vt n b,x∉vt n o):mo n (oJ n a c b o):=by
 have H:a≠c:=λe=>by subst e;exact p _ ((iU f).2 k) ((iU f).2 q)
 have s:mo n (ef b (a:Int)):=zW.2 A.2.2.2;have u:mo n (ef o (c:Int)):=zW.2 B.2.2.2;obtain⟨TA,d,v⟩:=s;obtain⟨j,g,w⟩:=u;rw[mq k]at d;have m:=g;rw[mq q]at g;obtain⟨TA,rfl⟩:∃T,TA=(a,a)::T:=by
  cases TA with
  |nil=>simp at d
  |cons t T=>
   simp only[aqc,aqX,ia f,apU]at d;exact⟨T,by rw[d.1]⟩
 obtain⟨j,rfl⟩:∃T,j=(c,c)::T:=by
  cases j with
  |nil=>simp at g
  |cons t T=>
   simp only[aqc,aqX,ia l,apU]at g;exact⟨T,by rw[g.1]⟩
 have C:∀{r:aX} {T:List Tk},r.map (dk n)=T.map some->∀x,(x,x)∈T->x<n:=λ{r T} z x h=>by
  have:some (x,x)∈r.map (dk n):=by rw[z];exact ap4.2 ⟨_,h,rfl⟩
  obtain⟨y,_,E⟩:=ap4.1 this;exact(Cy E).2
 refine⟨_,?_,v.link w λx h D=>?_⟩
 ·unfold oJ
  simp only[aqc,aqX]at d;simp only[aqH,aqc,aqZ,ia f,adn (e:=(a,c)) f l,adn (e:=(c,a)) l f,m,d.2,aq6,aqC,aqm]
 ·have i:=C d x h
  rw[<-mq k]at d;have F:=HA.1 ((Oh d i).2 h);have G:=HA.1 ((Oh m i).2 D);exact p _ ((iU i).2 F) ((iU i).2 G)
def Oi{d b:aX}(l:n<=64)(f:a<n)(h:c<n)(g:a≠c)(i:(a:Int)∈d):(vt n (oJ n a c d b)).Perm (vt n d++vt n b):=by
 refine(VS (EO i)).trans ?_;have j:=JK g f h;have k:=JK (λe=>g e.symm) h f;rw[yG,yG,apQ (by omega),apQ (by omega)];unfold vt;rw[asg]
def amE{e:Tk}(h:dk n d=some e)(g:n<=64):0<=d/\d<=10000:=by
 have f:=yA h;obtain⟨a,b⟩:=e;unfold ek at f;by_cases c:a=b
 ·subst c
  simp only[aqs]at f;omega
 ·simp only[c,aqN]at f
  have i:n*(a+1)<=64*64:=arp g (by omega);omega
def ER(j:n<=64)(d:a<n)(k:c<n)(m:Body n b)(p:Body n o)(g:(a:Int)∈b)(l:(c:Int)∈o)(i:∀x∈vt n b,x∉vt n o)(w:(vt n b).length+(vt n o).length<=n):e8 (oJ n a c b o):=by
 obtain⟨T,f,h⟩:=EP d k m p g l i;have u:a≠c:=λe=>by subst e;exact i _ ((iU d).2 g) ((iU d).2 l)
 have v:=adv ⟨T,f,h⟩;have r:=(Oi j d k u g (b:=o)).length_eq;rw[aqb]at r;refine⟨by omega,λt s=>?_,(EM f).2 h.nod⟩;have:dk n t∈T.map some:=by rw[<-f];exact ap4.2 ⟨t,s,rfl⟩
 obtain⟨e,_,q⟩:=ap4.1 this;exact amE q.symm j
def ES:bM->aX->bM
 |[],r=>[r]
 |x::l,r=>if jQ x<jQ r then x::ES l r else r::x::l
def tG:∀(l:bM) (r:aX),(ES l r).Perm (r::l)
 |[],r=>atw _
 |x::l,r=>by
  rw[ES];split
  ·exact((tG l r).cons x).trans (List.Perm.swap _ _ _)
  ·exact atw _
def Oj:∀{l:bM} {r:aX},l.Pairwise (λa b=>jQ a<jQ b)->(∀x∈l,jQ x≠jQ r)->(ES l r).Pairwise λa b=>jQ a<jQ b
 |[],r,_,_=>by simp[ES]
 |x::l,r,g,f=>by
  rw[ES];have e:=arE.1 g;split
  ·rename_i c
   refine arE.2 ⟨λy d=>?_,Oj e.2 λy d=>f y (by simp[d])⟩;have:=(tG l r).mem_iff.1 d;rcases aqj.1 this with rfl|h
   ·exact c
   ·exact e.1 y h
  ·rename_i c
   have i:=f x (by simp);refine arE.2 ⟨λy d=>?_,g⟩;rcases aqj.1 d with rfl|h
   ·omega
   ·have:=e.1 y h
    omega
def ku{α:Type}:∀{l:List α} {i:Nat} {x:α},l[i]? =some x->l.Perm (x::l.eraseIdx i)
 |[],i,x,h=>by simp at h
 |y::l,0,x,h=>by
  simp at h;subst h;exact atw _
 |y::l,i+1,x,h=>by
  rw[arF]at h;rw[List.eraseIdx_cons_succ];exact((ku h).cons y).trans (List.Perm.swap _ _ _)
def Ol{l:List i}(h:c<a):(l.eraseIdx a)[c]? =l[c]? :=by
 rw[List.getElem?_eraseIdx,apR h]
def HE(a:bM)(i j:Nat):bM:=(a.eraseIdx (max i j)).eraseIdx (min i j)
def vE(g:e[a]? =some b)(i:e[c]? =some o)(j:a≠c):e.Perm (b::o::HE e a c):=by
 unfold HE;rcases aso a c with h|h
 ·rw[aul (by omega),aq_ (by omega)]
  have d:=ku i;have f:=ku (l:=e.eraseIdx c) (i:=a) (x:=b) (by rw[Ol h];exact g);exact(d.trans (f.cons o)).trans (List.Perm.swap _ _ _)
 ·rw[aum (by omega),as8 (by omega)]
  have d:=ku g;have f:=ku (l:=e.eraseIdx a) (i:=c) (x:=o) (by rw[Ol (by omega)];exact i);exact d.trans (f.cons b)
def Yv(a:bM)(i j:Nat):(HE a i j).Sublist a:=(auq _ _).trans (auq _ _)
def oK(n:Nat)(a:bM)(u v:Nat):bM:=ES (HE a (kZ a (u:Int)) (kZ a (v:Int))) (dg (oJ n u v (dQ a u) (dQ a v)))
def adw(h:e8 b)(a:b≠[]):jQ (dg b)=mI b:=by
 rw[fO h a];have:=sb (mZ a).1;cases c:ef b (mI b)with
 |nil=>rw[c]at this;simp at this
 |cons x r=>rw[c]at this;simp at this;rw[<-this];rfl
def QT(h:e8 b)(a:b≠[]):(dg b).Perm b:=by
 rw[fO h a];exact vD _ _
def VT(h:b9 n e)(t:a<n)(u:y<n)(O:kZ e (a:Int)≠kZ e (y:Int)):
 b9 n (oK n e a y)/\(∀x,x<n->vC (oK n e a y) x=jn (vC e) a y x)/\(oK n e a y).length+1=e.length:=by
 have v:=h.ring t;have A:=h.ring u;have Z:=h.hi;have p:=h.body _ v.2.2.1;have q:=h.body _ A.2.2.1;have m:=vE v.1 A.1 O;generalize a0:HE e (kZ e (a:Int)) (kZ e (y:Int))=j at m;have P:j.Sublist e:=a0▸Yv _ _ _;generalize ha:dQ e a=d at v p m;generalize hb:dQ e y=b at A q m;have G:=yJ (n:=n) m;have a8:(qx n (d::b::j)).Nodup:=G.nodup_iff.1 h.nd;have N:=a8;unfold qx at N;rw[aqr,aqr]at N;have F:=aqL.1 N;have S:=aqL.1 F.2.1;have Y:∀x∈vt n d,x∉vt n b:=λx i E=>F.2.2 x i x (by simp[E]) rfl;have Q:a≠y:=λf=>O (by rw[f]);have a4:=(VO h.rg h.nd).1 h.all;have a6:(vt n d).length+(vt n b).length<=n:=by
  have:=G.length_eq;unfold qx at this a4;rw[aqr,aqr,aqb,aqb]at this;omega
 have U:=EP t u p q v.2.1 A.2.1 Y;have z:=ER Z t u p q v.2.1 A.2.1 Y a6;have V:=Oi (b:=b) Z t u Q v.2.1;have H:=EO (n:=n) (v:=y) (b:=b) v.2.1;have C:oJ n a y d b≠[]:=by unfold oJ;simp
 have a5:oK n e a y=ES j (dg (oJ n a y d b)):=by
  unfold oK;rw[a0,ha,hb]
 rw[a5];generalize oJ n a y d b=J at U z V H C;have I:=QT z C;have W:dg J≠[]:=λf=>C (by rw[f]at I;exact I.symm.eq_nil);have X:Body n (dg J):=by
  have k:=QN z;refine⟨W,k,(QS k W).1 (N3 z),?_⟩;rw[fO z C];exact zW.2 U
 have K:(vt n (dg J)).Perm (vt n d++vt n b):=(VS I).trans V;have D:=tG j (dg J);have a1:(qx n (ES j (dg J))).Perm (qx n e):=by
  refine(yJ D).trans (List.Perm.trans ?_ G.symm);unfold qx;rw[aqr,aqr,aqr,<-aqm];exact K.append_right _
 have M:∀r∈j,Body n r:=λr k=>h.body r (P.subset k);have ac:jQ (dg J)=min (jQ d) (jQ b):=by
  rw[adw z C];refine zV ?_ λg o=>?_
  ·refine H.mem_iff.2 (aqU _ (aqU _ (ap3.2 ?_)))
   rcases Int.le_total (jQ d) (jQ b)with c|c
   ·rw[Int.min_eq_left c];exact .inl (yH p.1)
   ·rw[Int.min_eq_right c];exact .inr (yH q.1)
  ·have e1:=JK Q t u
   have e2:=JK (λf=>Q f.symm) u t;have ka:=p.head;have kb:=q.head;rcases aqj.1 (H.mem_iff.1 o)with rfl|o
   ·omega
   rcases aqj.1 o with rfl|o
   ·omega
   rcases ap3.1 o with o|o
   ·have:=JJ p.1 p.2.2.1 g o;omega
   ·have:=JJ q.1 q.2.2.1 g o;omega
 have a9:∀x∈j,jQ x≠jQ (dg J):=λx i f=>by
  have B:=(M x i).pV;rw[f]at B;have s:=K.mem_iff.1 X.pV;have R:jQ (dg J)∈j.flatMap (vt n):=aq9.2 ⟨x,i,B⟩;rcases ap3.1 s with s|s
  ·exact F.2.2 _ s _ (by simp only[ap3];exact .inr R) rfl
  ·exact S.2.2 _ s _ R rfl
 have L:b9 n (ES j (dg J)):=b9.of h.lo h.hi (λr k=>by
  rcases aqj.1 (D.mem_iff.1 k)with rfl|k
  ·exact X
  ·exact M r k) (Oj (h.VP.sublist P) a9) (a1.nodup_iff.2 h.nd) λw hw=>a1.mem_iff.2 (h.all w hw)
 refine⟨L,λx i=>?_,?_⟩
 ·have cu:=h.lv t (m.mem_iff.2 (by simp:d∈d::b::j)) v.2.1
  have cv:=h.lv u (m.mem_iff.2 (by simp:b∈d::b::j)) A.2.1;have ab:vC e a≠vC e y:=λf=>O ((h.same t u).2 f);have E:=G.mem_iff.1 (h.all x i);unfold qx at E;rw[aqr,aqr]at E;have a3:(x:Int)∈vt n d\/(x:Int)∈vt n b->vC (ES j (dg J)) x=min (vC e a) (vC e y):=λl=>by
   have a7:(x:Int)∈dg J:=(iU i).1 (K.mem_iff.2 (ap3.2 l));have:=(L.lv i (D.mem_iff.2 (by simp)) a7).1;omega
  rcases ap3.1 E with l|l
  ·have:=(h.lv i (m.mem_iff.2 (by simp:d∈d::b::j)) ((iU i).1 l)).1
   rw[a3 (.inl l)];unfold jn;split<;>omega
  rcases ap3.1 l with l|l
  ·have:=(h.lv i (m.mem_iff.2 (by simp:b∈d::b::j)) ((iU i).1 l)).1
   rw[a3 (.inr l)];unfold jn;split<;>omega
  ·obtain⟨r,k,a2⟩:=aq9.1 l
   have B:=(h.lv i (P.subset k) ((iU i).1 a2)).1;have s:=(L.lv i (D.mem_iff.2 (aqU _ k)) ((iU i).1 a2)).1;have aa:=(M r k).pV;have eW:jQ r∈j.flatMap (vt n):=aq9.2 ⟨r,k,aa⟩;have n1:jQ r≠jQ d:=λf=>F.2.2 _ p.pV _ (by simp only[ap3];exact .inr eW) f.symm;have n2:jQ r≠jQ b:=λf=>S.2.2 _ q.pV _ eW f.symm;unfold jn;split
   ·omega
   ·omega
 ·have B:=D.length_eq
  have s:=m.length_eq;simp at B s;omega
def QU(a:bM)(v:Int):Int:=if kZ a v<a.length then(kZ a v:Int)else -1
def b9.small(h:b9 n e):e.length<=n/\∀r∈e,r.length<=1000:=by
 have b:=VN h.rg;have c:=adt h.rg h.nd;exact⟨by omega,λr a=>(h.body r a).2.1.1⟩
def b9.QU(h:b9 n e)(b:a<n):Proofs.YtmdbmigbihboaaaGreatDoor.QU e (a:Int)=(kZ e (a:Int):Int):=apR (h.ring b).2.2.2
def ll(n:Nat):bM->bH->bM
 |a,[]=>a
 |a,e::l=>ll n (if kZ a (e.1:Int)=kZ a (e.2:Int)then a else oK n a e.1 e.2) l
def ln(n:Nat):bM->bH->bq
 |_,[]=>[]
 |a,e::l=>(vC a e.1 !=vC a e.2)::ln n (if kZ a (e.1:Int)=kZ a (e.2:Int)then a else oK n a e.1 e.2) l
def pW:(Nat->Nat)->bH->bq
 |_,[]=>[]
 |c,e::l=>(c e.1 !=c e.2)::pW (jn c e.1 e.2) l
def adx{b d:Nat->Nat}(h:∀y,y<n->b y=d y)(e:a<n)(f:c<n)(g:y<n):jn b a c y=jn d a c y:=by
 unfold jn;rw[h a e,h c f,h y g]
def JL(h:b9 n e)(f:a<n)(g:c<n):
 b9 n (if kZ e (a:Int)=kZ e (c:Int)then e else oK n e a c)/\(∀x,x<n->vC (if kZ e (a:Int)=kZ e (c:Int)then e else oK n e a c) x=jn (vC e) a c x)/\
  (if kZ e (a:Int)=kZ e (c:Int)then e else oK n e a c).length+(if vC e a !=vC e c then 1 else 0)=e.length:=by
 by_cases d:kZ e (a:Int)=kZ e (c:Int)
 ·rw[apR d]
  have b:=(h.same f g).1 d;exact⟨h,λx i=>by rw[agm b],by simp[b]⟩
 ·rw[apQ d]
  have b:vC e a≠vC e c:=λb=>d ((h.same f g).2 b);have:=VT h f g d;exact⟨this.1,this.2.1,by rw[apR (by simpa using b)];exact this.2.2⟩
def Om{n:Nat}:∀{l:bH} {d:bM} {c:Nat->Nat},b9 n d->JC n l->(∀x,x<n->vC d x=c x)->ln n d l=pW c l
 |[],_,_,_,_,_=>rfl
 |e::l,d,c,h,g,f=>by
  have a:=g e (by simp);have i:=JL h a.1 a.2;rw[ln,pW,f _ a.1,f _ a.2];congr 1;exact Om i.1 (λx b=>g x (by simp[b])) λx b=>by rw[i.2.1 x b,adx f a.1 a.2 b]
def ET(d a:Nat->Nat):∀l:bH,pW (λx=>d (a x)) l=pW d (l.map λe=>(a e.1,a e.2))
 |[]=>rfl
 |e::l=>by
  have:=ET (jn d (a e.1) (a e.2)) a l;rw[aqc,pW,pW,<-this];rfl
def On:∀(l p:bH),pW (FH p) l=jl p l
 |[],p=>rfl
 |e::l,p=>by
  rw[pW,jl,<-N5,On l (p++[e])];rfl
def HF{n:Nat}:∀{l:bH} {a:bM},b9 n a->JC n l->b9 n (ll n a l)/\(ll n a l).length+((ln n a l).filter id).length=a.length
 |[],a,h,_=>⟨h,by simp[ll,ln]⟩
 |e::l,a,h,d=>by
  have f:=d e (by simp);have g:=JL h f.1 f.2;have i:=HF (l:=l) g.1 λx j=>d x (by simp[j]);rw[ll,ln];refine⟨i.1,?_⟩;have k:=i.2;have b:=g.2.2;rw[ar1];simp only[id];by_cases c:(vC a e.1 !=vC a e.2)=true
  ·rw[apR c]at b⊢
   simp only[aqf];omega
  ·rw[apQ c]at b⊢
   omega
def b9.tr(c:Fu+7<=a)(h:b9 n e):rF a ((n:Int),e)=some true:=by
 obtain⟨k,i⟩:=h.small;have j:=h.hi;obtain⟨b,d,f⟩:=tF c (n:Int) (rs:=e) (by omega) (λr g=>by have:=i r g;omega);rw[d,f.2 ⟨by omega,by rw[ap2];exact h⟩]
def Bg(N:Nat)(g:Fu+3<=N)(v:Int){a:bM}(j:a.length<=9223372036854775807)(f:∀r∈a,r.length<=9223372036854775807):∀(m i:Nat),a.length - i<m->i<=a.length->
 B5 N m (a,(a.length:Int),(i:Int),v)=some (if kZ (a.drop i) v<(a.drop i).length then .inr (((i+kZ (a.drop i) v:Nat):Int),v)else .inl v)
 |0,i,h,_=>absurd h (by omega)
 |m+1,i,l,k=>by
  rw[Xr,cd];by_cases q:i<a.length
  ·rw[apR (by omega)]
   obtain⟨r,b⟩:=get_at (xs:=a) (i:=i) q;obtain⟨d,rfl⟩:∃M,N=M+1:=⟨N - 1,by omega⟩;rw[bd b,ob,aa7,has_eq d (by omega) r v (f r (ap_ b)),ob,ob,de b,cE (by omega),Bg (d+1) g v j f m (i+1) (by omega) (by omega),kZ];simp only[cd];by_cases c:v∈r
   ·rw[apR c,apR c,apR (by simp)];rfl
   ·rw[apQ c,apQ c]
    simp only[aqf];by_cases e:kZ (a.drop (i+1)) v<(a.drop (i+1)).length
    ·rw[apR e,apR (by omega)]
     congr 4;omega
    ·rw[apQ e,apQ (by omega)]
  ·rw[apQ (by omega),aqP (by omega)];rfl
def zZ{N:Nat}(a:Fu+5<=N)(f v:Int){rs:bM}(b:rs.length<=9223372036854775807)(d:∀r∈rs,r.length<=9223372036854775807):zH N (f,rs,v)=some (QU rs v):=by
 obtain⟨N,rfl⟩:∃M,N=M+2:=⟨N - 2,by omega⟩;have:=Bg N (by omega) v b d N 0 (by rw[bQ]at a;omega) (by omega);rw[show((0:Nat):Int)=(0:Int)from rfl,aqG]at this;rw[Xs,aa9,this,ob];unfold QU;by_cases c:kZ rs v<rs.length
 ·rw[apR c,apR c,aqq];rfl
 ·rw[apQ c,apQ c];rfl
def ady(g:Fu+8<=a)(h:b9 n e)(f:c<n):Eo a ((n:Int),e,(c:Int))=some (kZ e (c:Int):Int):=by
 obtain⟨a,rfl⟩:∃M,a=M+1:=⟨a - 1,by omega⟩;obtain⟨k,d⟩:=h.small;have j:=h.lo;have i:=h.hi;rw[X6,Od (by omega),ob,h.tr (by omega),aqk (show((1:Int)<=(n:Int)/\(n:Int)<=64)/\0<=(c:Int)/\(c:Int)<(n:Int) by omega)];simp only[ob,ap9,apW];rw[zZ (by omega) _ _ (by omega) (λr b=>by have:=d r b;omega),ob,h.QU f]
def HG(N:Nat)(g:1<=N)(n:Int)(a:bM){s:aX}(k:s.length<=9223372036854775807):∀(m i:Nat),s.length - i<m->i<=s.length->
 ∃o,B3 N m (s,(s.length:Int),(i:Int),n,a)=some o/\((o=.inl (n,a)/\∀v∈s.drop i,0<=v/\v<n)\/∃j:Nat,o=.inr ((j:Int),n,a)/\¬∀v∈s.drop i,0<=v/\v<n)
 |0,i,h,_=>absurd h (by omega)
 |m+1,i,r,p=>by
  rw[Xp,cd];by_cases q:i<s.length
  ·rw[apR (by omega)]
   obtain⟨v,e⟩:=get_at (xs:=s) (i:=i) q;obtain⟨d,rfl⟩:∃M,N=M+1:=⟨N - 1,by omega⟩;have f:S7 (d+1) (v,n,a)=some (decide (v<0\/n<=v),n,a):=by
    rw[aaY,cd];by_cases c:v<0
    ·rw[apR c];simp[c]
    ·rw[apQ c];simp[c]
   rw[bd e,ob,f,ob,de e,cE (by omega)];simp only[cd];by_cases c:v<0\/n<=v
   ·rw[apR c]
    exact⟨_,rfl,.inr ⟨i,rfl,λh=>by have:=h v (by simp);omega⟩⟩
   ·rw[apQ c]
    obtain⟨o,l,b⟩:=HG (d+1) g n a k m (i+1) (by omega) (by omega);refine⟨o,l,?_⟩;simp only[as9];rcases b with⟨rfl,b⟩|⟨j,rfl,b⟩
    ·exact .inl ⟨rfl,by omega,b⟩
    ·exact .inr ⟨j,rfl,λh=>b h.2⟩
  ·rw[apQ (by omega),aqP (by omega)]
   exact⟨_,rfl,.inl ⟨rfl,by simp⟩⟩
def z1{N:Nat}(c:Fu+8<=N)(h:b9 n e)(s:aX)(d:s.length<=9223372036854775807):GG N ((n:Int),e,s)=some (if∀v∈s,0<=v/\v<(n:Int)then 0 else 10):=by
 obtain⟨N,rfl⟩:∃M,N=M+3:=⟨N - 3,by omega⟩;obtain⟨o,b,a⟩:=HG N (by omega) (n:Int) e d N 0 (by rw[bQ]at c;omega) (by omega);rw[show((0:Nat):Int)=(0:Int)from rfl]at b;rw[aqG]at a;rw[aa2,h.tr (by omega),ob];simp only[ap9,apW];rw[afZ,aa0,b,ob];rcases a with⟨rfl,a⟩|⟨j,rfl,a⟩
 ·rw[apR a];rfl
 ·rw[apQ a]
  simp[ob]
def HH(k:Fu+9<=a)(h:b9 n e)(d:c<n):Nu a ((n:Int),e,(c:Int))=some ((vC e c:Int),0):=by
 obtain⟨a,rfl⟩:∃M,a=M+1:=⟨a - 1,by omega⟩;have b:=h.ring d;have g:=h.body _ b.2.2.1;have j:ba (dQ e c) (0:Int)=some (jQ (dQ e c)):=bd (i:=0) (yF g.1);rw[aco,z1 (by omega) h _ (by simp),ob,apR (by intro w f;simp only[aqe]at f;subst f;omega),y6 rfl,ady (by omega) h d,ob,bd b.1,ob,j,ob,(h.lv d b.2.2.1 b.2.1).1]
def JM(a:bM)(l:bH):bH:=l.map λe=>(vC a e.1,vC a e.2)
def ajO(h:b9 n e){l:bH}(b:JC n l):JC n (JM e l):=λa c=>by
 obtain⟨x,d,rfl⟩:=ap4.1 c;have:=b x d;exact⟨h.ahM this.1,h.ahM this.2⟩
def uX(N:Nat)(f:Fu+9<=N){n:Nat}{b:bM}(h:b9 n b){l:bH}(d:JC n l)(g:l.length<=100000):∀(m i:Nat) (a:bh),l.length - i<m->i<=l.length->a.length<=i->
 Co N m (l.map VI,(l.length:Int),(i:Int),(n:Int),b,a)=some (a++(JM b (l.drop i)).map VI)
 |0,i,a,h,_,_=>absurd h (by omega)
 |m+1,i,a,o,k,p=>by
  rw[X7,cd];by_cases q:i<l.length
  ·rw[apR (by omega)]
   obtain⟨x,c⟩:=get_at (xs:=l) (i:=i) q;have e:=d x (ap_ c);have j:(l.map VI)[i]? =some (VI x):=by rw[aqd,c];rfl
   rw[bd j,ob];simp only[VI];rw[HH (by omega) h e.1,ob,HH (by omega) h e.2,ob,cO (by omega) (by simp;omega),ob,cE (by omega)];have:=uX N f h d g m (i+1) (a++[((vC b x.1:Int),(vC b x.2:Int))]) (by omega) (by omega) (by simp;omega);rw[this,de c];simp[JM,VI]
  ·rw[apQ (by omega),aqP (by omega)]
   simp[JM]
def JN(d:Fu+10<=a)(h:b9 n e)(l:bh)(f:l.length<=100000):
 UX a ((n:Int),e,l)=some (tV (n:Int) l,if tV (n:Int) l=0 then(JM e (l.map se)).map VI else []):=by
 obtain⟨a,rfl⟩:∃M,a=M+1:=⟨a - 1,by omega⟩;have j:=h.lo;have i:=h.hi;rw[acp,h.tr (by omega),ob];simp only[ap9,apW];rw[N8 (by omega) _ l (by omega),ob,FX];rcases vA (n:Int) l with⟨k,g⟩|⟨k,_⟩|⟨k,g,c⟩
 ·omega
 ·rw[k];rfl
 ·rw[k,apR rfl,apR rfl]
  have b:=yz (n:=(n:Int)) (by omega) c;rw[ap2]at b;have:=uX a (by omega) h b (by simpa using f) a 0 [] (by rw[bQ]at d;simp;omega) (by omega) (by simp);rw[<-VJ c,show((0:Nat):Int)=(0:Int)from rfl,ap1]at this;rw[this,ob];rfl
def QV(p:Fu+11<=a)(h:b9 n e)(l:bh)(j:l.length<=100000):
 Jm a ((n:Int),e,l)=some (tV (n:Int) l,if tV (n:Int) l=0 then ln n e (l.map se)else []):=by
 obtain⟨a,rfl⟩:∃M,a=M+1:=⟨a - 1,by omega⟩;have r:=h.lo;have q:=h.hi;rw[Ya,JN (by omega) h l j,ob,FX];rcases vA (n:Int) l with⟨k,m⟩|⟨k,_⟩|⟨k,m,o⟩
 ·omega
 ·rw[k];rfl
 ·rw[k,apR rfl]
  simp only[aqs];have b:=yz (n:=(n:Int)) (by omega) o;rw[ap2]at b;obtain⟨s,d,f⟩:=N6 (N:=a) (by omega) (n:=n) (by omega);obtain⟨t,g,_⟩:=N7 (N:=a) (by omega) (n:=n) (by omega) (l:=JM e (l.map se)) (by simp[JM];omega) (ajO h b) f;rw[d,ob,g,ob];have i:ln n e (l.map se)=jl [] (JM e (l.map se)):=by
   rw[Om h b (c:=λx=>(λy=>y) (vC e x)) (λx _=>rfl),ET (λy=>y) (vC e)];exact On (JM e (l.map se)) []
  rw[i]
def VU(a:1<=n)(b:n<=64)(l:bh):tV (n:Int) l=if∀e∈l,lM (n:Int) e then 0 else 10:=by
 unfold tV;rw[apQ (by omega)]
def im(n:Nat):bM:=(List.range n).map λv:Nat=>[(v:Int)]
def uY(e:1<=n)(f:n<=64):b9 n (im n):=by
 have c:qx n (im n)=(List.range n).map λv:Nat=>(v:Int):=by
  unfold qx im;rw[List.flatMap_map];have:∀(l:aZ),(∀x∈l,x<n)->(l.flatMap λa:Nat=>vt n [(a:Int)])=l.map λv:Nat=>(v:Int):=λl=>by
   induction l with
   |nil=>intro _;rfl
   |cons a l k=>
    intro h;rw[aqr,k λx d=>h x (by simp[d]),yG,apR (by have:=h a (by simp);omega)];simp[vt]
  exact this _ λx d=>aqR.1 d
 refine b9.of e f (λr g=>?_) ?_ ?_ ?_
 ·obtain⟨v,c,rfl⟩:=ap4.1 g
  have c:=aqR.1 c;refine⟨by simp,⟨by simp,λt i=>?_,by simp⟩,rfl,[(v,v)],by simp[ia c],by simp,⟨v,by simp[Clo,run,jV]⟩,by simp,by simp[si,eV]⟩;simp only[aqe]at i;omega
 ·unfold im
  refine List.Pairwise.map _ ?_ List.pairwise_lt_range;intro a b h;simp only[jQ,aro];omega
 ·rw[c];exact Bd n
 ·intro v j
  rw[c];exact ap4.2 ⟨v,aqR.2 j,rfl⟩
structure Iv(n:Nat)(l:bH)(out:aX):Prop where
 len:out.length=n
 at_:∀i,i<n->∃w:Nat,out[i]? =some (w:Int)/\w<=i
 uni:∀f:Nat->Nat,(∀e∈l,f e.1=f e.2)->∀v,v<n->f (par out v)=f v
def Iv.get{l:bH}(h:Iv n l b)(e:a<n):b[a]? =some ((par b a:Nat):Int)/\par b a<=a:=by
 obtain⟨w,c,d⟩:=h.at_ a e;have:par b a=w:=by unfold par;simp[ari,c]
 rw[this];exact⟨c,d⟩
def Bh(N:Nat)(f:Fu+1<=N)(l a:aX)(g:l.length<=9223372036854775807)(j:a.length<=1000):∀(k i m:Nat) (b:aX),i+k=a.length->k<m->b.length<=i->
 B6 N m (l,a,((a.length:Nat):Int),(i:Int),b)=some (b++(a.drop i).map (ixI l))
 |k,i,0,b,c,d,e=>by omega
 |0,i,m+1,b,c,d,e=>by
  rw[GJ,dX (by omega),aqP (by omega)];simp
 |k+1,i,m+1,b,c,d,e=>by
  obtain⟨x,h⟩:=get_at (xs:=a) (i:=i) (by omega);rw[GJ,eh (by omega),bd h,ob,EF N f l x g,ob,cO (by omega) (by simp;omega),ob,cE (by omega),Bh N f l a g j k (i+1) m _ (by omega) (by omega) (by simp;omega),de h];simp
def Yw(N:Nat)(g:Fu+4<=N)(l a:aX)(d:l.length<=9223372036854775807)(b:a.length<=1000):Tl N (l,a)=some (if e8 l then(decide (∀t∈a,t∈l),a.map (ixI l))else(false,[])):=by
 obtain⟨N,rfl⟩:∃n,N=n+1:=⟨N - 1,by omega⟩;have h:=Bh N (by omega) l a d b a.length 0 N [] (by omega) (by have:=bQ;omega) (by simp);rw[aqG,aqC]at h;rw[aba,Jy N (by omega) l d,ob];by_cases c:e8 l
 ·rw[apR c,aqk c,ap9,apW,show((0:Int)=((0:Nat):Int))from rfl,h,ob,has_eq N (by omega) _ _ (by simp;omega),ob]
  congr 2;rw[<-decide_not];refine arq.2 ?_;rw[ap4];constructor
  ·intro h t b
   refine Decidable.by_contra λf=>h ⟨t,b,JB f⟩
  ·rintro h ⟨t,b,e⟩
   have:=Cx (h t b);omega
 ·rw[apQ c,aqn c];rfl
def Yx(N:Nat)(k:Fu+2<=N)(a b:aX)(l:a.length<=100000)(m:b.length<=100000):GK N [a,b]=some (a++b):=by
 obtain⟨N,rfl⟩:∃n,N=n+2:=⟨N - 2,by omega⟩;obtain⟨K,d⟩:∃K,N+1=K+3:=⟨N - 2,by have:=bQ;omega⟩;have e:ba ([a,b]:bM) (0:Int)=some a:=rfl;have f:ba ([a,b]:bM) (1:Int)=some b:=rfl;have g:wrap .i64 ((0:Int)+1)=1:=gT (by omega) (by omega);have h:wrap .i64 ((1:Int)+1)=2:=gT (by omega) (by omega);have i:ti (N+1) (N+1) ([a,b],0,[a,b],((([a,b]:bM).length:Nat):Int),0)=some ([a,b],(a.length:Int)+(b.length:Int)):=by
  have:∀M,ti M (K+3) ([a,b],0,[a,b],((([a,b]:bM).length:Nat):Int),0)=some ([a,b],(a.length:Int)+(b.length:Int)):=λM=>by
   rw[tk,eh (by simp),e,ob,cd,gT (x:=(0:Int)+((a.length:Nat):Int)) (by omega) (by omega),apQ (by omega),g,tk,eh (by simp),f,ob,cd,gT (x:=(0:Int)+((a.length:Nat):Int)+((b.length:Nat):Int)) (by omega) (by omega),apQ (by omega),h,tk,dX (by simp)];congr 2;omega
  have c:=this (N+1);rwa[<-d]at c
 have j:th (N+1) (N+1) ([a,b],((([a,b]:bM).length:Nat):Int),0,[])=some (a++b):=by
  have:∀M,th M (K+3) ([a,b],((([a,b]:bM).length:Nat):Int),0,[])=some (a++b):=λM=>by
   rw[tj,eh (by simp),e,ob,cO (by omega) (by simp;omega),ob,g,tj,eh (by simp),f,ob,cO (by omega) (by simp;omega),ob,h,tj,dX (by simp)];simp
  have c:=this (N+1);rwa[<-d]at c
 rw[L7,i,ob];simp only;rw[eY,aqk ⟨by omega,by omega⟩,aqh,ob,j,ob]
def HI(N:Nat)(a:Fu+3<=N)(l:aX)(p:Nat)(c:p<=l.length)(b:l.length<=1000):L8 N (l,(p:Int))=some (BG l p):=by
 obtain⟨N,rfl⟩:∃n,N=n+1:=⟨N - 1,by omega⟩;rw[abb,sa (by omega) (by omega),ob,r_ (by omega) (by omega),ob,ap2,Yx N (by omega) _ _ (by simp;omega) (by simp;omega),ob];rfl
def VV(N:Nat)(f:Fu+5<=N)(l:aX)(x:Int)(b:l.length<=9223372036854775807):DL N (l,x)=some (JA l x):=by
 obtain⟨N,rfl⟩:∃n,N=n+1:=⟨N - 1,by omega⟩;rw[Xt,Yw N (by omega) l [x] b (by simp),ob,JA];by_cases c:e8 l
 ·rw[apR c]
  by_cases a:x∈l
  ·have:=adg a
   rw[apR ⟨c,a⟩];have e:(decide (∀t∈[x],t∈l),[x].map (ixI l))=(true,[(ix l x:Int)]):=by simp[a,Cx a]
   rw[e];have d:ba [(ix l x:Int)] (0:Int)=some (ix l x:Int):=rfl;simp only[ap9,apW,d,ob];rw[HI N (by omega) l _ (by omega) c.1];rfl
  ·have e:(decide (∀t∈[x],t∈l),[x].map (ixI l))=(false,[(-1:Int)]):=by simp[a,JB a]
   rw[e,apQ (λh=>a h.2)];rfl
 ·rw[apQ c,apQ (λh=>c h.1)];rfl
def adz(N:Nat)(e:Fu+5<=N)(l:aX)(d:l.length<=9223372036854775807):IX N l=some (dg l):=by
 obtain⟨N,rfl⟩:∃n,N=n+1:=⟨N - 1,by omega⟩;rw[Xv,Jy N (by omega) l d,ob,FX,dg];by_cases c:e8 l
 ·rw[apR c,cd]
  by_cases a:l=[]
  ·subst a;simp
  ·have f:=arD.2 a
   have b:=(mZ a).1;have:=adg b;rw[apQ (by omega),apR ⟨c,a⟩,min_eq N (by omega) l c.1 a,ob,EF N (by omega) l _ d,ob,Cx b,HI N (by omega) l _ (by omega) c.1,ob];rfl
 ·rw[apQ c,apQ (λh=>c h.1)]
section
open Go Go.RowKit Go.Sort
def lp{σ β:Type}{F:Nat->Nat->σ->Option β}{n:Nat}{I:Nat->σ->Prop}{Q:β->Prop}(g:∀m i s,i<n->I i s->(∃d,I (i+1) d/\F (m+1) i s=F m (i+1) d)\/∃b,F (m+1) i s=some b/\Q b)
 (f:∀m s,I n s->∃b,F (m+1) n s=some b/\Q b):∀{m i:Nat} {s:σ},n - i<m->i<=n->I i s->∃b,F m i s=some b/\Q b
 |0,i,s,h,_,_=>absurd h (by omega)
 |m+1,i,s,h,k,e=>by
  by_cases c:i<n
  ·rcases g m i s c e with⟨d,a,j⟩|a
   ·rw[j];exact lp g f (by omega) (by omega) a
   ·exact a
  ·obtain rfl:i=n:=by omega
   exact f m s e
def lpv{σ β:Type}{F:Nat->Nat->σ->Option β}{n:Nat}{I:Nat->σ->Prop}{b:β}(k:∀m i s,i<n->I i s->∃c,I (i+1) c/\F (m+1) i s=F m (i+1) c)(g:∀m s,I n s->F (m+1) n s=some b)
 {m i:Nat} {s:σ} (d:n - i<m) (e:i<=n) (f:I i s):F m i s=some b:=by
 obtain⟨l,h,rfl⟩:=lp (Q:=λx=>x=b) (λm i s j a=>.inl (k m i s j a)) (λm s a=>⟨_,g m s a,rfl⟩) d e f;exact h
def VW(g:3<=a)(b:n<=64)(h:c<n)(i:y<n)(d:c≠y):DO a ((n:Int),(c:Int),(y:Int))=some (ek n (c,y)):=by
 obtain⟨a,rfl⟩:∃M,a=M+1:=⟨a - 1,by omega⟩;have f:n*(c+1)<=64*64:=arp b (by omega);have e:(n:Int)*((c:Int)+1)=((n*(c+1):Nat):Int):=by rw[arM];rfl
 rw[Xu,dX (by omega),Od (by omega),ob,Od (by omega),aqk (show((1:Int)<=(n:Int)/\(n:Int)<=64)/\0<=(c:Int)/\(c:Int)<(n:Int) by omega),aqk (show((1:Int)<=(n:Int)/\(n:Int)<=64)/\0<=(y:Int)/\(y:Int)<(n:Int) by omega)];simp only[ob,ap9,apW];rw[show wrap .i64 ((c:Int)+1)=(c:Int)+1 from gT (by omega) (by omega),e,show wrap .i64 (((n*(c+1):Nat):Int))=((n*(c+1):Nat):Int)from gT (by omega) (by omega),gT (by omega) (by omega)];unfold ek;simp only[d,aqN];congr 1
def wo{α:Type}(i j:Nat):Nat->List α->List α
 |_,[]=>[]
 |k,x::l=>if k=i\/k=j then wo i j (k+1) l else x::wo i j (k+1) l
def VX{α:Type}{i j:Nat}:∀(l:List α) (k:Nat),i<k->j<k->wo i j k l=l
 |[],_,_,_=>rfl
 |x::l,k,a,b=>by rw[wo,apQ (by omega),VX l (k+1) (by omega) (by omega)]
def VY{α:Type}(i j:Nat):∀(l:List α) (k:Nat),wo i j k l=wo j i k l
 |[],_=>rfl
 |x::l,k=>by
  rw[wo,wo,VY i j l (k+1)];by_cases c:k=i\/k=j
  ·rw[apR c,apR c.symm]
  ·rw[apQ c,apQ λh=>c h.symm]
def adA{α:Type}{i j:Nat}{b:α}:∀(l:List α) (k:Nat),i<k->k<=j->l[j - k]? =some b->l.Perm (b::wo i j k l)
 |[],k,_,_,h=>by simp at h
 |x::l,k,d,e,h=>by
  rw[wo];by_cases c:k=j
  ·rw[show j - k=0 by omega]at h
   have a:x=b:=by simpa using h
   rw[apR (.inr c),VX l _ (by omega) (by omega),a]
  ·rw[apQ (by omega)]
   rw[show j - k=(j - (k+1))+1 by omega,arF]at h;exact((adA l (k+1) (by omega) (by omega) h).cons x).trans (List.Perm.swap _ _ _)
def JO{α:Type}{i j:Nat}{a b:α}(e:i<j):∀(l:List α) (k:Nat),k<=i->l[i - k]? =some a->l[j - k]? =some b->l.Perm (a::b::wo i j k l)
 |[],k,_,h,_=>by simp at h
 |x::l,k,g,h,d=>by
  rw[wo];rw[show j - k=(j - (k+1))+1 by omega,arF]at d;by_cases c:k=i
  ·rw[show i - k=0 by omega]at h
   have f:x=a:=by simpa using h
   rw[apR (.inl c),f];exact(adA l (k+1) (by omega) (by omega) d).cons a
  ·rw[apQ (by omega)]
   rw[show i - k=(i - (k+1))+1 by omega,arF]at h;exact((JO e l (k+1) (by omega) h d).cons x).trans ((List.Perm.swap _ _ _).trans ((List.Perm.swap _ _ _).cons a))
def agr(f:e[a]? =some b)(g:e[n]? =some o)(i:a≠n):(wo a n 0 e).Perm (HE e a n):=by
 have h:=vE f g i;rcases aso a n with c|c
 ·have d:=JO c e 0 (by omega) f g
  exact((d.symm.trans h).cons_inv).cons_inv
 ·have d:=JO (show n<a by omega) e 0 (by omega) g f
  rw[VY]at d;exact((d.symm.trans (h.trans (List.Perm.swap _ _ _))).cons_inv).cons_inv
def adB{α:Type}(i j:Nat):∀(l:List α) (k:Nat),(wo i j k l).length<=l.length
 |[],_=>by simp[wo]
 |x::l,k=>by
  have:=adB i j l (k+1);rw[wo];split
  ·simp only[aqf];omega
  ·simp only[aqf];omega
def ags{N:Nat}(u:Fu+8<=N)(f:Int){rs:bM}(J:rs.length<=1000)(D:e8 b)(s:e.Perm (wo a c 0 rs++[dg b]))(z:e.Pairwise λg i=>jQ g<jQ i)(A:∀r∈e,r≠[]):
 IY N (f,rs,[(a:Int),(c:Int)],[b])=some (f,e):=by
 obtain⟨N,rfl⟩:∃M,N=M+1:=⟨N - 1,by omega⟩;have K:=adB a c rs 0;have t:ox N N ([(a:Int),(c:Int)],[b],rs,((rs.length:Nat):Int),(((0:Nat):Int),(f,(rs,(0,[])))))=some ([b],f,rs,0,wo a c 0 rs):=by
  refine lpv (F:=λm k (j:bM)=>ox N m ([(a:Int),(c:Int)],[b],rs,((rs.length:Nat):Int),((k:Int),(f,(rs,(0,j)))))) (n:=rs.length) (I:=λk j=>j++wo a c k (rs.drop k)=wo a c 0 rs/\j.length<=k) (λm k j E q=>?_) (λm j q=>?_) (by rw[bQ]at u;omega) (by omega) ⟨by simp,by simp⟩
  ·obtain⟨x,p⟩:=get_at (xs:=rs) (i:=k) E
   have o:=q.1;rw[de p,wo]at o;by_cases d:k=a\/k=c
   ·rw[apR d]at o
    refine⟨j,⟨o,by omega⟩,?_⟩;rw[vv,eh (by omega),bd p,ob,has_eq N (by omega) _ _ (by simp),ob,aqk (by simp;omega),cE (by omega)];rfl
   ·rw[apQ d]at o
    refine⟨j++[x],⟨by rw[aqm];exact o,by rw[aqb];simp;omega⟩,?_⟩;rw[vv,eh (by omega),bd p,ob,has_eq N (by omega) _ _ (by simp),ob,aqn (by simp;omega),cO (by omega) (by simp;omega),cE (by omega)];rfl
  ·have:=q.1
   rw[aqP (apT _),wo,aqy]at this;rw[vv,dX (by omega),this]
 obtain⟨M,rfl⟩:∃M,N=M+2:=⟨N - 2,by rw[bQ]at u;omega⟩;have H:=D.1;rw[Xw];rw[show((0:Nat):Int)=(0:Int)from rfl]at t;rw[t,ob];have B:wY (M+2) (M+2) ([b],((([b].length:Nat):Int),((0:Int),(f,(rs,((0:Int),wo a c 0 rs))))))=some (f,rs,0,wo a c 0 rs++[dg b]):=by
  rw[show M+2=(M+1)+1 from rfl,DP,eh (by simp),show ba [b] (0:Int)=some b from rfl,ob,adz _ (by omega) _ (by omega),ob,cO (by omega) (by simp;omega),ob,gT (by omega) (by omega),DP,dX (by simp)]
 rw[B,ob];have w:∀x y:aX,ltOf IN x y=decide (jQ x<jQ y):=λx y=>arq.2 wG;have C:bw (M+2) (wo a c 0 rs++[dg b])=some e:=by
  have v:jD (ltOf IN) (wo a c 0 rs++[dg b]):=jD.perm (l:=e) (z.imp λh=>.inl (by rw[w];exact aqk h)) s;have G:=vq alf s v (z.imp λ{x y} h=>by rw[w];exact aqn (by omega));unfold bw IL;rw[apR λx p=>A x (s.mem_iff.2 p),apR ⟨v,by simp;omega⟩,G]
 simp only[C,ob]
def QW(N:Nat)(r:Fu+2<=N)(a b c d e:aX)(h:a.length+b.length+c.length+d.length+e.length<=100000):GK N [a,b,c,d,e]=some (a++b++c++d++e):=by
 obtain⟨M,rfl⟩:∃M,N=M+7:=⟨N - 7,by rw[bQ]at r;omega⟩;have w:∀x:Int,0<=x->x<=1000000->wrap .i64 x=x:=λx p q=>gT (by omega) (by omega);have s:∀f g i j k:aX,ba [f,g,i,j,k] (0:Int)=some f/\ba [f,g,i,j,k] (1:Int)=some g/\ba [f,g,i,j,k] (2:Int)=some i/\ba [f,g,i,j,k] (3:Int)=some j/\ba [f,g,i,j,k] (4:Int)=some k:=λ_ _ _ _ _=>⟨rfl,rfl,rfl,rfl,rfl⟩;obtain⟨e0,l,m,n,o⟩:=s a b c d e;have p:ti (M+6) (M+6) ([a,b,c,d,e],0,[a,b,c,d,e],((([a,b,c,d,e].length:Nat):Int),(0:Int)))=some ([a,b,c,d,e],((a.length+b.length+c.length+d.length+e.length:Nat):Int)):=by
  simp only[tk,cd,aqf,aqI];rw[apR (by decide),e0,ob,w _ (by omega) (by omega),apQ (by omega),show wrap .i64 ((0:Int)+1)=1 by decide,apR (by decide),l,ob,w _ (by omega) (by omega),apQ (by omega),show wrap .i64 ((1:Int)+1)=2 by decide,apR (by decide),m,ob,w _ (by omega) (by omega),apQ (by omega),show wrap .i64 ((2:Int)+1)=3 by decide,apR (by decide),n,ob,w _ (by omega) (by omega),apQ (by omega),show wrap .i64 ((3:Int)+1)=4 by decide,apR (by decide),o,ob,w _ (by omega) (by omega),apQ (by omega),show wrap .i64 ((4:Int)+1)=5 by decide,apQ (by decide)];congr 2;omega
 have q:th (M+6) (M+6) ([a,b,c,d,e],((([a,b,c,d,e].length:Nat):Int),((0:Int),([]:aX))))=some (a++b++c++d++e):=by
  simp only[tj,cd,aqf,aqI];rw[apR (by decide),e0,ob,cO (by omega) (by simp;omega),ob,show wrap .i64 ((0:Int)+1)=1 by decide,apR (by decide),l,ob,cO (by omega) (by simp;omega),ob,show wrap .i64 ((1:Int)+1)=2 by decide,apR (by decide),m,ob,cO (by omega) (by simp;omega),ob,show wrap .i64 ((2:Int)+1)=3 by decide,apR (by decide),n,ob,cO (by omega) (by simp;omega),ob,show wrap .i64 ((3:Int)+1)=4 by decide,apR (by decide),o,ob,cO (by omega) (by simp;omega),ob,show wrap .i64 ((4:Int)+1)=5 by decide,apQ (by decide)];simp
 rw[show M+7=(M+6)+1 from rfl,L7,p,ob];unfold eY;rw[aqk (by simp only;omega)];simp only[aqh,ob];rw[q,ob]
def adC(b:2<=a)(d:1<=n)(e:n<=64)(f:c<n):nF a ((n:Int),(c:Int))=some true:=by
 rw[Od b,aqk (show((1:Int)<=(n:Int)/\(n:Int)<=64)/\0<=(c:Int)/\(c:Int)<(n:Int) by omega)]
def adD{N:Nat}(P:Fu+9<=N)(h:b9 n e)(d:a<n)(f:c<n):
 IZ N ((n:Int),e,(a:Int),(c:Int))=some (if kZ e (a:Int)=kZ e (c:Int)then(5,(n:Int),e)else(0,(n:Int),oK n e a c)):=by
 obtain⟨N,rfl⟩:∃M,N=M+2:=⟨N - 2,by omega⟩;have q:=h.lo;have k:=h.hi;obtain⟨U,w⟩:=h.small;have F:IW (N+1) ((n:Int),e,(a:Int),(c:Int))=some 0:=by
  rw[Xq,h.tr (by omega),ob];simp only[ap9,apW];rw[adC (by omega) q k d,ob];simp only[ap9,apW];rw[adC (by omega) q k f,ob];rfl
 have u:=zZ (N:=N+1) (by omega) (n:Int) (a:Int) (rs:=e) (by omega) (λr l=>by have:=w r l;omega);have v:=zZ (N:=N+1) (by omega) (n:Int) (c:Int) (rs:=e) (by omega) (λr l=>by have:=w r l;omega);rw[h.QU d]at u;rw[h.QU f]at v;rw[Xx,F,ob];simp only[aq0,ap9,apW];simp only[u,v,ob,cd];by_cases i:kZ e (a:Int)=kZ e (c:Int)
 ·rw[apR (by omega),apR i]
 rw[apQ (by omega),apQ i];have g:=h.ring d;have j:=h.ring f;have m:=h.body _ g.2.2.1;have o:=h.body _ j.2.2.1;have y:a≠c:=λb=>i (by rw[b]);have Q:=m.2.1.1;have S:=o.2.1.1;have t:=vE g.1 j.1 i;have p:=(yJ (n:=n) t).nodup_iff.1 h.nd;have E:=(VO h.rg h.nd).1 h.all;have I:(vt n (dQ e a)).length+(vt n (dQ e c)).length<=n:=by
  have:=(yJ (n:=n) t).length_eq;unfold qx at this E;rw[aqr,aqr,aqb,aqb]at this;omega
 have H:∀x∈vt n (dQ e a),x∉vt n (dQ e c):=λx L O=>by
  unfold qx at p;rw[aqr,aqr]at p;exact(aqL.1 p).2.2 x L x (by simp[O]) rfl
 have D:=ER k d f m o g.2.1 j.2.1 H I;have B:JA (dQ e a) (a:Int)=(true,ef (dQ e a) (a:Int)):=apR ⟨m.2.1,g.2.1⟩;have C:JA (dQ e c) (c:Int)=(true,ef (dQ e c) (c:Int)):=apR ⟨o.2.1,j.2.1⟩;have V:=Hz (dQ e a) (a:Int);have W:=Hz (dQ e c) (c:Int);have R:=arD.2 m.1;rw[bd g.1,ob,VV (N+1) (by omega) _ _ (by omega),ob,bd j.1,ob,VV (N+1) (by omega) _ _ (by omega),ob,B,C];simp only;have G:=mq g.2.1;have z:(ef (dQ e a) (a:Int)).take (Int.toNat 1)=[(a:Int)]:=by rw[G];rfl
 rw[r_ (by omega) (by omega),ob,VW (by omega) k d f y,ob,VW (by omega) k f d (λb=>y b.symm),ob,sa (by omega) (by omega),ob,z,QW (N+1) (by omega) _ _ _ _ _ (by simp;omega),ob];have A:[(a:Int)]++[ek n (a,c)]++ef (dQ e c) (c:Int)++[ek n (c,a)]++(ef (dQ e a) (a:Int)).drop (Int.toNat 1)=oJ n a c (dQ e a) (dQ e c):=rfl;have s:=(VT h d f i).1;have J:(oK n e a c).Perm (wo (kZ e (a:Int)) (kZ e (c:Int)) 0 e++[dg (oJ n a c (dQ e a) (dQ e c))]):=by
  refine(tG _ _).trans ?_;refine((agr g.1 j.1 i).symm.cons _).trans ?_;exact as6 (l₁:=[_])
 have K:=ags (N:=N+1) (by omega) (n:Int) (rs:=e) (by omega) D J s.VP (λr l=>(s.body r l).1);rw[A,K,ob]
end
section
open Go Go.RowKit Go.Sort
def agt(h:Fu+2<=a)(l:bh)(o:l.length<=100000):SM a l=some (l.flatMap λe=>[e.1,e.2]):=by
 obtain⟨a,rfl⟩:∃M,a=M+1:=⟨a - 1,by omega⟩;have:=lpv (F:=λm k (c:aX)=>BZ a m (l,((l.length:Nat):Int),(k:Int),c)) (n:=l.length) (b:=l.flatMap λe=>[e.1,e.2]) (I:=λk c=>c++(l.drop k).flatMap (λe=>[e.1,e.2])=l.flatMap (λe=>[e.1,e.2])/\c.length<=2*k) (λm k c j f=>by
  obtain⟨x,g⟩:=get_at (xs:=l) (i:=k) j;have d:=f.1;rw[de g,aqr,<-aqm]at d;refine⟨_,⟨d,by simp;omega⟩,?_⟩;rw[Gy,eh (by omega),bd g,ob,cO (by omega) (by simp;omega),ob,cE (by omega)]) (λm c f=>by
  have d:=f.1;rw[aqP (apT _),aty,aqy]at d;rw[Gy,dX (by omega),d]) (m:=a) (i:=0) (s:=[]) (by rw[bQ]at h;omega) (by omega) ⟨by simp,by simp⟩
 rw[aaQ];rw[show((0:Nat):Int)=(0:Int)from rfl]at this;rw[this,ob]
def adE{N:Nat}(C:Fu+12<=N)(h:b9 n e)(w:m.length<=100000)(l:∀a∈m,lM (n:Int) a):
 ∃j,Tw N ((n:Int),e,m)=some (0,(n:Int),ll n e (m.map se),j):=by
 obtain⟨N,rfl⟩:∃M,N=M+2:=⟨N - 2,by omega⟩;have B:JC n (m.map se):=yz (n:=(n:Int)) (by omega) l;have y:=z1 (N:=N) (by omega) h (m.flatMap λa=>[a.1,a.2]) (by
  have:(m.flatMap λa=>[a.1,a.2]).length=m.length*2:=by
   clear l B w
   induction m with
   |nil=>rfl
   |cons x m J=>simp only[aqr,aqb,J,aqf,aqI];omega
  omega)
 rw[apR (λv g=>by
  obtain⟨a,o,g⟩:=aq9.1 g;have:=l a o;rcases aqj.1 g with rfl|g
  ·exact this.1
  ·rcases aqj.1 g with rfl|g
   ·exact this.2
   ·cases g)]at y
 obtain⟨b,q,j,rfl⟩:=lp (F:=λd k (s:bM×bq)=>B7 N d (m,((m.length:Nat):Int),(k:Int),(n:Int),s.1,(0:Int),s.2)) (n:=m.length) (Q:=λb=>∃j,b=((n:Int),ll n e (m.map se),(0:Int),j))
  (I:=λk s=>b9 n s.1/\ll n s.1 ((m.map se).drop k)=ll n e (m.map se)/\s.2.length<=k) (λd k s D f=>by
   obtain⟨x,r⟩:=get_at (xs:=m) (i:=k) D;have H:(m.map se)[k]? =some (se x):=by rw[aqd,r];rfl
   have eW:=l x (ap_ r);have p:=eW.nat;have o:=ahL eW;have z:x.1=(((se x).1:Nat):Int):=(ap5 Prod.fst o).symm;have A:x.2=(((se x).2:Nat):Int):=(ap5 Prod.snd o).symm;have G:=JL f.1 p.1 p.2;have u:=f.2.1;rw[de H,ll]at u;have E:=adD (N:=N) (by omega) f.1 p.1 p.2;refine .inl ⟨(if kZ s.1 (((se x).1:Nat):Int)=kZ s.1 (((se x).2:Nat):Int)then s.1 else oK n s.1 (se x).1 (se x).2,s.2++[decide ((if kZ s.1 (((se x).1:Nat):Int)=kZ s.1 (((se x).2:Nat):Int)then(5:Int)else 0)=0)]),⟨G.1,u,by simp only[aqb,aqf,aqI];have:=f.2.2;omega⟩,?_⟩;have K:=f.2.2;rw[GL,eh (by omega),bd r,ob];simp only;rw[z,A,E,ob,cO (by omega) (by simp only[aqf,aqI];omega),ob,cE (by omega)];by_cases c:kZ s.1 (((se x).1:Nat):Int)=kZ s.1 (((se x).2:Nat):Int)
   ·simp only[c,aqs]
   ·simp only[c,aqN]) (λd s f=>by
   have t:=f.2.1;rw[aqP (by simp),ll]at t;exact⟨_,by rw[GL,dX (by omega)],⟨s.2,by rw[t]⟩⟩) (m:=N) (i:=0) (s:=(e,[])) (by rw[bQ]at C;omega) (by omega) ⟨h,rfl,by simp⟩
 refine⟨j,?_⟩;rw[abe,abd,agt (by omega) m w,ob,y,ob];simp only[aq0,ap9,apW];rw[show((0:Nat):Int)=(0:Int)from rfl]at q;simp only at q;rw[q,ob];rfl
def agu(f:Fu+2<=a)(n:Int):IQ a n=some (if 1<=n/\n<=64 then(0,n,im n.toNat)else(1,0,[])):=by
 obtain⟨a,rfl⟩:∃M,a=M+1:=⟨a - 1,by omega⟩;rw[Xj,yB (by omega),ob,FX];by_cases c:1<=n/\n<=64
 ·rw[apR c,apR c]
  obtain⟨k,rfl⟩:∃k:Nat,n=(k:Int):=⟨n.toNat,by omega⟩;rw[ap2];have:=lpv (F:=λm i (d:bM)=>wJ a m ((k:Int),(i:Int),(0:Int),(k:Int),d)) (n:=k) (b:=((0:Int),(k:Int),im k)) (I:=λi d=>d=im i) (λm i d g e=>by
   subst e;refine⟨im (i+1),rfl,?_⟩;rw[DJ,eh (by omega),cO (by omega) (by simp[im];omega),ob,cE (by omega)];have:im i++[[(i:Int)]]=im (i+1):=by unfold im;rw[atz,aqH];rfl
   rw[this]) (λm d e=>by
   subst e;rw[DJ,dX (by omega)]) (m:=a) (i:=0) (s:=[]) (by rw[bQ]at f;omega) (by omega) rfl
  rw[show((0:Nat):Int)=(0:Int)from rfl]at this;rw[this,ob]
 ·rw[apQ c,apQ c]
def EU(n:Nat)(l:bh):bM:=ll n (im n) (l.map se)
def QX(a:1<=n)(b:n<=64)(c:∀e∈m,lM (n:Int) e):b9 n (EU n m):=(HF (uY a b) (yz (n:=(n:Int)) (by omega) c)).1
def of_eq(i:Fu+13<=a)(b:1<=n)(c:n<=64)(g:m.length<=100000)(d:∀e∈m,lM (n:Int) e):DQ a ((n:Int),m)=some (0,(n:Int),EU n m):=by
 obtain⟨a,rfl⟩:∃M,a=M+1:=⟨a - 1,by omega⟩;obtain⟨h,f⟩:=adE (N:=a) (by omega) (uY b c) g d;rw[Xy,agu (by omega),ob,apR (by omega)];simp only[aq0,ap9,apW,ap2];rw[f,ob];rfl
def gI(b:List ca)(a:Int):bh:=(b.filter λt=>t.2.2.2 && decide (a<=t.2.2.1)).map λt=>(t.1,t.2.1)
def Oo(p:Fu+2<=a)(g:Int)(e:List ca)(h:Int)(t:e.length<=100000):LO a (g,e,h)=some (gI e h):=by
 obtain⟨a,rfl⟩:∃M,a=M+1:=⟨a - 1,by omega⟩;have:=lpv (F:=λm k (f:bh)=>tf a m (h,e,((e.length:Nat):Int),(k:Int),f)) (n:=e.length) (b:=gI e h) (I:=λk f=>f++gI (e.drop k) h=gI e h/\f.length<=k) (λm k f q l=>by
  obtain⟨x,o⟩:=get_at (xs:=e) (i:=k) q;have d:=l.1;have r:=l.2;rw[de o,gI,ar1]at d;cases j:x.2.2.2 with
  |false=>
   rw[j,Bool.false_and,apQ (by decide)]at d;refine⟨f,⟨d,by omega⟩,?_⟩;rw[tg,eh (by omega),bd o,ob,j,cE (by omega)];rfl
  |true=>
   by_cases c:h<=x.2.2.1
   ·rw[j,aqk c,aur,apR rfl,aqc,<-arn,<-aqm]at d
    refine⟨_,⟨d,by rw[aqb];simp;omega⟩,?_⟩;rw[tg,eh (by omega),bd o,ob,j,aqh,eh c,cO (by omega) (by simp;omega),ob,cE (by omega)]
   ·rw[j,aqn c,Bool.and_false,apQ (by decide)]at d
    refine⟨f,⟨d,by omega⟩,?_⟩;rw[tg,eh (by omega),bd o,ob,j,aqh,dX c,cE (by omega)]) (λm f l=>by
  have d:=l.1;rw[aqP (apT _),gI,List.filter_nil,aqZ,aqy]at d;rw[tg,dX (by omega),d]) (m:=a) (i:=0) (s:=[]) (by rw[bQ]at p;omega) (by omega) ⟨by simp,by simp⟩
 rw[aaP];rw[show((0:Nat):Int)=(0:Int)from rfl]at this;rw[this,ob]
def VZ(N:Nat)(x y:ca):DI (N+6) (x.1,x.2.1,x.2.2.1,x.2.2.2,y.1,y.2.1,y.2.2.1,y.2.2.2)=some (rz x y):=by
 rw[aaO,show N+5=(N+2)+3 from rfl,po,po,show N+2+3=N+5 from rfl];simp only[aW,Qq];rfl
end
variable{g:List ca}{A B:ca}
section
open Go Go.RowKit Go.Sort
def HJ(b:1<=a)(n:Int):LN a n=some (decide (1<=n/\n<=64)):=by
 obtain⟨a,rfl⟩:∃M,a=M+1:=⟨a - 1,by omega⟩;rw[aaJ,cd];by_cases c:1<=n<;>simp[c]
def Oq(n:Nat):Nat:=if n<=1 then 0 else if n<=2 then 1 else if n<=4 then 2 else if n<=8 then 3 else if n<=16 then 4 else if n<=32 then 5 else 6
set_option maxRecDepth 100000 in
def agv(N:Nat):∀x:Fin 64,SF (N+3) ((x.1:Nat):Int)=some ((Oq (x.1+1):Nat):Int):=by
 intro x;have a:=x.2;rw[aaK,show N+2=(N+1)+1 from rfl,Xg,dX (by omega),ob,Xf,dX (by omega),ob,dX (by omega)];simp only;rw[wu8 (by omega) (by omega)];revert x;unfold afb;decide+kernel
def adF(e:6<=a)(c:1<=n)(d:n<=64):DH a (n:Int)=some (Oq n:Int):=by
 obtain⟨a,rfl⟩:∃M,a=M+5:=⟨a - 5,by omega⟩;have b:wrap .u64 (((n - 1:Nat):Nat):Int)=((n - 1:Nat):Int):=by simp[wrap,IntKind.bits,IntKind.signed];omega
 have h:=agv a ⟨n - 1,by omega⟩;rw[show n - 1+1=n by omega]at h;rw[Xh,HJ (by omega),ob,aqk (by omega)];simp only[ap9,apW];rw[show wrap .i64 ((n:Int) - 1)=((n - 1:Nat):Int) by rw[gT (by omega) (by omega)];omega,b,aaM];simp only at h;rw[h,ob,ob]
def na(n:Nat)(t:ca):Prop:=0<=t.1/\t.1<t.2.1/\t.2.1<(n:Int)/\0<=t.2.2.1/\t.2.2.1<=(Oq n:Int)
def FI(a b:ca):Prop:=a.1<b.1\/a.1=b.1/\a.2.1<b.2.1
def mr:rz A B<0↔FI A B:=lU
structure GR(n:Nat)(ts:List ca):Prop where
 lo:1<=n
 hi:n<=64
 len:ts.length<=400
 tie:∀t∈ts,na n t
 VP:ts.Pairwise FI
 fst:(EU n (gI ts 0)).length+(gI ts 0).length=n
def z6(h:∀t∈g,na n t)(c:Int):∀e∈gI g c,lM (n:Int) e:=λe a=>by
 obtain⟨t,b,rfl⟩:=ap4.1 a;have:=h t (arN.1 b).1;unfold na at this;exact⟨⟨by omega,by show t.1<_;omega⟩,by show 0<=t.2.1;omega,by show t.2.1<_;omega⟩
def EW(a:List ca)(b:Int):(gI a b).length<=a.length:=by
 unfold gI;rw[ap1];exact as_ _ _
def adG(f:g[a]? =some A)(l:g[a+1]? =some B)(h:(g.take (a+1)).Pairwise FI):(g.take (a+2)).Pairwise FI↔FI A B:=by
 have i:=cP l;rw[i,auZ];have k:A∈g.take (a+1):=by rw[cP f];simp
 constructor
 ·intro e;exact e.2.2 A k B (by simp)
 ·intro e
  refine⟨h,List.pairwise_singleton _ _,λc d b j=>?_⟩;rw[aqe.1 j];rw[cP f]at d h;rcases ap3.1 d with d|d
  ·have:=(auZ.1 h).2.2 c d A (by simp)
   unfold FI at*;omega
  ·rw[aqe.1 d];exact e
def Ot{N:Nat}(H:Fu+8<=N){n:Nat}(a:List ca)(J:a.length<=400):∃r,tl N N ((Oq n:Int),a,((a.length:Nat):Int),((0:Nat):Int),(n:Int),a)=some r/\(r=.inl ((n:Int),a)/\(∀t∈a,na n t)/\a.Pairwise FI\/r=.inr false/\¬((∀t∈a,na n t)/\a.Pairwise FI)):=by
 have G:=bQ;refine lp (F:=λm k (_:Unit)=>tl N m ((Oq n:Int),a,((a.length:Nat):Int),(k:Int),(n:Int),a)) (n:=a.length) (I:=λk _=>(∀t∈a.take k,na n t)/\(a.take k).Pairwise FI) (λm k s B d=>?_) (λm s d=>⟨_,by rw[GM,dX (by omega)],.inl ⟨rfl,by rw[aqt (apT _)]at d;exact d⟩⟩) (m:=N) (i:=0) (s:=()) (by omega) (by omega) ⟨by simp,by simp⟩;obtain⟨x,e⟩:=get_at (xs:=a) (i:=k) B;have C:=ap_ e;rw[GM,eh (by omega),bd e,ob];by_cases f:na n x
 ·obtain⟨u,v,w,z,A⟩:=f
  rw[dX (by omega),dX (by omega),dX (by omega),dX (by omega),dX (by omega),cd];have l:∀t∈a.take (k+1),na n t:=λt h=>by
   rw[cP e]at h;rcases ap3.1 h with h|h
   ·exact d.1 t h
   ·rw[aqe.1 h];exact⟨u,v,w,z,A⟩
  rcases as3 k with g|g
  ·subst g
   rw[apQ (by omega),cE (by omega)];exact .inl ⟨(),⟨l,by rw[cP e];simp⟩,rfl⟩
  ·obtain⟨k,rfl⟩:∃j,k=j+1:=⟨k - 1,by omega⟩
   obtain⟨y,q⟩:=get_at (xs:=a) (i:=k) (by omega);have p:=adG q e d.2;rw[apR (by omega),show wrap .i64 (((k+1:Nat):Int) - 1)=(k:Int) by rw[gT (by omega) (by omega)];omega,bd q,ob];have o:=VZ (N - 6) y x;rw[show N - 6+6=N by omega]at o;rw[o,ob,cd];by_cases c:FI y x
   ·rw[apQ (by have:=mr.2 c;omega),cE (by omega)]
    exact .inl ⟨(),⟨l,p.2 c⟩,rfl⟩
   ·rw[apR (by have:=mt mr.1 c;omega)]
    refine .inr ⟨_,rfl,.inr ⟨rfl,λh=>c (p.1 ?_)⟩⟩;exact h.2.sublist (List.take_sublist _ _)
 ·refine .inr ?_
  have E:∀r:Option (Int×List ca⊕Bool),r=some (.inr false)->∃b,r=some b/\(b=.inl ((n:Int),a)/\(∀t∈a,na n t)/\a.Pairwise FI\/b=.inr false/\¬((∀t∈a,na n t)/\a.Pairwise FI)):=λr D=>⟨_,D,.inr ⟨rfl,λh=>f (h.1 x C)⟩⟩;refine E _ ?_;unfold na at f;rw[cd];split
  ·rfl
  rw[cd];split
  ·rfl
  rw[cd];split
  ·rfl
  rw[cd];split
  ·rfl
  rw[eh (by omega)]
def tH{N:Nat}(m:Fu+16<=N)(g:Int)(a:List ca)(k:a.length<=100000):∃b,mW N (g,a)=some b/\(b=true↔0<=g/\GR g.toNat a):=by
 obtain⟨N,rfl⟩:∃M,N=M+1:=⟨N - 1,by omega⟩;have l:=bQ;rw[abg,HJ (by omega),ob,FX];by_cases d:1<=g/\g<=64
 ·rw[apR d,cd]
  obtain⟨n,rfl⟩:∃n:Nat,g=(n:Int):=⟨g.toNat,by omega⟩;rw[ap2];by_cases i:(400:Int)<((a.length:Nat):Int)
  ·rw[apR i]
   exact⟨_,rfl,λh=>(by cases h),λh=>absurd h.2.len (by omega)⟩
  ·rw[apQ i,adF (by omega) (by omega) (by omega),ob]
   obtain⟨r,f,h⟩:=Ot (N:=N) (by omega) (n:=n) a (by omega);rw[show((0:Nat):Int)=(0:Int)from rfl]at f;rw[f,ob];rcases h with⟨rfl,c,j⟩|⟨rfl,c⟩
   ·simp only
    have o:=EW a 0;rw[Oo (by omega) _ _ _ k,ob,of_eq (by omega) (by omega) (by omega) (by omega) (z6 c 0),ob,eh rfl];simp only;rw[gT (by omega) (by omega)];refine⟨_,rfl,?_⟩;rw[aqQ];constructor
    ·intro e;exact⟨by omega,by omega,by omega,by omega,c,j,by omega⟩
    ·intro e;have:=e.2.fst;omega
   ·exact⟨_,rfl,λh=>(by cases h),λh=>absurd ⟨h.2.tie,h.2.VP⟩ c⟩
 ·rw[apQ d]
  exact⟨_,rfl,λh=>(by cases h),λh=>absurd (⟨by have:=h.2.lo;omega,by have:=h.2.hi;omega⟩) d⟩
def GR.right(c:Fu+16<=a)(h:GR n g):mW a ((n:Int),g)=some true:=by
 obtain⟨b,d,e⟩:=tH c (n:Int) g (by have:=h.len;omega);rw[d,e.2 ⟨by omega,by rw[ap2];exact h⟩]
def cN(a:List ca):bh:=a.map λt=>(t.1,t.2.1)
def z7(l:Fu+17<=a)(h:GR n g):Hc a ((n:Int),g)=some (cN g):=by
 obtain⟨a,rfl⟩:∃M,a=M+1:=⟨a - 1,by omega⟩;have j:=bQ;have p:=h.len;have:=lpv (F:=λm k (c:bh)=>Ck a m (g,((g.length:Nat):Int),(k:Int),c)) (n:=g.length) (b:=cN g) (I:=λk c=>c=cN (g.take k)) (λm k c f d=>by
  obtain⟨x,e⟩:=get_at (xs:=g) (i:=k) f;have o:c.length<=400:=by rw[d,cN,ap1,aqD];omega
  refine⟨c++[(x.1,x.2.1)],by rw[d,cP e];simp[cN],?_⟩;rw[Hd,eh (by omega),bd e,ob,cO (by omega) (by simp;omega),ob,cE (by omega)]) (λm c d=>by
  rw[Hd,dX (by omega),d,aqt (apT _)]) (m:=a) (i:=0) (s:=[]) (by omega) (by omega) (by simp[cN])
 rw[ab9,h.right (by omega),ob];simp only[ap9,apW];rw[show((0:Nat):Int)=(0:Int)from rfl]at this;rw[this,ob]
def EX(c:Fu+17<=a)(h:GR n g)(b:Int):Nq a ((n:Int),g,b)=some (0,(n:Int),EU n (gI g b)):=by
 obtain⟨a,rfl⟩:∃M,a=M+1:=⟨a - 1,by omega⟩;have d:=h.len;have:=EW g b;rw[ack,h.right (by omega),ob];simp only[ap9,apW];rw[Oo (by omega) _ _ _ (by omega),ob,of_eq (by omega) h.lo h.hi (by omega) (z6 h.tie b),ob]
def GR.JP(h:GR n g)(a:Int):b9 n (EU n (gI g a)):=QX h.lo h.hi (z6 h.tie a)
def QY{N:Nat}(u:Fu+8<=N)(a:List ca)(v:a.length<=400)(y:ca):∃(i:Int) (b:Bool),af5 N (a,y)=some (i,b)/\(b=true->∃(k:Nat) (x:ca),i=(k:Int)/\a[k]? =some x/\rz x y=0):=by
 obtain⟨N,rfl⟩:∃M,N=M+1:=⟨N - 1,by omega⟩;have t:=bQ;have f:∀x:ca,DI N (x.1,x.2.1,x.2.2.1,x.2.2.2,y.1,y.2.1,y.2.2.1,y.2.2.2)=some (rz x y):=λx=>by
  have:=VZ (N - 6) x y;rwa[show N - 6+6=N by omega]at this
 have s:∀(d i j m:Nat),j - i<=d->d<m->j<=a.length->∃k:Nat,Et N m (a,((a.length:Nat):Int),(i:Int),(j:Int),y)=some (a,((a.length:Nat):Int),(k:Int),y):=by
  intro d
  induction d with
  |zero=>
   intro i j m p q r;obtain⟨m,rfl⟩:∃M,m=M+1:=⟨m - 1,by omega⟩;exact⟨i,by rw[Eu,dX (by omega)]⟩
  |succ d l=>
   intro i j m p q r;obtain⟨m,rfl⟩:∃M,m=M+1:=⟨m - 1,by omega⟩;by_cases c:i<j
   ·have n:(2:Int)^(min (Int.toNat (1:Int)) (64:Nat))=2:=by decide
    have o:wrap .i64 (Int.fdiv (wrap .u64 (wrap .i64 ((i:Int)+(j:Int)))) 2)=(((i+j)/2:Nat):Int):=by
     rw[gT (x:=(i:Int)+(j:Int)) (by omega) (by omega),show wrap .u64 ((i:Int)+(j:Int))=((i+j:Nat):Int) by simp[wrap,IntKind.bits,IntKind.signed];omega,aus _ (by omega),gT (by omega) (by omega)];omega
    obtain⟨x,e⟩:=get_at (xs:=a) (i:=(i+j)/2) (by omega);rw[Eu,eh (by omega),n,o,bd e,ob,f,ob,cd];split
    ·rw[cE (by omega)]
     exact l _ _ m (by omega) (by omega) (by omega)
    ·exact l _ _ m (by omega) (by omega) (by omega)
   ·exact⟨i,by rw[Eu,dX (by omega)]⟩
 obtain⟨k,g⟩:=s a.length 0 a.length N (by omega) (by omega) (apT _);rw[show((0:Nat):Int)=(0:Int)from rfl]at g;obtain⟨w,z,A,B⟩:=y;rw[af6,g,ob,cd];simp only;by_cases c:k<a.length
 ·obtain⟨x,e⟩:=get_at (xs:=a) (i:=k) c
  rw[apR (by omega),bd e,ob];have:=f x;simp only at this;rw[this,ob];exact⟨_,_,rfl,λh=>⟨k,x,rfl,e,aqK h⟩⟩
 ·rw[apQ (by omega)]
  exact⟨_,_,rfl,λh=>by cases h⟩
def Yy:rz A B=0↔A.1=B.1/\A.2.1=B.2.1:=by
 unfold rz ot;split
 ·rename_i h;have:=ou.1 h;rw[ou];exact⟨λk=>⟨this,k⟩,λk=>k.2⟩
 ·rename_i h;have:=mt ou.2 h;exact⟨λk=>absurd k h,λk=>absurd k.1 this⟩
def adH{N:Nat}(f:Fu+18<=N)(h:GR n g)(u v:Int):∃i:Int,Jn N ((n:Int),g,u,v)=some i/\(i= -1\/∃(k:Nat) (x:ca),i=(k:Int)/\g[k]? =some x/\x.1=min u v/\x.2.1=max u v):=by
 obtain⟨N,rfl⟩:∃M,N=M+2:=⟨N - 2,by omega⟩;obtain⟨i,b,a,d⟩:=QY (N:=N) (by omega) g h.len (if v<u then v else u,if v>u then v else u,0,false);rw[Yc,h.right (by omega),ob];simp only[ap9,apW];rw[acC,a,ob,ob];cases b with
 |false=>exact⟨-1,rfl,.inl rfl⟩
 |true=>
  obtain⟨k,x,rfl,e,c⟩:=d rfl;have:=Yy.1 c;simp only at this;refine⟨(k:Int),rfl,.inr ⟨k,x,rfl,e,?_,?_⟩⟩
  ·rw[this.1];split<;>omega
  ·rw[this.2];split<;>omega
end
variable{H:Int×Int->Prop}
section
open Go Go.RowKit Go.Sort
def Ou{s:Sc}(f:s.key=true)(c d:s.cZ)(v:i):∀a:List (s.cZ×i),(c=d->bJ s (dS s a c v) d=some v)/\(c≠d->bJ s (dS s a c v) d=bJ s a d):=by
 have g:∀{x y:s.cZ},x≠y->iF s x y=false:=λ{x y} h=>by
  cases j:iF s x y with
  |false=>rfl
  |true=>exact absurd ((fu s _ _ f).1 j) h
 intro a
 induction a with
 |nil=>
  simp only[dS,bJ];exact⟨λe=>by rw[(fu s _ _ f).2 e];rfl,λe=>by rw[g e];rfl⟩
 |cons p a k=>
  simp only[dS];by_cases h:p.1=c
  ·rw[(fu s _ _ f).2 h]
   simp only[aqh,bJ];exact⟨λe=>by rw[(fu s _ _ f).2 (h.trans e)];rfl,λe=>by rw[g λb=>e (h.symm.trans b)];rfl⟩
  ·rw[g h]
   simp only[apW,bJ];by_cases b:p.1=d
   ·rw[(fu s _ _ f).2 b];exact⟨λe=>absurd (b.trans e.symm) h,λ_=>rfl⟩
   ·rw[g b];exact k
def V0{e:i->i->Bool}(f:SWO e){l:List i}(j:jD e l)(n:l.length<1099511627776):∃r,IL e l=some r/\r.Perm l/\r.Pairwise λx y=>e x y=true:=by
 have k:=auh l λx y=> !e y x;have o:=auS (le:=λx y=> !e y x) (λa b c g d=>by
  simp only[aq1]at g d⊢;exact f.ntrans _ _ _ d g) (λa b=>by
  simp only[aqO,aq1];cases h:e b a with
  |false=>exact .inl rfl
  |true=>
   refine .inr ?_;cases d:e a b with
   |false=>rfl
   |true=>have:=f.trans _ _ _ h d;rw[f.irrefl]at this;cases this) l
 refine⟨_,apR ⟨j,n⟩,k,?_⟩;have m:=jD.perm j k.symm;refine(List.pairwise_and_iff.2 ⟨o,m⟩).imp λ{x y} h=>?_;rcases h.2 with d|d
 ·exact d
 ·have:=h.1;rw[d]at this;cases this
def dm(e:Int×Int):Int×Int:=(min e.1 e.2,max e.1 e.2)
def EY(e:Int×Int):(if e.2<e.1 then e.2 else e.1)=(dm e).1/\(if e.2>e.1 then e.2 else e.1)=(dm e).2:=by
 unfold dm;constructor<;>simp only<;>split<;>omega
def eLt(a b:Int×Int):Prop:=a.1<b.1\/a.1=b.1/\a.2<b.2
abbrev vQ:Sc:=.pr (.i .i64) (.i .i64)
def Mk(m:CH)(p:Int×Int->Prop):Prop:=∀e,(p e->(bJ vQ m e).getD 0=1)/\(¬p e->(bJ vQ m e).getD 0=0)
def Mk.put{m:CH}(h:Mk m H)(x:Int×Int):Mk (dS vQ m x (1:Int)) λe=>H e\/e=x:=λe=>by
 have d:=Ou (s:=vQ) rfl x e (1:Int) m;by_cases c:x=e
 ·refine⟨λ_=>?_,λb=>absurd (.inr c.symm) b⟩
  have:=d.1 c;rw[this];rfl
 ·have:=d.2 c
  refine⟨λa=>?_,λb=>?_⟩
  ·rw[this]
   rcases a with a|a
   ·exact(h e).1 a
   ·exact absurd a.symm c
  ·rw[this];exact(h e).2 λa=>b (.inl a)
def Mk.imp{m:CH}{p q:Int×Int->Prop}(h:Mk m p)(a:∀e,p e↔q e):Mk m q:=λe=>⟨λd=>(h e).1 ((a e).2 d),λb=>(h e).2 λc=>b ((a e).1 c)⟩
def adI:t∈cN g↔∃a∈g,(a.1,a.2.1)=t:=by simp[cN]
def V1(h:∀t∈g,na n t):∀e∈cN g,0<=e.1/\e.1<e.2/\e.2<(n:Int):=λe a=>by
 obtain⟨t,b,rfl⟩:=adI.1 a;have:=h t b;exact⟨this.1,this.2.1,this.2.2.1⟩
def EZ(h:g.Pairwise FI):(cN g).Pairwise eLt:=as4.2 h
def tJ(h:m.Pairwise eLt):m.Nodup:=h.imp λ{a b} h e=>by
 subst e;unfold eLt at h;omega
def ajQ{a b:Int×Int}(h:ltOf ot a b=true):eLt a b:=lU.1 (aqK h)
def Yz(h:m.Nodup):jD (ltOf ot) m:=h.imp λ{a b} h=>by
 by_cases c:eLt a b
 ·exact .inl (aqk (lU.2 c))
 ·refine .inr (aqk (lU.2 ?_))
  have:¬(a.1=b.1/\a.2=b.2):=λe=>h (asZ e.1 e.2);unfold eLt at c;omega
structure YA(n:Nat)(ts:List ca)(l jr:bh):Prop where
 VP:jr.Pairwise eLt
 mem:∀e,e∈jr↔e.1<e.2/\e∈l.map dm/\e∉cN ts
 inn:∀x∈l,lM (n:Int) x
 len:jr.length<=l.length
def YA.rng{l a:bh}(h:YA n g l a):∀e∈a,0<=e.1/\e.1<e.2/\e.2<(n:Int):=λe d=>by
 obtain⟨b,c,_⟩:=(h.mem e).1 d;obtain⟨x,f,rfl⟩:=ap4.1 c;have:=h.inn x f;unfold lM at this;refine⟨by simp only[dm];omega,b,by simp only[dm];omega⟩
def QZ{N:Nat}(hN:Fu+18<=N)(h:GR n g)(l:bh)(hl:l.length<=100000):
 (zN N ((n:Int),g,l)=some (10,[])/\¬∀x∈l,lM (n:Int) x)\/∃j,zN N ((n:Int),g,l)=some (0,j)/\YA n g l j:=by
 obtain⟨N,rfl⟩:∃M,N=M+1:=⟨N - 1,by omega⟩;have hF:=bQ;have a1:=h.len;have a0:(cN g).length=g.length:=by simp[cN]
 obtain⟨b1,J,A,rfl,S⟩:=lp (F:=λm k (s:CH)=>x3 N m (l,(((cN g).length:Nat):Int),(k:Int),(n:Int),g,s,cN g)) (n:=(cN g).length) (Q:=λb=>∃A,b=(l,(n:Int),g,A)/\Mk A λe=>e∈cN g) (I:=λk s=>Mk s λe=>e∈(cN g).take k) (λm k s D o=>by
  obtain⟨x,f⟩:=get_at (xs:=cN g) (i:=k) D;exact .inl ⟨dS vQ s x (1:Int),(o.put x).imp λe=>by rw[cP f];simp,by rw[Ei,eh (by omega),bd f,ob,ob,cE (by omega)]⟩) (λm s o=>⟨_,by rw[Ei,dX (by omega)],s,rfl,o.imp λe=>by rw[aqt (apT _)]⟩) (m:=N) (i:=0) (s:=[]) (by omega) (by omega) (λe=>⟨λR=>by simp at R,λ_=>rfl⟩)
 obtain⟨b2,C,V⟩:=lp (F:=λm k (s:CH×bh)=>oA N m (l,((l.length:Nat):Int),(k:Int),(n:Int),g,s.1,s.2)) (n:=l.length) (Q:=λb=>(b=.inr 10/\¬∀x∈l,lM (n:Int) x)\/∃j,b=.inl j/\j.Nodup/\(∀e,e∈j↔e.1<e.2/\e∈l.map dm/\e∉cN g)/\(∀x∈l,lM (n:Int) x)/\j.length<=l.length)
  (I:=λk s=>Mk s.1 (λe=>e∈cN g\/e∈s.2)/\s.2.Nodup/\(∀e,e∈s.2↔e.1<e.2/\e∈(l.take k).map dm/\e∉cN g)/\(∀x∈l.take k,lM (n:Int) x)/\s.2.length<=k) (λm k s D o=>by
   obtain⟨x,f⟩:=get_at (xs:=l) (i:=k) D;have L:=ap_ f;obtain⟨t,G,z,X,i5⟩:=o;rw[Eh,eh (by omega),bd f,ob,(EY x).1,(EY x).2,cd];have q:lM (n:Int) x↔¬(dm x).1<0/\¬(n:Int)<=(dm x).2:=by unfold lM dm;omega
   by_cases u:(dm x).1<0
   ·rw[apR u];exact .inr ⟨_,rfl,.inl ⟨rfl,λh=>(q.1 (h x L)).1 u⟩⟩
   rw[apQ u,cd];by_cases v:(n:Int)<=(dm x).2
   ·rw[apR v];exact .inr ⟨_,rfl,.inl ⟨rfl,λh=>(q.1 (h x L)).2 v⟩⟩
   rw[apQ v,cd];have eW:∀y∈l.take (k+1),lM (n:Int) y:=λy p=>by
    rw[cP f]at p;rcases ap3.1 p with p|p
    ·exact X y p
    ·rw[aqe.1 p];exact q.2 ⟨u,v⟩
   have E:∀e,e∈(l.take (k+1)).map dm↔e∈(l.take k).map dm\/e=dm x:=λe=>by
    rw[cP f,aqH,ap3,List.map_singleton,aqe]
   by_cases w:(dm x).1<(dm x).2
   ·rw[apR w,cd]
    by_cases d:dm x∈cN g\/dm x∈s.2
    ·have B:(bJ vQ s.1 (dm x)).getD 0=1:=(t _).1 d
     rw[show(bJ vQ s.1 ((dm x).1,(dm x).2)).getD 0=1 from B,apQ (by omega),cE (by omega)];refine .inl ⟨s,⟨t,G,λe=>?_,eW,by omega⟩,rfl⟩;rw[z e,E];constructor
     ·rintro⟨a,b,c⟩;exact⟨a,.inl b,c⟩
     ·rintro⟨a,b|rfl,c⟩
      ·exact⟨a,b,c⟩
      ·rcases d with d|d
       ·exact absurd d c
       ·exact(z _).1 d
    ·have B:(bJ vQ s.1 (dm x)).getD 0=0:=(t _).2 d
     rw[show(bJ vQ s.1 ((dm x).1,(dm x).2)).getD 0=0 from B,apR rfl,cO (by omega) (by simp;omega),ob,cE (by omega)];refine .inl ⟨(dS vQ s.1 (dm x) (1:Int),s.2++[dm x]),⟨(t.put _).imp λe=>by simp[or_assoc],?_,λe=>?_,eW,by simp;omega⟩,rfl⟩
     ·exact aqL.2 ⟨G,by simp,λa O b P e=>d (.inr (by rw[<-aqe.1 P,<-e];exact O))⟩
     ·rw[ap3,aqe,z e,E]
      constructor
      ·rintro(⟨a,b,c⟩|rfl)
       ·exact⟨a,.inl b,c⟩
       ·exact⟨w,.inr rfl,λh=>d (.inl h)⟩
      ·rintro⟨a,b|rfl,c⟩
       ·exact .inl ⟨a,b,c⟩
       ·exact .inr rfl
   ·rw[apQ w,cE (by omega)]
    refine .inl ⟨s,⟨t,G,λe=>?_,eW,by omega⟩,rfl⟩;rw[z e,E];constructor
    ·rintro⟨a,b,c⟩;exact⟨a,.inl b,c⟩
    ·rintro⟨a,b|rfl,c⟩
     ·exact⟨a,b,c⟩
     ·exact absurd a w) (λm s o=>⟨_,by rw[Eh,dX (by omega)],.inr ⟨s.2,rfl,by have H:=o.2;rw[aqt (apT _)]at H;exact H⟩⟩) (m:=N) (i:=0) (s:=(A,[])) (by omega) (by omega) ⟨S.imp λe=>by simp,by simp,λe=>by simp,λx f=>by simp at f,by simp⟩
 rw[show((0:Nat):Int)=(0:Int)from rfl]at J C;simp only at C;rw[X3,h.right (by omega),ob];simp only[ap9,apW];rw[z7 (by omega) h,ob,J,ob];simp only;rw[C,ob];rcases V with⟨rfl,U⟩|⟨j,rfl,Y,Z,q3,q4⟩
 ·exact .inl ⟨rfl,U⟩
 ·obtain⟨r,q,K,W⟩:=V0 ahr (Yz Y) (by omega)
  refine .inr ⟨r,?_,W.imp ajQ,λe=>by rw[K.mem_iff];exact Z e,q3,by rw[K.length_eq];exact q4⟩;simp only;unfold cc;rw[q,ob]
end
section
open Go Go.RowKit Go.Sort
def tK(d:1<=a)(b:List ca)(c:b.length<=100000000000):U5 a b=some b:=by
 obtain⟨a,rfl⟩:∃m,a=m+1:=⟨a - 1,by omega⟩;rw[acx,cO (by omega) (by simpa using c),aqC];cases b with
 |nil=>exact sZ.2 ⟨rfl,rfl⟩
 |cons x e=>rfl
def E1(n:Nat):∀(l:bH) (a:bM),(ln n a l).length=l.length
 |[],_=>rfl
 |e::l,a=>by rw[ln,aqf,E1 n l,aqf]
def BI(a:bh)(c:bq):List ca:=List.zipWith (λx b=>(x.1,x.2,(0:Int),b)) a c
def Ov{a:bq}(h:a.length=m.length):(BI m a).length=m.length:=by simp[BI,h]
def Ow{a:bq}(h:a.length=m.length):cN (BI m a)=m:=by
 unfold BI cN;rw[List.map_zipWith];refine arC λi=>?_;by_cases c:i<m.length
 ·obtain⟨x,e⟩:=get_at (xs:=m) c
  obtain⟨b,d⟩:=get_at (xs:=a) (i:=i) (by omega);rw[au0,e,d]
 ·rw[aqE (by simp[h];omega),aqE (by omega)]
def Ox(a b:List ca):cN (a++b)=cN a++cN b:=aqH
def YB{a b:List ca}(h:a.Perm b):(cN a).Perm (cN b):=h.map _
def Q0(h:(cN g).Nodup):jD (ltOf rz) g:=(as4.1 h).imp λ{a b} h=>by
 by_cases c:FI a b
 ·exact .inl (aqk (mr.2 c))
 ·refine .inr (aqk (mr.2 ?_))
  have:¬(a.1=b.1/\a.2.1=b.2.1):=λe=>h (asZ e.1 e.2);unfold FI at c⊢;omega
def Q1(h:ltOf rz A B=true):FI A B:=mr.1 (aqK h)
structure aoH(n:Nat)(ts jr ts':List ca):Prop where
 perm:ts'.Perm (ts++jr)
 VP:ts'.Pairwise FI
def adK{a b:List ca}(d:a.Pairwise FI)(i:b.Pairwise FI)(h:a.Perm b):a=b:=by
 have e:∀{l:List ca},l.Pairwise FI->l.Pairwise (λx y=>ltOf rz y x=false):=λh=>h.imp λ{x y} h=>aqn λc=>by
  have:=mr.1 c;unfold FI at*;omega
 have j:jD (ltOf rz) a:=d.imp λ{x y} h=>.inl (aqk (mr.2 h));exact pj (λx y f g=>by have:=Q1 f;have:=Q1 g;unfold FI at*;omega) h j (e d) (e i)
def vF(n:Nat)(b:List ca)(a:bh):bq:=ln n (EU n (gI b 0)) (a.map se)
def vG(n:Nat)(b:List ca)(a:bh):(vF n b a).length=a.length:=by rw[vF,E1,ap1]
def add_eq{N:Nat}(L:Fu+20<=N)(h:GR n g)(l:bh)(C:l.length<=100000):
 (mg N ((n:Int),g,l)=some (0,10,(n:Int),g)/\¬∀x∈l,lM (n:Int) x)\/∃jr,YA n g l jr/\((400<g.length+jr.length/\mg N ((n:Int),g,l)=some (0,2,(n:Int),g))\/
  g.length+jr.length<=400/\∃v,mg N ((n:Int),g,l)=some (((jr.length:Nat):Int),0,(n:Int),v)/\aoH n g (BI jr (vF n g jr)) v):=by
 obtain⟨N,rfl⟩:∃M,N=M+1:=⟨N - 1,by omega⟩;have K:=bQ;have R:=h.len;rw[Yb];rcases QZ (N:=N) (by omega) h l C with⟨p,w⟩|⟨jr,p,f⟩
 ·rw[p,ob];exact .inl ⟨rfl,w⟩
 ·refine .inr ⟨jr,f,?_⟩
  have O:=f.len;rw[p,ob,y6 rfl];simp only;obtain⟨M,rfl⟩:∃M,N=M+1:=⟨N - 1,by omega⟩;rw[X4,ob,gT (by omega) (by omega),FX];by_cases c:g.length+jr.length<=400
  ·rw[apR (by omega),EX (by omega) h,ob]
   simp only;have z:tV (n:Int) jr=0:=by
    rw[VU h.lo h.hi,apR λe A=>by have:=f.rng e A;exact⟨⟨by omega,by omega⟩,by omega,by omega⟩]
   rw[QV (by omega) (h.JP 0) jr (by omega),z,ob,apR rfl,tK (by omega) _ (by omega),ob];simp only;rw[show ln n (EU n (gI g 0)) (jr.map se)=vF n g jr from rfl];have q:=vG n g jr;generalize vF n g jr=d at*;have P:=Ov q;have t:=lpv (F:=λm k (s:List ca)=>x_ (M+1) m (((jr.length:Nat):Int),(k:Int),(n:Int),g,(0:Int),jr,d,s)) (n:=jr.length) (b:=((n:Int),g,(0:Int),jr,g++BI jr d)) (I:=λk s=>s=g++(BI jr d).take k) (λm k s B j=>by
    obtain⟨x,u⟩:=get_at (xs:=jr) (i:=k) B;obtain⟨b,o⟩:=get_at (xs:=d) (i:=k) (by omega);have D:(BI jr d)[k]? =some (x.1,x.2,(0:Int),b):=by unfold BI;rw[au0,u,o]
    have Q:s.length<=100000:=by rw[j,aqb,aqD];omega
    exact⟨_,by rw[cP D,<-aqm,<-j],by rw[Es,eh (by omega),bd u,ob,ob,bd o,ob,ob,cO (by omega) (by simp;omega),ob,cE (by omega)]⟩) (λm s j=>by rw[Es,dX (by omega),j,aqt (by omega)]) (m:=M+1) (i:=0) (s:=g) (by omega) (by omega) (by simp)
   rw[show((0:Nat):Int)=(0:Int)from rfl]at t;rw[t,ob];simp only;have E:(cN (g++BI jr d)).Nodup:=by
    rw[Ox,Ow q];exact aqL.2 ⟨tJ (EZ h.VP),tJ f.VP,λa y b o e=>((f.mem b).1 o).2.2 (e▸y)⟩
   obtain⟨r,H,G,J⟩:=V0 ale (Q0 E) (by rw[aqb];omega);unfold cJ;rw[H,ob];exact .inr ⟨c,r,rfl,G,J.imp Q1⟩
  ·rw[apQ (by omega)]
   exact .inl ⟨by omega,rfl⟩
def adL{N:Nat}(f:Fu+20<=N)(h:GR n g){l:bh}(k:l.length<=100000)(j:∀x∈l,lM (n:Int) x)(m:∀b,YA n g l b->b=[]):mg N ((n:Int),g,l)=some (0,0,(n:Int),g):=by
 have o:=h.len;rcases add_eq f h l k with⟨_,a⟩|⟨b,i,a⟩
 ·exact absurd j a
 ·obtain rfl:=m b i
  rcases a with⟨a,_⟩|⟨_,p,a,c⟩
  ·simp only[aqI]at a;omega
  ·have e:BI [] (vF n g [])=[]:=rfl
   have d:=c.perm;rw[e,aqy]at d;rw[a,adK c.VP h.VP d];rfl
