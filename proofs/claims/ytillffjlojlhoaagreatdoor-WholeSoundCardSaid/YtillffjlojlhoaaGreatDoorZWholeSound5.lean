/- part 5 -/
import Derived.Test.YtillffjlojlhoaaGreatDoorZWholeSound4
set_option linter.all false
noncomputable section
open Go Go.RowKit
open IntKind (wrap)
set_option maxRecDepth 100000
open Go.Proofs.Tryz
open List (length replicate)
namespace Go.Proofs.YtillffjlojlhoaaGreatDoor
abbrev j1:Sc:=.i .i64
abbrev j2:Sc:=.i .u32
abbrev j3:Sc:=.sl .b
abbrev j4:Sc:=.i .u64
abbrev j5:Sc:=.pr j1 j1
abbrev j6:Sc:=.sl j1
abbrev j7:Sc:=.pr j1 .b
abbrev j8:Sc:=.sl j2
abbrev j9:Sc:=.pr j1 j7
abbrev fZ:Sc:=.sl j6
abbrev j11:Sc:=.pr j1 j5
abbrev iw:Sc:=.sl j5
abbrev j13:Sc:=.pr j5 j1
abbrev uc:Sc:=.pr j1 j9
abbrev j15:Sc:=.pr j1 j11
abbrev Gy:Sc:=.sl j11
abbrev j18:Sc:=.pr .b j13
abbrev kB:Sc:=.sl uc
abbrev qz:Sc:=.sl j15
abbrev j21:Sc:=.pr .b j18
abbrev j22:Sc:=.sl kB
abbrev A1:Type:=bh
abbrev A2:Type:=Int×(Int×In)
abbrev A3:Type:=bP
abbrev A4:Type:=Int×(Int×Int)
abbrev A5:Type:=HK
abbrev A6:Type:=Int×aX
abbrev A7:Type:=Int×Int×aX
abbrev A8:Type:=In×((Int×Int)×Int)
abbrev A9:Type:=In×aX
abbrev gD:Type:=Do (Int×A2)
abbrev ph:Type:=Do (Int×A4)
abbrev A12:Type:=Int×Int×A3
abbrev A13:Type:=Do (In×A8)
abbrev A14:Type:=Int×ph×Int×bw×A3×In×Int×Int×gD
def yJ:Do CO:=[]
def amy:Do PV:=[.h j1]
def yK:FD:=cL 137 f137 .z amy [] (bg lc []) false true []
def Ra:Nat->Int->eu:=mF yJ yK
def amO:CO:=cF yJ yK Ra func137
def afP N n:Ra (N+1) n=cond (1<=n)
 (some (decide (n<=64)))
 (some false):=ci
def iE:Do CO:=[]
def z0:Nat×PV:=(2,.h j1)
def atp:Do (Nat×PV):=[(0,.h j4),z0]
def XQ:PS:=bg atp []
def XR:Do (IR×PS):=[(.normal,bg atp [])]
def XS:Pl:=.z
def XT:Nat->Nat->Int×Int->KQ:=jnF iE f207 [1,1,0] XQ XR XS
def XU:PS:=bg atp []
def XW:Do (IR×PS):=[(.normal,bg atp [])]
def XX:Pl:=.z
def XY:Nat->Nat->Int×Int->KQ:=jnF iE f207 [1,0] XU XW XX
def pj:FD:=cL 207 f207 (.n .z (.n (.join XU XW XX) (.n (.join XQ XR XS) .z))) [.h j4] [] (bg [z0] []) false true []
def XZ:Nat->Int->fi:=mF iE pj
def aqT:CO:=cF iE pj XZ func207
def aci N m x n:XT N (m+1) (x,n)=cond (65536<=x)
 (some ((Int.fdiv x ((2:Int)^(min (Int.toNat 16) 64))),(wZ (n+16))))
 (some (x,n)):=ci
def acj N m x n:XY N (m+1) (x,n)=cond (4294967296<=x)
 (some ((Int.fdiv x ((2:Int)^(min (Int.toNat 32) 64))),32))
 (some (x,n)):=ci
def afQ N x:XZ (N+1) x=aW (XY N N (x,0)) λb=>
 aW (XT N N (b.1,b.2)) λa=>
 cond (256<=a.1)
  (aW (aki ⟨#[0,1,2,2,3,3,3,3,4,4,4,4,4,4,4,4,5,5,5,5,5,5,5,5,5,5,5,5,5,5,5,5,6,6,6,6,6,6,6,6,6,6,6,6,6,6,6,6,6,6,6,6,6,6,6,6,6,6,6,6,6,6,6,6,7,7,7,7,7,7,7,7,7,7,7,7,7,7,7,7,7,7,7,7,7,7,7,7,7,7,7,7,7,7,7,7,7,7,7,7,7,7,7,7,7,7,7,7,7,7,7,7,7,7,7,7,7,7,7,7,7,7,7,7,7,7,7,7,8,8,8,8,8,8,8,8,8,8,8,8,8,8,8,8,8,8,8,8,8,8,8,8,8,8,8,8,8,8,8,8,8,8,8,8,8,8,8,8,8,8,8,8,8,8,8,8,8,8,8,8,8,8,8,8,8,8,8,8,8,8,8,8,8,8,8,8,8,8,8,8,8,8,8,8,8,8,8,8,8,8,8,8,8,8,8,8,8,8,8,8,8,8,8,8,8,8,8,8,8,8,8,8,8,8,8,8,8,8,8,8,8,8,8,8,8,8,8,8,8,8,8,8,8,8,8,8]⟩ (wrap .u8 (Int.fdiv a.1 ((2:Int)^(min (Int.toNat 8) 64))))) λc=>
  some (wZ ((wZ (a.2+8))+(wZ c))))
  (aW (aki ⟨#[0,1,2,2,3,3,3,3,4,4,4,4,4,4,4,4,5,5,5,5,5,5,5,5,5,5,5,5,5,5,5,5,6,6,6,6,6,6,6,6,6,6,6,6,6,6,6,6,6,6,6,6,6,6,6,6,6,6,6,6,6,6,6,6,7,7,7,7,7,7,7,7,7,7,7,7,7,7,7,7,7,7,7,7,7,7,7,7,7,7,7,7,7,7,7,7,7,7,7,7,7,7,7,7,7,7,7,7,7,7,7,7,7,7,7,7,7,7,7,7,7,7,7,7,7,7,7,7,8,8,8,8,8,8,8,8,8,8,8,8,8,8,8,8,8,8,8,8,8,8,8,8,8,8,8,8,8,8,8,8,8,8,8,8,8,8,8,8,8,8,8,8,8,8,8,8,8,8,8,8,8,8,8,8,8,8,8,8,8,8,8,8,8,8,8,8,8,8,8,8,8,8,8,8,8,8,8,8,8,8,8,8,8,8,8,8,8,8,8,8,8,8,8,8,8,8,8,8,8,8,8,8,8,8,8,8,8,8,8,8,8,8,8,8,8,8,8,8,8,8,8,8,8,8,8,8]⟩ (wrap .u8 a.1)) λd=>
  some (wZ (a.2+(wZ d)))):=ci
def ud:Do CO:=[aqT]
def ue:FD:=cL 157 f157 .z [.h j4] [] (bg [z0] []) false true []
def afR:Nat->Int->fi:=mF ud ue
def aqU:CO:=cF ud ue afR func157
def afS N x:afR (N+1) x=aW (XZ N x) λa=>
 some a:=ci
def Ft:Do CO:=[amO,aqU]
def Fv:FD:=cL 138 f138 .z amy [] (bg [z0] []) false true []
def Ek:Nat->Int->fi:=mF Ft Fv
def VV:CO:=cF Ft Fv Ek func138
def ack N n:Ek (N+1) n=aW (Ra N n) λa=>
 cond (!a)
  (some 0)
  (aW (afR N (wrap .u64 (wZ (n - 1)))) λb=>
  some b):=ci
def uf:Do CO:=[⟨gn,gp⟩,⟨nG,mU⟩]
def v5:Do PV:=[.h j1,.h j1,.h j1,.h .b]
def ls:Nat×PV:=(4,.h j1)
def ug:FD:=cL 139 f139 .z [.ag v5,.ag v5] [] (bg [ls] []) false true []
def IM:Nat->Int×Int×Int×In×Int×Int×Int×In->fi:=mF uf ug
def amP:CO:=cF uf ug IM func139
def afT N a c e f b d g h:IM (N+1) (a,c,e,f,b,d,g,h)=aW (cV N (a,b)) λi=>
 aW (cV N (c,d)) λj=>
 aW (h9 N [i,j]) λk=>
 some k:=ci
def qA:Do CO:=[]
def aeg:Nat×PV:=(1,.h j1)
def m8:Nat×PV:=(5,.k (.ow 900))
def z9:Nat×PV:=(10,.h j1)
def WF:Nat×PV:=(11,.h j1)
def m5:Nat×PO:=(900,.arr 52 j5 true)
def X0:PS:=bg [aeg,m8,(9,.h kB),z9,WF] [m5]
def X1:Do (IR×PS):=[((.exit 0),bg [m8] [m5])]
def X2:Pl:=.z
def xS:Nat->Nat->Int×gD×Int×Int×A1->At (A1):=fx qA f68 [1,1,0,1,0,0] X0 X1 X2
def i6:Do PV:=[.h j1,.h kB]
def lm:Nat×PV:=(4,.k (.ow 900))
def yL:FD:=cL 68 f68 (.n .z (.n .z (.n (.n .z (.n (.loop X0 X1 X2) .z)) .z))) [.ag i6,.h j1] [] (bg [lm] [m5]) true true [900]
def Rc:Nat->Int×gD×Int->At (A1):=mF qA yL
def amQ:CO:=cF qA yL Rc func68
def xT N m b d c a l:xS N (m+1) (b,d,c,a,l)=cond (a<c)
 (aW (aZ d a) λe=>
 cond e.2.2.2
  (cond (b<=e.2.2.1)
   (aW (eG 16 l [(e.1,e.2.1)]) λf=>
   (xS N m (b,d,c,(wZ (a+1)),f)))
   ((xS N m (b,d,c,(wZ (a+1)),l))))
  ((xS N m (b,d,c,(wZ (a+1)),l))))
 (some l):=ci
def afU N g a b:Rc (N+1) (g,a,b)=aW (xS N N (b,a,(length a:Int),0,[])) λc=>
 some c:=ci
def Bn:Do CO:=[]
def Bo:FD:=cL 100 f100 .z amy [] (bg lc []) false true []
def z6:Nat->Int->eu:=mF Bn Bo
def NW:CO:=cF Bn Bo z6 func100
def acm N n:z6 (N+1) n=cond (1<=n)
 (some (decide (n<=64)))
 (some false):=ci
def vU:Do CO:=[NW]
def i9:Nat×PV:=(2,.k (.pt 900 0))
def aec:Nat×PV:=(4,.k (.pt 901 0))
def ap2:Nat×PV:=(13,.h j1)
def ul:Do PV:=[.h j1,.k .nil]
def aed:Nat×PO:=(902,.arr 40 j6 true)
def ao3:Do (Nat×PO):=[(900,.box 83 ul),(901,.box 83 [.h j1,.k (.ow 902)]),aed]
def Re:PS:=bg [i9,aec,(12,.h j1),ap2] ao3
def Rf:Do (IR×PS):=[((.exit 0),bg [i9,aec] ao3)]
def Rg:Pl:=.z
def Bp:Nat->Nat->Int×Int×Int×Int×A3->At A12:=fx vU f140 [1,1,1,0,1,0,0] Re Rf Rg
def NE:Nat×PV:=(3,.h j1)
def io:Do PV:=[.h j1,.h fZ]
def m6:Nat×PO:=(900,.box 83 io)
def Fw:FD:=cL 140 f140 (.n .z (.n .z (.n .z (.n (.n .z (.n (.loop Re Rf Rg) .z)) .z)))) amy [] (bg [i9,NE] [m6]) false false []
def NX:Nat->Int->At A12:=mF vU Fw
def aoi:CO:=cF vU Fw NX func140
def IN N m b a c f d:Bp N (m+1) (b,a,c,f,d)=cond (a<b)
 (aW (eG 24 d [[a]]) λe=>
 (Bp N m (b,(wZ (a+1)),c,f,e)))
 (some (c,f,d)):=ci
def acn N n:NX (N+1) n=aW (z6 N n) λb=>
 cond (!b)
  (some (1,0,[]))
  (aW (Bp N N (n,0,0,n,[])) λa=>
  some (0,a.2.1,a.2.2)):=ci
def qF:Do CO:=[]
def up:Nat×PV:=(3,.k (.ow 900))
def z3:Nat×PV:=(7,.h j1)
def ut:Nat×PV:=(8,.h j1)
def gc:Nat×PO:=(900,.arr 3 j1 true)
def X3:PS:=bg [up,(6,.h iw),z3,ut] [gc]
def X4:Do (IR×PS):=[((.exit 0),bg [up] [gc])]
def X5:Pl:=.z
def GZ:Nat->Nat->A1×Int×Int×aX->mf:=fx qF f222 [1,1,0,1,0,0] X3 X4 X5
def m2:Nat×PV:=(2,.k (.ow 900))
def yM:FD:=cL 222 f222 (.n .z (.n .z (.n (.n .z (.n (.loop X3 X4 X5) .z)) .z))) [.h iw] [] (bg [m2] [gc]) true true [900]
def X6:Nat->A1->mf:=mF qF yM
def aqV:CO:=cF qF yM X6 func222
def LJ N m c d a b:GZ N (m+1) (c,d,a,b)=cond (a<d)
 (aW (aZ c a) λe=>
 aW (eG 8 b [e.1,e.2]) λf=>
 (GZ N m (c,d,(wZ (a+1)),f)))
 (some b):=ci
def afV N l:X6 (N+1) l=aW (GZ N N (l,(length l:Int),0,[])) λa=>
 some a:=ci
def vV:Do CO:=[]
def vW:FD:=cL 172 f172 .z amy [] (bg lc []) false true []
def X7:Nat->Int->eu:=mF vV vW
def aqW:CO:=cF vV vW X7 func172
def afW N t:X7 (N+1) t=cond (t<0)
 (some true)
 (some (decide (10000<t))):=ci
def dN:Do CO:=[aqW]
def aj0:Nat×PV:=(0,.h j6)
def X8:PS:=bg [aj0,(1,.k (.v (.func (.func 172) #[] #[]))),z3,ut] []
def X9:Do (IR×PS):=[((.exit 0),bg [] []),(.ret,bg [ls] [])]
def X_:Pl:=.z
def G1:Nat->Nat->aX×Int×Int->At ((Unit)⊕(Int)):=fx dN f131 [1,0,1,0,0] X8 X9 X_
def aqj:Do PV:=[.h j6,.k (.v (.func (.func 172) #[] #[]))]
def e9:FD:=cL 131 f131 (.n .z (.n (.n .z (.n (.loop X8 X9 X_) .z)) .z)) aqj [] (bg [ls] []) false true []
def afX:Nat->aX->fi:=mF dN e9
def aqX:CO:=cF dN e9 afX aza
def LK N m s b a:G1 N (m+1) (s,b,a)=cond (a<b)
 (aW (aZ s a) λc=>
 aW (X7 N c) λd=>
 cond d
  (some (.inr a))
  ((G1 N m (s,b,(wZ (a+1))))))
 (some (.inl ())):=ci
def afY N s:afX (N+1) s=aW (G1 N N (s,(length s:Int),0)) λa=>
 (match a with
 |.inl c=>some (-1)
 |.inr b=>some b):=ci
def eU:Do CO:=[aqX]
def n7:Do (Nat×PV):=[(4,.h .b)]
def eV:FD:=cL 60 f60 .z aqj [] (bg n7 []) false true []
def Ya:Nat->aX->eu:=mF eU eV
def aqY:CO:=cF eU eV Ya azy
def afZ N s:Ya (N+1) s=aW (afX N s) λa=>
 some (decide (0<=a)):=ci
def mV:Do CO:=[]
def aub:Nat×PV:=(3,.k (.mp 900))
def aet:Nat×PV:=(9,.h j1)
def Yb:PS:=bg [aj0,aub,(7,.h j6),ut,aet] [(900,.mp (.int .i64) j1 j1)]
def Yc:Do (IR×PS):=[((.exit 0),bg [aj0,aub] [(900,.mp (.int .i64) j1 j1)])]
def Yd:Pl:=.z
def G2:Nat->Nat->aX×aX×Int×Int×A1->At (aX×A1):=fx mV f173 [1,1,0,1,0,0] Yb Yc Yd
def atl:Do PV:=[.h j6]
def uh:FD:=cL 173 f173 (.n .z (.n .z (.n (.n .z (.n (.loop Yb Yc Yd) .z)) .z))) atl [] (bg lc []) false true []
def Ye:Nat->aX->eu:=mF mV uh
def aqZ:CO:=cF mV uh Ye func173
def LL N m l c d b a:G2 N (m+1) (l,c,d,b,a)=cond (b<d)
 (aW (aZ c b) λe=>
 (G2 N m (l,c,d,(wZ (b+1)),(d_ j1 a e (wZ ((Option.getD (bN j1 a e) 0)+1))))))
 (some (l,a)):=ci
def af0 N l:Ye (N+1) l=aW (G2 N N (l,l,(length l:Int),0,[])) λa=>
 some (decide ((length a.2:Int)=(length a.1:Int))):=ci
def Bq:Do CO:=[aqY,aqZ]
def Br:FD:=cL 101 f101 .z atl [] (bg lc []) false true []
def Em:Nat->aX->eu:=mF Bq Br
def VW:CO:=cF Bq Br Em func101
def aco N l:Em (N+1) l=cond (1000<(length l:Int))
 (some false)
 (aW (Ya N l) λa=>
 cond (!a)
  (aW (Ye N l) λb=>
  some b)
  (some false)):=ci
def iC:Do CO:=[]
def Yf:PS:=bg [aj0,NE,ls] []
def Yg:Do (IR×PS):=[((.exit 0),bg [NE] [])]
def Yh:Pl:=.z
def G3:Nat->Nat->aX×Int×Int->fi:=fx iC f102 [1,1,1,0,1,0,0] Yf Yg Yh
def lJ:FD:=cL 102 f102 (.n .z (.n .z (.n .z (.n (.n .z (.n (.loop Yf Yg Yh) .z)) .z)))) atl [] (bg [z0] []) false true []
def Rh:Nat->aX->fi:=mF iC lJ
def amR:CO:=cF iC lJ Rh func102
def LM N m x a i:G3 N (m+1) (x,a,i)=cond (i<(length x:Int))
 (aW (aZ x i) λb=>
 (G3 N m (x,(if(b<a)then b else a),(wZ (i+1)))))
 (some a):=ci
def af1 N x:Rh (N+1) x=cond ((length x:Int)<1)
 none
 (aW (aZ x 0) λa=>
 aW (G3 N N (x,a,1)) λb=>
 some b):=ci
def LN:Do CO:=[NW]
def PP:Do PV:=[.h j1,.h j1]
def LO:FD:=cL 143 f143 .z PP [] (bg n7 []) false true []
def qG:Nat->Int×Int->eu:=mF LN LO
def NY:CO:=cF LN LO qG func143
def acp N n v:qG (N+1) (n,v)=aW (z6 N n) λa=>
 cond a
  (cond (0<=v)
   (some (decide (v<n)))
   (some false))
  (some false):=ci
def Bt:Do CO:=[NW]
def to:Nat×PV:=(5,.h j1)
def ap3:Nat×PV:=(6,.h .b)
def asv:Nat×PV:=(7,.h .b)
def Bu:FD:=cL 174 f174 .z PP [] (bg [ls,to,ap3,asv] []) false true []
def NZ:Nat->Int×Int->At (Int×Int×In×In):=mF Bt Bu
def aoj:CO:=cF Bt Bu NZ func174
def acq N n a:NZ (N+1) (n,a)=aW (z6 N n) λd=>
 cond (!d)
  (some (0,0,false,false))
  (cond (a<0)
   (some (0,0,false,false))
   (cond ((wZ (n*(wZ (n+1))))<=a)
    (some (0,0,false,false))
    (cond (a<n)
     (some (a,0,false,true))
     (aW (Vb a n) λb=>
     aW (Va a n) λc=>
     cond ((wZ ((wZ b) - 1))=c)
      (some (0,0,false,false))
      (some ((wZ ((wZ b) - 1)),c,true,true)))))):=ci
def kC:Do CO:=[]
def adc:Do PV:=[.k (.pt 4294967296 0),.h j1,.h j1]
def kD:FD:=cL 175 f175 .z adc [(4294967296,.box 272 [.k (.ow 4294967297),.k (.mp 4294967298),.k (.mp 4294967299)]),(4294967297,.arr 3 j1 true),(4294967298,.mp (.int .i64) j1 j1),(4294967299,.mp (.int .i64) j1 j1)] (bg [ap3] [(4294967298,.mp (.int .i64) j1 j1),(4294967299,.mp (.int .i64) j1 j1),(4294967296,.box 272 [.k (.ow 900),.k (.mp 4294967298),.k (.mp 4294967299)]),gc]) true true [4294967298,4294967299,4294967296,900]
def Yi:Nat->Int×Int×aX×A1×A1->At (In×A1×A1×aX):=mF kC kD
def aq0:CO:=cF kC kD Yi func175
def af2 N u v h a b:Yi (N+1) (u,v,h,a,b)=aW (aZ h (wZ ((length h:Int) - 1))) λi=>
 aW (aZ h (wZ ((length h:Int) - 1))) λc=>
 cond (!(c=u))
  (some (false,a,b,h))
  (cond (0<(wZ ((length h:Int) - 1)))
   (aW (aZ h (wZ ((wZ ((length h:Int) - 1)) - 1))) λj=>
   aW (aZ h (wZ ((wZ ((length h:Int) - 1)) - 1))) λd=>
   cond (d=v)
    (aW (kj h 0 (wZ ((length h:Int) - 1))) λe=>
    some (true,a,b,e))
    (cond (0<(Option.getD (bN j1 a v) 0))
     (some (false,a,b,h))
     (aW (eG 8 h [v]) λf=>
     some (true,(d_ j1 a v (wZ ((Option.getD (bN j1 a v) 0)+1))),b,f))))
   (cond (0<(Option.getD (bN j1 a v) 0))
    (some (false,a,b,h))
    (aW (eG 8 h [v]) λg=>
    some (true,(d_ j1 a v (wZ ((Option.getD (bN j1 a v) 0)+1))),b,g)))):=ci
def vX:Do CO:=[NY,aoj,aq0]
def atn:Nat×PV:=(5,.k (.pt 900 0))
def m4:Nat×PO:=(901,.arr 3 j1 true)
def abs:Do (Nat×PO):=[(900,.box 272 [.k (.ow 901),.k (.mp 902),.k (.mp 903)]),m4,(902,.mp (.int .i64) j1 j1),(903,.mp (.int .i64) j1 j1)]
def Ri:PS:=bg [(0,.h j1),atn,(30,.h j6),(31,.h j1),(32,.h j1)] abs
def Rj:Do (IR×PS):=[((.exit 0),bg [atn] abs),(.ret,bg n7 [])]
def Rk:Pl:=.z
def i_:Nat->Nat->Int×aX×Int×Int×aX×A1×A1->At ((aX×A1×A1)⊕(In)):=fx vX f103 [1,1,1,0,1,0,0] Ri Rj Rk
def Fx:FD:=cL 103 f103 (.n .z (.n .z (.n .z (.n (.n .z (.n (.loop Ri Rj Rk) .z)) .z)))) [.h j1,.h j6] [] (bg n7 []) false true []
def N0:Nat->Int×aX->eu:=mF vX Fx
def aok:CO:=cF vX Fx N0 func103
def VX N m n e f c d h g:i_ N (m+1) (n,e,f,c,d,h,g)=cond (c<f)
 (aW (aZ e c) λi=>
 aW (NZ N (n,i)) λa=>
 cond (!a.2.2.2)
  (some (.inr false))
  (cond a.2.2.1
   (aW (Yi N (a.1,a.2.1,d,h,g)) λb=>
   cond (!b.1)
    (some (.inr false))
    (cond (!a.2.2.1)
     (aW (aZ b.2.2.2 (wZ ((length b.2.2.2:Int) - 1))) λl=>
     aW (aZ b.2.2.2 (wZ ((length b.2.2.2:Int) - 1))) λj=>
     cond (!(j=a.1))
      (some (.inr false))
      (cond (!a.2.2.1)
       ((i_ N m (n,e,f,(wZ (c+1)),b.2.2.2,b.2.1,(d_ j1 b.2.2.1 a.1 (wZ ((Option.getD (bN j1 b.2.2.1 a.1) 0)+1))))))
       ((i_ N m (n,e,f,(wZ (c+1)),b.2.2.2,b.2.1,b.2.2.1)))))
     (cond (!a.2.2.1)
      ((i_ N m (n,e,f,(wZ (c+1)),b.2.2.2,b.2.1,(d_ j1 b.2.2.1 a.1 (wZ ((Option.getD (bN j1 b.2.2.1 a.1) 0)+1))))))
      ((i_ N m (n,e,f,(wZ (c+1)),b.2.2.2,b.2.1,b.2.2.1))))))
   (cond (!a.2.2.1)
    (aW (aZ d (wZ ((length d:Int) - 1))) λo=>
    aW (aZ d (wZ ((length d:Int) - 1))) λk=>
    cond (!(k=a.1))
     (some (.inr false))
     (cond (!a.2.2.1)
      ((i_ N m (n,e,f,(wZ (c+1)),d,h,(d_ j1 g a.1 (wZ ((Option.getD (bN j1 g a.1) 0)+1))))))
      ((i_ N m (n,e,f,(wZ (c+1)),d,h,g)))))
    (cond (!a.2.2.1)
     ((i_ N m (n,e,f,(wZ (c+1)),d,h,(d_ j1 g a.1 (wZ ((Option.getD (bN j1 g a.1) 0)+1))))))
     ((i_ N m (n,e,f,(wZ (c+1)),d,h,g)))))))
 (some (.inl (d,h,g))):=ci
def acr N n l:N0 (N+1) (n,l)=aW (aZ l 0) λb=>
 aW (qG N (n,b)) λc=>
 cond (!c)
  (some false)
  (aW (aZ l 0) λd=>
  aW (aZ l 0) λe=>
  aW (i_ N N (n,l,(length l:Int),0,[d],(d_ j1 [] e 1),[])) λf=>
  (match f with
  |.inl a=>cond ((length a.1:Int)=1)
   (some (decide ((length a.2.2:Int)=(length a.2.1:Int))))
   (some false)
  |.inr g=>some g)):=ci
def k6:Do CO:=[NW,VW,amR,aok]
def Rl:PS:=bg [aub,(78,.h j1),(79,.h j1)] [(900,.mp (.int .i64) j1 j1)]
def Rm:Do (IR×PS):=[((.exit 4),bg [] []),(.ret,bg lc [])]
def Rn:Pl:=.z
def Bv:Nat->Nat->Int×Int×A1->At ((Unit)⊕(In)):=fx k6 f38 [1,1,1,1,1,0,1,0,0] Rl Rm Rn
def ii:Nat×PV:=(1,.k (.pt 900 0))
def aia:Nat×PV:=(3,.k (.mp 901))
def atg:Nat×PV:=(18,.h j1)
def Ro:PS:=bg [ii,aia,ls,(16,.h fZ),(17,.h j1),atg,(55,.h j6),(56,.h j1),(57,.h j1)] [m6,(901,.mp (.int .i64) j1 j1)]
def Rp:Do (IR×PS):=[((.exit 2),bg [ii,aia,ls,(16,.h fZ),(17,.h j1),atg] [m6,(901,.mp (.int .i64) j1 j1)]),(.ret,bg lc [])]
def Rq:Pl:=.z
def vY:Nat->Nat->Int×A3×Int×Int×aX×Int×Int×Int×A3×A1->At ((Int×A3×Int×Int×Int×A3×A1)⊕(In)):=fx k6 f38 [1,1,1,1,0,1,0,0,1,1,0,0,1,1,1,1,0,0] Ro Rp Rq
def Rr:PS:=bg [ii,aia,ls,(16,.h fZ),(17,.h j1),atg] [m6,(901,.mp (.int .i64) j1 j1)]
def Rs:Do (IR×PS):=[((.exit 0),bg [ii,aia] [m6,(901,.mp (.int .i64) j1 j1)]),(.ret,bg lc [])]
def Rt:Pl:=(.n .z (.n .z (.n (.n (.n .z (.n .z (.n .z (.n .z (.n (.loop Ro Rp Rq) .z))))) .z) .z)))
def Bw:Nat->Nat->Int×A3×Int×Int×Int×A3×A1->At ((Int×A3×A1)⊕(In)):=fx k6 f38 [1,1,1,1,0,1,0,0] Rr Rs Rt
def By:FD:=cL 38 f38 (.n .z (.n .z (.n .z (.n .z (.n (.n .z (.n (.loop Rr Rs Rt) .z)) (.n (.n .z (.n (.loop Rl Rm Rn) .z)) .z)))))) [.ag io] [] (bg lc []) false true []
def vZ:Nat->Int×A3->eu:=mF k6 By
def N1:CO:=cF k6 By vZ func38
def VY N m c a b:Bv N (m+1) (c,a,b)=cond (a<c)
 (cond ((Option.getD (bN j1 b a) 0)=0)
  (some (.inr false))
  ((Bv N m (c,(wZ (a+1)),b))))
 (some (.inl ())):=ci
def VZ N m e g h i j k c f d a:vY N (m+1) (e,g,h,i,j,k,c,f,d,a)=cond (c<k)
 (aW (aZ j c) λb=>
 cond (b<f)
  (cond (0<(Option.getD (bN j1 a b) 0))
   (some (.inr false))
   ((vY N m (e,g,h,i,j,k,(wZ (c+1)),f,d,(d_ j1 a b (wZ ((Option.getD (bN j1 a b) 0)+1)))))))
  ((vY N m (e,g,h,i,j,k,(wZ (c+1)),f,d,(d_ j1 a b (wZ ((Option.getD (bN j1 a b) 0)+1)))))))
 (some (.inl (e,g,h,i,f,d,a))):=ci
def V0 N m i g h c f d e:Bw N (m+1) (i,g,h,c,f,d,e)=cond (c<h)
 (aW (aZ g c) λa=>
 cond ((length a:Int)=0)
  (some (.inr false))
  (aW (aZ a 0) λj=>
  cond (j<=i)
   (some (.inr false))
   (aW (Em N a) λk=>
   cond (!k)
    (some (.inr false))
    (aW (Rh N a) λl=>
    aW (aZ a 0) λn=>
    cond (!(l=n))
     (some (.inr false))
     (aW (N0 N (f,a)) λo=>
     cond (!o)
      (some (.inr false))
      (aW (aZ a 0) λp=>
      aW (vY N N (p,g,h,c,a,(length a:Int),0,f,d,e)) λq=>
      (match q with
      |.inl b=>(Bw N m (b.1,b.2.1,b.2.2.1,(wZ (b.2.2.2.1+1)),b.2.2.2.2.1,b.2.2.2.2.2.1,b.2.2.2.2.2.2))
      |.inr r=>some (.inr r))))))))
 (some (.inl (f,d,e))):=ci
def acs N f a:vZ (N+1) (f,a)=aW (z6 N f) λc=>
 cond (!c)
  (some false)
  (aW (Bw N N ((-1),a,(length a:Int),0,f,a,[])) λd=>
  (match d with
  |.inl b=>aW (Bv N N (b.1,0,b.2.2)) λe=>
   (match e with
   |.inl i=>some true
   |.inr g=>some g)
  |.inr h=>some h)):=ci
def mu:Do CO:=[]
def am4:Do PV:=[.h j1,.k (.pt 4294967296 0)]
def pm:Do (Nat×PO):=[(4294967296,.box 83 io)]
def apa:Nat×PV:=(3,.h .b)
def mv:FD:=cL 142 f142 .z am4 pm (bg [apa] pm) true false [4294967296]
def Yj:Nat->Int×Int×A3->At (In×Int×A3):=mF mu mv
def aq1:CO:=cF mu mv Yj func142
def af3 N v a b:Yj (N+1) (v,a,b)=cond (v<0)
 (some (true,a,b))
 (some ((decide (a<=v)),a,b)):=ci
def cH:Do CO:=[aq1]
def li:Do PV:=[.k (.pt 4294967296 0)]
def Yk:PS:=bg [aj0,(1,.cl (.func 142) [] li),z3,ut] pm
def Yl:Do (IR×PS):=[((.exit 0),bg [] pm),(.ret,bg [ls] pm)]
def Ym:Pl:=.z
def G4:Nat->Nat->aX×Int×Int×Int×A3->At ((Int×A3)⊕A12):=fx cH f131 [1,0,1,0,0] Yk Yl Ym
def at6:Do PV:=[.h j6,.cl (.func 142) [] li]
def ea:FD:=cL 131 f131 (.n .z (.n (.n .z (.n (.loop Yk Yl Ym) .z)) .z)) at6 pm (bg [ls] pm) true false [4294967296]
def af4:Nat->aX×Int×A3->At A12:=mF cH ea
def aq2:CO:=cF cH ea af4 aza
def acu N m s d a f c:G4 N (m+1) (s,d,a,f,c)=cond (a<d)
 (aW (aZ s a) λe=>
 aW (Yj N (e,f,c)) λb=>
 cond b.1
  (some (.inr (a,b.2.1,b.2.2)))
  ((G4 N m (s,d,(wZ (a+1)),b.2.1,b.2.2))))
 (some (.inl (f,c))):=ci
def af5 N s f b:af4 (N+1) (s,f,b)=aW (G4 N N (s,(length s:Int),0,f,b)) λd=>
 (match d with
 |.inl c=>some ((-1),c.1,c.2)
 |.inr a=>some (a.1,a.2.1,a.2.2)):=ci
def dG:Do CO:=[aq2]
def dH:FD:=cL 60 f60 .z at6 pm (bg n7 pm) true false [4294967296]
def aol:Nat->aX×Int×A3->At (In×Int×A3):=mF dG dH
def auj:CO:=cF dG dH aol azy
def ak7 N s f b:aol (N+1) (s,f,b)=aW (af4 N (s,f,b)) λa=>
 some ((decide (0<=a.1)),a.2.1,a.2.2):=ci
def v8:Do CO:=[N1,auj]
def v_:FD:=cL 69 f69 .z [.ag io,.h j6] [] (bg [ls] []) false true []
def Fy:Nat->Int×A3×aX->fi:=mF v8 v_
def Ru:CO:=cF v8 v_ Fy func69
def af6 N f a b:Fy (N+1) (f,a,b)=aW (vZ N (f,a)) λc=>
 cond (!c)
  (some 1)
  (aW (aol N (b,f,a)) λd=>
  cond d.1
   (some 10)
   (some 0)):=ci
def Bz:Do CO:=[N1,NY]
def wl:Nat×PV:=(6,.h j1)
def BA:FD:=cL 223 f223 .z [.ag io,.h j1,.h j1] [] (bg [wl] []) false true []
def N3:Nat->Int×A3×Int×Int->fi:=mF Bz BA
def aom:CO:=cF Bz BA N3 func223
def acv N f a u v:N3 (N+1) (f,a,u,v)=aW (vZ N (f,a)) λb=>
 cond (!b)
  (some 1)
  (aW (qG N (f,u)) λc=>
  cond (!c)
   (some 10)
   (aW (qG N (f,v)) λd=>
   cond (!d)
    (some 10)
    (some 0))):=ci
def gY:Do CO:=[]
def Yn:PS:=bg [aj0,aeg,z3,ut] []
def Yo:Do (IR×PS):=[((.exit 0),bg [] []),(.ret,bg [ls] [])]
def Yp:Pl:=.z
def G5:Nat->Nat->aX×Int×Int×Int->At ((Unit)⊕(Int)):=fx gY f134 [1,0,1,0,0] Yn Yo Yp
def aqr:Do PV:=[.h j6,.h j1]
def kE:FD:=cL 134 f134 (.n .z (.n (.n .z (.n (.loop Yn Yo Yp) .z)) .z)) aqr [] (bg [ls] []) false true []
def LP:Nat->aX×Int->fi:=mF gY kE
def af7:CO:=cF gY kE LP func134
def LQ N m s v b a:G5 N (m+1) (s,v,b,a)=cond (a<b)
 (aW (aZ s a) λc=>
 cond (v=c)
  (some (.inr a))
  ((G5 N m (s,v,b,(wZ (a+1))))))
 (some (.inl ())):=ci
def af8 N s v:LP (N+1) (s,v)=aW (G5 N N (s,v,(length s:Int),0)) λa=>
 (match a with
 |.inl c=>some (-1)
 |.inr b=>some b):=ci
def ja:Do CO:=[af7]
def jb:FD:=cL 190 f190 .z aqr [] (bg n7 []) false true []
def IP:Nat->aX×Int->eu:=mF ja jb
def Yq:CO:=cF ja jb IP func190
def af9 N s v:IP (N+1) (s,v)=aW (LP N (s,v)) λa=>
 some (decide (0<=a)):=ci
def pn:Do CO:=[Yq]
def wd:Do (Nat×PO):=[(4294967296,.box 3 amy)]
def po:FD:=cL 189 f189 .z [.h j6,.k (.pt 4294967296 0)] wd (bg [apa] wd) true true [4294967296]
def af_:Nat->aX×Int->At (In×Int):=mF pn po
def aq3:CO:=cF pn po af_ func189
def aga N l a:af_ (N+1) (l,a)=aW (IP N (l,a)) λb=>
 some (b,a):=ci
def cK:Do CO:=[aq3]
def Yr:PS:=bg [(0,.h fZ),(1,.cl (.func 189) [] li),z3,ut] wd
def Ys:Do (IR×PS):=[((.exit 0),bg [] wd),(.ret,bg [ls] wd)]
def Yt:Pl:=.z
def G6:Nat->Nat->A3×Int×Int×Int->At ((Int)⊕(Int×Int)):=fx cK f188 [1,0,1,0,0] Yr Ys Yt
def ee:FD:=cL 188 f188 (.n .z (.n (.n .z (.n (.loop Yr Ys Yt) .z)) .z)) [.h fZ,.cl (.func 189) [] li] wd (bg [ls] wd) true true [4294967296]
def agb:Nat->A3×Int->KQ:=mF cK ee
def aq4:CO:=cF cK ee agb func188
def acw N m s b a f:G6 N (m+1) (s,b,a,f)=cond (a<b)
 (aW (aZ s a) λd=>
 aW (af_ N (d,f)) λc=>
 cond c.1
  (some (.inr (a,c.2)))
  ((G6 N m (s,b,(wZ (a+1)),c.2))))
 (some (.inl f)):=ci
def agc N s f:agb (N+1) (s,f)=aW (G6 N N (s,(length s:Int),0,f)) λb=>
 (match b with
 |.inl c=>some ((-1),c)
 |.inr a=>some (a.1,a.2)):=ci
def BB:Do CO:=[aq4]
def ath:Do PV:=[.ag io,.h j1]
def BC:FD:=cL 144 f144 .z ath [] (bg [ls] []) false true []
def Eo:Nat->Int×A3×Int->fi:=mF BB BC
def agd:CO:=cF BB BC Eo func144
def acx N f a v:Eo (N+1) (f,a,v)=aW (agb N (a,v)) λb=>
 some b.1:=ci
def qI:Do CO:=[VW,af7,Yq]
def nl:Nat×PV:=(6,.k (.ow 900))
def M2:Nat×PV:=(14,.h j1)
def Yu:PS:=bg [aj0,nl,(12,.h j6),ap2,M2] [gc]
def Yv:Do (IR×PS):=[((.exit 0),bg [nl] [gc])]
def Yw:Pl:=.z
def G7:Nat->Nat->aX×aX×Int×Int×aX->mf:=fx qI f264 [1,1,1,0,1,0,0] Yu Yv Yw
def yN:FD:=cL 264 f264 (.n .z (.n .z (.n .z (.n (.n .z (.n (.loop Yu Yv Yw) .z)) .z)))) [.h j6,.h j6] [] (bg [lm,(5,.h .b)] [gc]) true true [900]
def Yx:Nat->aX×aX->At A9:=mF qI yN
def aq5:CO:=cF qI yN Yx func264
def LS N m l b c a d:G7 N (m+1) (l,b,c,a,d)=cond (a<c)
 (aW (aZ b a) λe=>
 aW (LP N (l,e)) λf=>
 aW (eG 8 d [f]) λg=>
 (G7 N m (l,b,c,(wZ (a+1)),g)))
 (some d):=ci
def age N l a:Yx (N+1) (l,a)=aW (Em N l) λc=>
 cond (!c)
  (some (false,[]))
  (aW (G7 N N (l,a,(length a:Int),0,[])) λb=>
  aW (IP N (b,(-1))) λd=>
  some ((!d),b)):=ci
def fo:Do CO:=[⟨k5,o5⟩]
def atq:Nat×PV:=(26,.h j1)
def Yy:PS:=bg [nl,(25,.h fZ),atq,(27,.h j1)] [gc]
def Yz:Do (IR×PS):=[((.exit 2),bg [nl] [gc])]
def YA:Pl:=.z
def xU:Nat->Nat->A3×Int×Int×aX->mf:=fx fo f123 [1,1,1,1,0,1,0,0] Yy Yz YA
def YB:PS:=bg [(0,.h fZ),NE,(9,.h fZ),z9,WF] []
def YC:Do (IR×PS):=[((.exit 0),bg [(0,.h fZ),NE] [])]
def YD:Pl:=.z
def xV:Nat->Nat->A3×Int×A3×Int×Int->At (A3×Int):=fx fo f123 [1,1,0,1,0,0] YB YC YD
def jT:FD:=cL 123 f123 (.n .z (.n .z (.n (.n .z (.n (.loop YB YC YD) .z)) (.n .z (.n (.n .z (.n (.loop Yy Yz YA) .z)) .z))))) [.h fZ] [] (bg [m2] [gc]) true true [900]
def LU:Nat->A3->mf:=mF fo jT
def amS:CO:=cF fo jT LU func123
def xW N m c d a b:xU N (m+1) (c,d,a,b)=cond (a<d)
 (aW (aZ c a) λe=>
 aW (eG 8 b e) λf=>
 (xU N m (c,d,(wZ (a+1)),f)))
 (some b):=ci
def xX N m c a e d b:xV N (m+1) (c,a,e,d,b)=cond (b<d)
 (aW (aZ e b) λf=>
 cond ((wZ (a+(length f:Int)))<0)
  none
  ((xV N m (c,(wZ (a+(length f:Int))),e,d,(wZ (b+1))))))
 (some (c,a)):=ci
def Rv N a:LU (N+1) a=aW (xV N N (a,0,a,(length a:Int),0)) λb=>
 aW (fC N b.2) λd=>
 aW (xU N N (b.1,(length b.1:Int),0,[])) λc=>
 some c:=ci
def yO:Do CO:=[amS]
def yP:FD:=cL 265 f265 .z aqr [] (bg [lm] [gc]) true true [900]
def Rx:Nat->aX×Int->mf:=mF yO yP
def amT:CO:=cF yO yP Rx func265
def agf N l a:Rx (N+1) (l,a)=aW (kj l a (length l:Int)) λb=>
 aW (kj l 0 a) λc=>
 aW (LU N [b,c]) λd=>
 some d:=ci
def Fz:Do CO:=[aq5,amT]
def FA:FD:=cL 224 f224 .z aqr [] (bg [lm,(5,.h .b)] [gc]) true true [900]
def IQ:Nat->aX×Int->At A9:=mF Fz FA
def aon:CO:=cF Fz FA IQ func224
def acy N l b:IQ (N+1) (l,b)=aW (Yx N (l,[b])) λa=>
 cond (!a.1)
  (some (false,[]))
  (aW (aZ a.2 0) λe=>
  aW (aZ a.2 0) λc=>
  aW (Rx N (l,c)) λd=>
  some (true,d)):=ci
def IS:Do CO:=[NY]
def m9:Do PV:=[.h j1,.h j1,.h j1]
def IT:FD:=cL 225 f225 .z m9 [] (bg [wl] []) false true []
def IU:Nat->Int×Int×Int->fi:=mF IS IT
def aoo:CO:=cF IS IT IU func225
def acz N n u v:IU (N+1) (n,u,v)=cond (u=v)
 (some (-1))
 (aW (qG N (n,u)) λa=>
 cond (!a)
  (some (-1))
  (aW (qG N (n,v)) λb=>
  cond (!b)
   (some (-1))
   (some (wZ ((wZ (n*(wZ (u+1))))+v))))):=ci
def BD:Do CO:=[VW,amR,af7,amT]
def BE:FD:=cL 266 f266 .z atl [] (bg [m2] [gc]) true true [900]
def N4:Nat->aX->mf:=mF BD BE
def aop:CO:=cF BD BE N4 func266
def acA N l:N4 (N+1) l=aW (Em N l) λa=>
 cond (!a)
  (some [])
  (cond ((length l:Int)=0)
   (some [])
   (aW (Rh N l) λb=>
   aW (LP N (l,b)) λc=>
   aW (Rx N (l,c)) λd=>
   some d)):=ci
def pv:Do CO:=[Yq,aop,⟨eY,gR⟩]
def Or:Nat×PV:=(3,.k (.pt 900 0))
def WP:Nat×PV:=(6,.k (.pt 901 0))
def aj1:Nat×PV:=(7,.k (.ow 902))
def aj2:Nat×PO:=(901,.box 83 ul)
def Ry:PS:=bg [Or,WP,aj1,(29,.h fZ),(30,.h j1),(31,.h j1)] [m6,aj2,aed]
def Rz:Do (IR×PS):=[((.exit 2),bg [Or,WP,aj1] [m6,aj2,aed])]
def RA:Pl:=.z
def BF:Nat->Nat->A3×Int×Int×Int×A3×Int×A3->At (Int×A3×Int×A3):=fx pv f226 [1,1,1,0,1,0,0] Ry Rz RA
def atr:Nat×PV:=(15,.h j1)
def RC:PS:=bg [(1,.h j6),(2,.h fZ),Or,WP,aj1,(13,.h fZ),M2,atr] [m6,aj2,aed]
def RD:Do (IR×PS):=[((.exit 0),bg [(2,.h fZ),Or,WP,aj1] [m6,aj2,aed])]
def RE:Pl:=.z
def rB:Nat->Nat->aX×A3×A3×Int×Int×Int×A3×Int×A3->At (A3×Int×A3×Int×A3):=fx pv f226 [1,1,0,1,0,0] RC RD RE
def Pi:Nat×PV:=(6,.k (.pt 900 0))
def FB:FD:=cL 226 f226 (.n .z (.n .z (.n (.n .z (.n (.loop RC RD RE) .z)) (.n (.n .z (.n (.loop Ry Rz RA) .z)) .z)))) [.ag io,.h j6,.h fZ] [] (bg [Pi] [m6]) false false []
def N5:Nat->Int×A3×aX×A3->At (Int×A3):=mF pv FB
def aoq:CO:=cF pv FB N5 func226
def IV N m c d a f b e l:BF N (m+1) (c,d,a,f,b,e,l)=cond (a<d)
 (aW (aZ c a) λg=>
 aW (N4 N g) λh=>
 aW (eG 24 l [h]) λi=>
 (BF N m (c,d,(wZ (a+1)),f,b,e,i)))
 (some (f,b,e,l)):=ci
def z7 N m b c e g a f d h l:rB N (m+1) (b,c,e,g,a,f,d,h,l)=cond (a<g)
 (aW (aZ e a) λi=>
 aW (IP N (b,a)) λj=>
 cond (!j)
  (aW (eG 24 l [i]) λk=>
  (rB N m (b,c,e,g,(wZ (a+1)),f,d,h,k)))
  ((rB N m (b,c,e,g,(wZ (a+1)),f,d,h,l))))
 (some (c,f,d,h,l)):=ci
def acB N f b c d:N5 (N+1) (f,b,c,d)=aW (rB N N (c,d,b,(length b:Int),0,f,b,0,[])) λa=>
 aW (BF N N (a.1,(length a.1:Int),0,a.2.1,a.2.2.1,a.2.2.2.1,a.2.2.2.2)) λe=>
 aW (bC N e.2.2.2) λg=>
 some (e.1,g):=ci
def FF:Do CO:=[aom,agd,aon,aoo,amS,aoq]
def FG:FD:=cL 187 f187 .z [.ag io,.h j1,.h j1] [] (bg [Pi,z3] [m6]) false false []
def N6:Nat->Int×A3×Int×Int->At A12:=mF FF FG
def aor:CO:=cF FF FG N6 func187
def acC N f a u v:N6 (N+1) (f,a,u,v)=aW (N3 N (f,a,u,v)) λe=>
 cond (!(e=0))
  (some (e,f,a))
  (aW (Eo N (f,a,u)) λb=>
  aW (Eo N (f,a,v)) λc=>
  cond (b=c)
   (some (5,f,a))
   (aW (aZ a b) λk=>
   aW (IQ N (k,u)) λd=>
   aW (aZ a c) λl=>
   aW (IQ N (l,v)) λm=>
   aW (kj d.2 0 1) λn=>
   aW (IU N (f,u,v)) λo=>
   aW (IU N (f,v,u)) λh=>
   aW (kj d.2 1 (length d.2:Int)) λi=>
   aW (LU N [n,[o],m.2,[h],i]) λj=>
   aW (N5 N (f,a,[b,c],[j])) λg=>
   some (0,g.1,g.2))):=ci
def gZ:Do CO:=[aqV,Ru,aor]
def ats:Nat×PV:=(10,.k (.ow 902))
def YE:PS:=bg [(2,.k (.v (.func (.func 187) #[] #[]))),Or,WP,ats,(23,.h iw),(24,.h j1),(25,.h j1)] [m6,aj2,(902,.arr 4 .b true)]
def YF:Do (IR×PS):=[((.exit 0),bg [Or,WP,ats] [m6,aj2,(902,.arr 4 .b true)])]
def YG:Pl:=.z
def G8:Nat->Nat->A1×Int×Int×Int×A3×Int×bw->At (Int×A3×Int×bw):=fx gZ f186 [1,1,1,0,1,0,0] YE YF YG
def am9:Nat×PV:=(7,.k (.ow 901))
def kF:FD:=cL 186 f186 (.n .z (.n .z (.n .z (.n (.n .z (.n (.loop YE YF YG) .z)) .z)))) [.ag io,.h iw,.k (.v (.func (.func 187) #[] #[]))] [] (bg [Pi,am9,ut] [m6,(901,.arr 4 .b true)]) true false [901]
def agh:Nat->Int×A3×A1->At (Int×Int×A3×bw):=mF gZ kF
def aq6:CO:=cF gZ kF agh func186
def LV N m d e a f b g c:G8 N (m+1) (d,e,a,f,b,g,c)=cond (a<e)
 (aW (aZ d a) λi=>
 aW (N6 N (f,b,i.1,i.2)) λh=>
 aW (eG 1 c [(decide (h.1=0))]) λj=>
 (G8 N m (d,e,(wZ (a+1)),h.2.1,h.2.2,g,j)))
 (some (f,b,g,c)):=ci
def agi N f a l:agh (N+1) (f,a,l)=aW (X6 N l) λd=>
 aW (Fy N (f,a,d)) λc=>
 cond (!(c=0))
  (some (c,f,a,[]))
  (aW (G8 N N (l,(length l:Int),0,f,a,0,[])) λb=>
  some (0,b.1,b.2.1,b.2.2.2)):=ci
def wa:Do CO:=[aq6]
def s1:Nat×PV:=(4,.k (.pt 900 0))
def anj:Nat×PV:=(5,.k (.ow 901))
def wb:FD:=cL 141 f141 .z [.ag io,.h iw] [] (bg [s1,anj,wl] [m6,(901,.arr 4 .b true)]) true false [901]
def YH:Nat->Int×A3×A1->At (Int×Int×A3×bw):=mF wa wb
def aq7:CO:=cF wa wb YH func141
def agj N f b l:YH (N+1) (f,b,l)=aW (agh N (f,b,l)) λa=>
 some (a.1,a.2.1,a.2.2.1,a.2.2.2):=ci
def FH:Do CO:=[aoi,aq7]
def FI:FD:=cL 67 f67 .z [.h j1,.h iw] [] (bg [s1,to] [m6]) false false []
def IW:Nat->Int×A1->At A12:=mF FH FI
def agk:CO:=cF FH FI IW func67
def acD N n l:IW (N+1) (n,l)=aW (NX N n) λa=>
 cond (!(a.1=0))
  (some (a.1,0,[]))
  (aW (YH N (a.2.1,a.2.2,l)) λb=>
  cond (!(b.1=0))
   (some (b.1,0,[]))
   (some (0,b.2.1,b.2.2.1))):=ci
def qJ:Do CO:=[amO,VV,amP,amQ,agk]
def n8:Nat×PO:=(900,.box 32 i6)
def YI:PS:=bg [ii,NE,(23,.h kB),(24,.h j1),(25,.h j1)] [n8]
def YJ:Do (IR×PS):=[((.exit 0),bg [ii] [n8]),(.ret,bg lc [])]
def YK:Pl:=.z
def xY:Nat->Nat->Int×gD×Int×Int×Int×gD->At ((Int×gD)⊕(In)):=fx qJ f66 [1,1,1,0,1,0,0] YI YJ YK
def yQ:FD:=cL 66 f66 (.n .z (.n .z (.n .z (.n (.n .z (.n (.loop YI YJ YK) .z)) .z)))) [.ag i6] [] (bg lc []) false true []
def pw:Nat->Int×gD->eu:=mF qJ yQ
def yR:CO:=cF qJ yQ pw func66
def LW N m d e f b g c:xY N (m+1) (d,e,f,b,g,c)=cond (b<f)
 (aW (aZ e b) λa=>
 cond (a.1<0)
  (some (.inr false))
  (cond (a.2.1<=a.1)
   (some (.inr false))
   (cond (g<=a.2.1)
    (some (.inr false))
    (cond (a.2.2.1<0)
     (some (.inr false))
     (cond (d<a.2.2.1)
      (some (.inr false))
      (cond (0<b)
       (aW (aZ c (wZ (b - 1))) λh=>
       aW (IM N (h.1,h.2.1,h.2.2.1,h.2.2.2,a.1,a.2.1,a.2.2.1,a.2.2.2)) λi=>
       cond (0<=i)
        (some (.inr false))
        ((xY N m (d,e,f,(wZ (b+1)),g,c))))
       ((xY N m (d,e,f,(wZ (b+1)),g,c)))))))))
 (some (.inl (g,c))):=ci
def agl N g a:pw (N+1) (g,a)=aW (Ra N g) λe=>
 cond (!e)
  (some false)
  (cond (400<(length a:Int))
   (some false)
   (aW (Ek N g) λf=>
   aW (xY N N (f,a,(length a:Int),0,g,a)) λh=>
   (match h with
   |.inl b=>aW (Rc N (b.1,b.2,0)) λc=>
    aW (IW N (b.1,c)) λd=>
    cond (d.1=0)
     (some (decide ((length d.2.2:Int)=(wZ (b.1 - (length c:Int))))))
     (some false)
   |.inr i=>some i))):=ci
def ui:Do CO:=[]
def uj:FD:=cL 106 f106 .z amy [] (bg lc []) false true []
def RF:Nat->Int->eu:=mF ui uj
def aq8:CO:=cF ui uj RF func106
def agm N n:RF (N+1) n=cond (0<=n)
 (some (decide (n<=1099511627776)))
 (some false):=ci
def yS:Do CO:=[yR,aq8]
def yT:FD:=cL 41 f41 .z [.ag [.h j1,.h kB,.h j1,.h j1]] [] (bg lc []) false true []
def uk:Nat->Int×gD×Int×Int->eu:=mF yS yT
def aq9:CO:=cF yS yT uk func41
def agn N s a b c:uk (N+1) (s,a,b,c)=aW (pw N (s,a)) λd=>
 cond d
  (aW (RF N b) λe=>
  cond e
   (aW (RF N c) λf=>
   some f)
   (some false))
  (some false):=ci
def FJ:Do CO:=[]
def FL:FD:=cL 115 f115 .z amy [] (bg lc []) false true []
def z8:Nat->Int->eu:=mF FJ FL
def ago:CO:=cF FJ FL z8 func115
def acE N n:z8 (N+1) n=some (decide (n=(wZ (wrap .u16 n)))):=ci
def wc:Do CO:=[ago]
def we:FD:=cL 114 f114 .z [.ag PP] [] (bg lc []) false true []
def YL:Nat->Int×Int->eu:=mF wc we
def aq_:CO:=cF wc we YL func114
def agp N e a:YL (N+1) (e,a)=aW (z8 N e) λb=>
 cond (!b)
  (some true)
  (aW (z8 N a) λc=>
  some (!c)):=ci
def cI:Do CO:=[aq_]
def YM:PS:=bg [(0,.h iw),(1,.k (.v (.func (.func 114) #[] #[]))),z3,ut] []
def YN:Do (IR×PS):=[((.exit 0),bg [] []),(.ret,bg [ls] [])]
def YO:Pl:=.z
def G9:Nat->Nat->A1×Int×Int->At ((Unit)⊕(Int)):=fx cI f179 [1,0,1,0,0] YM YN YO
def arm:Do PV:=[.h iw,.k (.v (.func (.func 114) #[] #[]))]
def eb:FD:=cL 179 f179 (.n .z (.n (.n .z (.n (.loop YM YN YO) .z)) .z)) arm [] (bg [ls] []) false true []
def agq:Nat->A1->fi:=mF cI eb
def ara:CO:=cF cI eb agq func179
def LX N m s b a:G9 N (m+1) (s,b,a)=cond (a<b)
 (aW (aZ s a) λc=>
 aW (YL N (c.1,c.2)) λd=>
 cond d
  (some (.inr a))
  ((G9 N m (s,b,(wZ (a+1))))))
 (some (.inl ())):=ci
def agr N s:agq (N+1) s=aW (G9 N N (s,(length s:Int),0)) λa=>
 (match a with
 |.inl c=>some (-1)
 |.inr b=>some b):=ci
def dI:Do CO:=[ara]
def dJ:FD:=cL 116 f116 .z arm [] (bg n7 []) false true []
def ags:Nat->A1->eu:=mF dI dJ
def auk:CO:=cF dI dJ ags func116
def ak8 N s:ags (N+1) s=aW (agq N s) λa=>
 some (decide (0<=a)):=ci
def BG:Do CO:=[]
def BH:FD:=cL 118 f118 .z amy [] (bg lc []) false true []
def N7:Nat->Int->eu:=mF BG BH
def aos:CO:=cF BG BH N7 func118
def acF N a:N7 (N+1) a=cond (1<=a)
 (some (decide (a<=4)))
 (some false):=ci
def wg:Do CO:=[aos,ago]
def wh:FD:=cL 117 f117 .z [.ag m9] [] (bg lc []) false true []
def YP:Nat->Int×Int×Int->eu:=mF wg wh
def arb:CO:=cF wg wh YP func117
def agt N a b c:YP (N+1) (a,b,c)=aW (N7 N a) λd=>
 cond (!d)
  (some true)
  (aW (z8 N b) λe=>
  cond (!e)
   (some true)
   (aW (z8 N c) λf=>
   some (!f))):=ci
def cO:Do CO:=[arb]
def YQ:PS:=bg [(0,.h Gy),(1,.k (.v (.func (.func 117) #[] #[]))),z3,ut] []
def YR:Do (IR×PS):=[((.exit 0),bg [] []),(.ret,bg [ls] [])]
def YS:Pl:=.z
def G_:Nat->Nat->(Do A4)×Int×Int->At ((Unit)⊕(Int)):=fx cO f180 [1,0,1,0,0] YQ YR YS
def ar4:Do PV:=[.h Gy,.k (.v (.func (.func 117) #[] #[]))]
def ej:FD:=cL 180 f180 (.n .z (.n (.n .z (.n (.loop YQ YR YS) .z)) .z)) ar4 [] (bg [ls] []) false true []
def agu:Nat->(Do A4)->fi:=mF cO ej
def ard:CO:=cF cO ej agu func180
def LY N m s b a:G_ N (m+1) (s,b,a)=cond (a<b)
 (aW (aZ s a) λc=>
 aW (YP N (c.1,c.2.1,c.2.2)) λd=>
 cond d
  (some (.inr a))
  ((G_ N m (s,b,(wZ (a+1))))))
 (some (.inl ())):=ci
def agv N s:agu (N+1) s=aW (G_ N N (s,(length s:Int),0)) λa=>
 (match a with
 |.inl c=>some (-1)
 |.inr b=>some b):=ci
def dU:Do CO:=[ard]
def dV:FD:=cL 119 f119 .z ar4 [] (bg n7 []) false true []
def agw:Nat->(Do A4)->eu:=mF dU dV
def aul:CO:=cF dU dV agw func119
def ak9 N s:agw (N+1) s=aW (agu N s) λa=>
 some (decide (0<=a)):=ci
def sU:Do CO:=[auk,aul]
def LT:Do PV:=[.h j1,.h iw,.h Gy]
def anz:Nat×PO:=(900,.box 48 LT)
def RG:PS:=bg [ii,wl] [anz]
def RH:Do (IR×PS):=[(.normal,bg [ii,wl,asv] [anz])]
def RI:Pl:=.z
def RJ:Nat->Nat->Int×Int×A1×(Do A4)->At (Int×In×Int×A1×(Do A4)):=jnF sU f53 [1,0,1,0,0] RG RH RI
def BI:FD:=cL 53 f53 (.n .z (.n (.n .z (.n (.n (.join RG RH RI) .z) .z)) .z)) [.ag LT] [] (bg lc []) false true []
def N8:Nat->Int×A1×(Do A4)->eu:=mF sU BI
def aot:CO:=cF sU BI N8 func53
def V1 N m a x b c:RJ N (m+1) (a,x,b,c)=cond (a=1)
 (some (a,true,x,b,c))
 (some (a,(decide (a=2)),x,b,c)):=ci
def acG N x b c:N8 (N+1) (x,b,c)=aW (RJ N N (x,x,b,c)) λa=>
 cond a.2.1
  (cond ((length a.2.2.2.2:Int)=0)
   (cond ((length a.2.2.2.1:Int)<=60)
    (aW (ags N a.2.2.2.1) λd=>
    some (!d))
    (some false))
   (some false))
  (cond (a.1=3)
   (cond ((length a.2.2.2.1:Int)=0)
    (cond ((length a.2.2.2.2:Int)<=60)
     (aW (agw N a.2.2.2.2) λe=>
     some (!e))
     (some false))
    (some false))
   (some false)):=ci
def yU:Do CO:=[]
def yV:FD:=cL 167 f167 .z [.ag m9] [] (bg [m2] [gc]) true true [900]
def YT:Nat->Int×Int×Int->mf:=mF yU yV
def are:CO:=cF yU yV YT func167
def agx N a b c:YT (N+1) (a,b,c)=cond (a=1)
 (some [b,c])
 (cond (a=2)
  (some [b])
  (cond (a=3)
   (some [b])
   (some []))):=ci
def jj:Do CO:=[are]
def YU:PS:=bg [up,(24,.h Gy),(25,.h j1),atq] [gc]
def YV:Do (IR×PS):=[((.exit 2),bg [up] [gc])]
def YW:Pl:=.z
def Ha:Nat->Nat->(Do A4)×Int×Int×aX->mf:=fx jj f94 [1,1,1,0,1,0,0] YU YV YW
def v0:Nat×PV:=(3,.k (.ow 901))
def YX:PS:=bg [ii,v0,(9,.h iw),z9,WF] [anz,m4]
def YY:Do (IR×PS):=[((.exit 0),bg [ii,v0] [anz,m4])]
def YZ:Pl:=.z
def Hb:Nat->Nat->A1×Int×Int×Int×A1×(Do A4)×aX->At (Int×A1×(Do A4)×aX):=fx jj f94 [1,1,0,1,0,0] YX YY YZ
def rC:FD:=cL 94 f94 (.n .z (.n .z (.n (.n .z (.n (.loop YX YY YZ) .z)) (.n (.n .z (.n (.loop YU YV YW) .z)) .z)))) [.ag LT] [] (bg [m2] [gc]) true true [900]
def Y0:Nat->Int×A1×(Do A4)->mf:=mF jj rC
def arf:CO:=cF jj rC Y0 func94
def LZ N m b c a l:Ha N (m+1) (b,c,a,l)=cond (a<c)
 (aW (aZ b a) λd=>
 aW (YT N (d.1,d.2.1,d.2.2)) λe=>
 aW (eG 8 l e) λf=>
 (Ha N m (b,c,(wZ (a+1)),f)))
 (some l):=ci
def L0 N m c b a x d e l:Hb N (m+1) (c,b,a,x,d,e,l)=cond (a<b)
 (aW (aZ c a) λf=>
 aW (eG 8 l [f.1,f.2]) λg=>
 (Hb N m (c,b,(wZ (a+1)),x,d,e,g)))
 (some (x,d,e,l)):=ci
def agy N x a c:Y0 (N+1) (x,a,c)=aW (Hb N N (a,(length a:Int),0,x,a,c,[])) λb=>
 aW (Ha N N (b.2.2.1,(length b.2.2.1:Int),0,b.2.2.2)) λd=>
 some d:=ci
def nh:Do CO:=[]
def rt:Do (Nat×PO):=[(4294967296,.box 32 i6)]
def ni:FD:=cL 95 f95 .z am4 rt (bg [apa] rt) true false [4294967296]
def agz:Nat->Int×Int×gD->At (In×Int×gD):=mF nh ni
def arh:CO:=cF nh ni agz func95
def agA N v a b:agz (N+1) (v,a,b)=some ((decide (a<=v)),a,b):=ci
def cP:Do CO:=[arh]
def Y1:PS:=bg [aj0,(1,.cl (.func 95) [] li),z3,ut] rt
def Y2:Do (IR×PS):=[((.exit 0),bg [] rt),(.ret,bg [ls] rt)]
def Y3:Pl:=.z
def Hc:Nat->Nat->aX×Int×Int×Int×gD->At ((Int×gD)⊕(Int×Int×gD)):=fx cP f131 [1,0,1,0,0] Y1 Y2 Y3
def aud:Do PV:=[.h j6,.cl (.func 95) [] li]
def eo:FD:=cL 131 f131 (.n .z (.n (.n .z (.n (.loop Y1 Y2 Y3) .z)) .z)) aud rt (bg [ls] rt) true false [4294967296]
def agB:Nat->aX×Int×gD->At (Int×Int×gD):=mF cP eo
def ari:CO:=cF cP eo agB aza
def L1 N m s d a f c:Hc N (m+1) (s,d,a,f,c)=cond (a<d)
 (aW (aZ s a) λe=>
 aW (agz N (e,f,c)) λb=>
 cond b.1
  (some (.inr (a,b.2.1,b.2.2)))
  ((Hc N m (s,d,(wZ (a+1)),b.2.1,b.2.2))))
 (some (.inl (f,c))):=ci
def agC N s f b:agB (N+1) (s,f,b)=aW (Hc N N (s,(length s:Int),0,f,b)) λd=>
 (match d with
 |.inl c=>some ((-1),c.1,c.2)
 |.inr a=>some (a.1,a.2.1,a.2.2)):=ci
def dW:Do CO:=[ari]
def dX:FD:=cL 60 f60 .z aud rt (bg n7 rt) true false [4294967296]
def Y4:Nat->aX×Int×gD->At (In×Int×gD):=mF dW dX
def arj:CO:=cF dW dX Y4 azy
def agD N s f b:Y4 (N+1) (s,f,b)=aW (agB N (s,f,b)) λa=>
 some ((decide (0<=a.1)),a.2.1,a.2.2):=ci
def BJ:Do CO:=[]
def BK:FD:=cL 152 f152 .z amy [] (bg lc []) false true []
def IX:Nat->Int->eu:=mF BJ BK
def aou:CO:=cF BJ BK IX func152
def acH N n:IX (N+1) n=cond (0<=n)
 (some (decide (n<65536)))
 (some false):=ci
def FM:Do CO:=[aou]
def FN:FD:=cL 79 f79 .z [.ag PP] [] (bg [(2,.h j2),apa] []) false true []
def N9:Nat->Int×Int->At (Int×In):=mF FM FN
def aov:CO:=cF FM FN N9 func79
def acI N e a:N9 (N+1) (e,a)=aW (IX N e) λb=>
 cond (!b)
  (some (0,false))
  (aW (IX N a) λc=>
  cond (!c)
   (some (0,false))
   (some ((Nt .or .u32 (wrap .u32 ((wrap .u32 (if(a<e)then a else e))*((2:Int)^(min (Int.toNat 16) 32)))) (wrap .u32 (if(a>e)then a else e))),true))):=ci
def wi:Do CO:=[]
def wj:FD:=cL 236 f236 .z amy [] (bg [z0] []) false true []
def RK:Nat->Int->fi:=mF wi wj
def amU:CO:=cF wi wj RK func236
def RL N bits:RK (N+1) bits=cond (bits<1)
 (some 0)
 (cond (16<bits)
  (some 0)
  (aW (Vb (wZ ((wZ (32+bits)) - 1)) bits) λa=>
  some (wZ a))):=ci
def BL:Do CO:=[]
def BM:FD:=cL 289 f289 .z amy [] (bg lc []) false true []
def N_:Nat->Int->eu:=mF BL BM
def agE:CO:=cF BL BM N_ func289
def Ep N a:N_ (N+1) a=cond (1<=a)
 (some (decide (a<=100)))
 (some false):=ci
def yW:Do CO:=[agE]
def yX:FD:=cL 290 f290 .z PP [] (bg [ls] []) false true []
def Oa:Nat->Int×Int->fi:=mF yW yX
def aow:CO:=cF yW yX Oa func290
def acJ N n block:Oa (N+1) (n,block)=cond (n<0)
 (some 0)
 (cond (1000<n)
  (some 0)
  (aW (N_ N block) λa=>
  cond (!a)
   (some 0)
   (aW (Vb (wZ ((wZ (n+block)) - 1)) block) λb=>
   some (wZ b)))):=ci
def BN:Do CO:=[]
def ad0:Do PV:=[.h j1,.h j1,.h iw]
def BO:FD:=cL 91 f91 .z [.ag ad0] [] (bg lc []) false true []
def IY:Nat->Int×Int×A1->eu:=mF BN BO
def aox:CO:=cF BN BO IY func91
def Er N p p2 p3:IY (N+1) (p,p2,p3)=cond (1<=p)
 (cond (p<=100)
  (cond (1<=p2)
   (cond (p2<=8)
    (some (decide ((length p3:Int)<=4000)))
    (some false))
   (some false))
  (some false))
 (some false):=ci
def wm:Do CO:=[]
def wq:FD:=cL 147 f147 .z PP [] (bg n7 []) false true []
def RM:Nat->Int×Int->eu:=mF wm wq
def amV:CO:=cF wm wq RM func147
def agF N n a:RM (N+1) (n,a)=cond (1<=n)
 (cond (n<=1000)
  (cond (1<=a)
   (some (decide (a<=100)))
   (some false))
  (some false))
 (some false):=ci
def BP:Do CO:=[amV]
def wn:Do PV:=[.h qz,.h j1,.h j3]
def ask:Do (Nat×PO):=[(900,.box 95 wn)]
def BQ:FD:=cL 75 f75 .z PP [] (bg [s1,to] ask) false false []
def Oc:Nat->Int×Int->At (Int×ph×Int×bw):=mF BP BQ
def aoy:CO:=cF BP BQ Oc func75
def acK N n a:Oc (N+1) (n,a)=aW (RM N (n,a)) λb=>
 cond (!b)
  (some ((1:Int),[],(0:Int),[]))
  (aW (vh n (1:Nat)) λc=>
  some ((0:Int),[((0:Int),n,(-(1:Int)),(0:Int))],a,(replicate c false))):=ci
def BS:Do CO:=[aoy]
def i7:Do PV:=[.h qz,.h j1,.h j3,.h fZ,.h .b,.h j1,.h j1]
def aeb:Nat×PO:=(900,.box 97 i7)
def BT:FD:=cL 27 f27 .z m9 [] (bg [Pi,z3] [aeb]) false false []
def Od:Nat->Int×Int×Int->At (Int×ph×Int×bw×A3×In×Int×Int):=mF BS BT
def aoz:CO:=cF BS BT Od func27
def acL N n d c:Od (N+1) (n,d,c)=cond (c<(1:Int))
 (some ((1:Int),[],(0:Int),[],[],false,(0:Int),(0:Int)))
 (cond ((8:Int)<c)
  (some ((1:Int),[],(0:Int),[],[],false,(0:Int),(0:Int)))
  (aW (Oc N (n,d)) λb=>
  cond (!(b.1=(0:Int)))
   (some (b.1,[],(0:Int),[],[],false,(0:Int),(0:Int)))
   (aW (vh c (24:Nat)) λa=>
   aW (aZ (replicate a ([]:aX)) (0:Int)) λf=>
   aW (aZ (replicate a ([]:aX)) (0:Int)) λe=>
   cond (oh e)
    (aW (aZ (replicate a ([]:aX)) (0:Int)) λg=>
    aW (aZ (replicate a ([]:aX)) (0:Int)) λh=>
    aW (aZ (replicate a ([]:aX)) (0:Int)) λi=>
    some ((0:Int),b.2.1,b.2.2.1,b.2.2.2,(List.set (replicate a ([]:aX)) (Int.toNat (0:Int)) ([]++[(0:Int)])),false,(0:Int),(0:Int)))
    none))):=ci
def sV:Do CO:=[amV]
def RN:PS:=bg [ii,(25,.h qz),atq,(27,.h j1)] ask
def RO:Do (IR×PS):=[((.exit 0),bg [] []),(.ret,bg lc [])]
def RP:Pl:=.z
def BU:Nat->Nat->ph×Int×Int×ph×Int×bw->At ((Unit)⊕(In)):=fx sV f168 [1,1,0,1,0,0] RN RO RP
def BV:FD:=cL 168 f168 (.n .z (.n .z (.n (.n .z (.n (.loop RN RO RP) .z)) .z))) [.ag wn] [] (bg lc []) false true []
def IZ:Nat->ph×Int×bw->eu:=mF sV BV
def agG:CO:=cF sV BV IZ func168
def I0 N m c d b w f e:BU N (m+1) (c,d,b,w,f,e)=cond (b<d)
 (aW (aZ c b) λa=>
 cond (a.1<0)
  (some (.inr false))
  (cond (a.2.1<=a.1)
   (some (.inr false))
   (cond ((length e:Int)<a.2.1)
    (some (.inr false))
    (cond (a.2.2.1<(-1))
     (some (.inr false))
     (cond (b<=a.2.2.1)
      (some (.inr false))
      (cond (a.2.2.2<0)
       (some (.inr false))
       (cond (2<a.2.2.2)
        (some (.inr false))
        ((BU N m (c,d,(wZ (b+1)),w,f,e))))))))))
 (some (.inl ())):=ci
def acM N w a b:IZ (N+1) (w,a,b)=aW (RM N ((length b:Int),a)) λc=>
 cond (!c)
  (some false)
  (cond ((length w:Int)=0)
   (some false)
   (cond (2000<(length w:Int))
    (some false)
    (aW (BU N N (w,(length w:Int),0,w,a,b)) λd=>
    (match d with
    |.inl f=>some true
    |.inr e=>some e)))):=ci
def wu:Do CO:=[]
def wx:FD:=cL 169 f169 .z amy [] (bg lc []) false true []
def RQ:Nat->Int->eu:=mF wu wx
def ark:CO:=cF wu wx RQ func169
def agH N n:RQ (N+1) n=cond (0<=n)
 (some (decide (n<=100000)))
 (some false):=ci
def BW:Do CO:=[agG]
def apc:Do PV:=[.ag wn,.h j1]
def BY:FD:=cL 261 f261 .z apc [] (bg [ls] []) false true []
def Es:Nat->ph×Int×bw×Int->fi:=mF BW BY
def V2:CO:=cF BW BY Es func261
def acN N w a b i:Es (N+1) (w,a,b,i)=aW (IZ N (w,a,b)) λc=>
 cond (!c)
  (some 1)
  (cond (i<0)
   (some 6)
   (cond ((length w:Int)<=i)
    (some 6)
    (some 0))):=ci
def BZ:Do CO:=[]
def B0:FD:=cL 262 f262 .z [.ag [.h j1,.h j1,.h j1,.h j1]] [] (bg [z0] []) false true []
def z_:Nat->Int×Int×Int×Int->fi:=mF BZ B0
def V3:CO:=cF BZ B0 z_ func262
def acO N t a b c:z_ (N+1) (t,a,b,c)=some (wZ (a - t)):=ci
def B1:Do CO:=[V2,V3]
def B2:FD:=cL 216 f216 .z apc [] (bg n7 []) false true []
def I1:Nat->ph×Int×bw×Int->eu:=mF B1 B2
def agI:CO:=cF B1 B2 I1 func216
def acP N w b c i:I1 (N+1) (w,b,c,i)=aW (Es N (w,b,c,i)) λd=>
 cond (d=0)
  (aW (aZ w i) λa=>
  aW (z_ N (a.1,a.2.1,a.2.2.1,a.2.2.2)) λe=>
  some (decide (b<e)))
  (some false):=ci
def B3:Do CO:=[agI]
def B4:FD:=cL 170 f170 .z apc [] (bg n7 []) false true []
def Oe:Nat->ph×Int×bw×Int->eu:=mF B3 B4
def aoA:CO:=cF B3 B4 Oe func170
def acQ N w b a t:Oe (N+1) (w,b,a,t)=cond (0<=t)
 (cond (t<(length w:Int))
  (aW (aZ w t) λc=>
  cond (c.2.2.2=0)
   (aW (I1 N (w,b,a,t)) λd=>
   cond d
    (some true)
    (aW (aZ w t) λe=>
    aW (aZ a e.1) λf=>
    some (!f)))
   (some false))
  (some false))
 (some false):=ci
def nJ:Do CO:=[agG,ark,aoA]
def ap4:Nat×PV:=(45,.h j1)
def att:Nat×PV:=(46,.h j1)
def RR:PS:=bg [ii,aia,(38,.h fZ),(39,.h j1),(40,.h j1),(44,.h j6),ap4,att] [aeb,(901,.mp (.int .i64) j1 j1)]
def RT:Do (IR×PS):=[((.exit 2),bg [ii,aia,(38,.h fZ),(39,.h j1),(40,.h j1)] [aeb,(901,.mp (.int .i64) j1 j1)]),(.ret,bg lc [])]
def RU:Pl:=.z
def B5:Nat->Nat->A3×Int×Int×aX×Int×Int×ph×Int×bw×A3×In×Int×Int×A1->At ((A3×Int×Int×ph×Int×bw×A3×In×Int×Int×A1)⊕(In)):=fx nJ f97 [1,1,1,0,1,0,0,1,1,0,0,1,1,0,0] RR RT RU
def RW:PS:=bg [ii,aia,(38,.h fZ),(39,.h j1),(40,.h j1)] [aeb,(901,.mp (.int .i64) j1 j1)]
def RX:Do (IR×PS):=[((.exit 0),bg [] []),(.ret,bg lc [])]
def RY:Pl:=(.n .z (.n .z (.n (.n (.n .z (.n .z (.n (.loop RR RT RU) .z))) .z) .z)))
def B6:Nat->Nat->A3×Int×Int×ph×Int×bw×A3×In×Int×Int×A1->At ((Unit)⊕(In)):=fx nJ f97 [1,1,1,0,1,0,0] RW RX RY
def B7:FD:=cL 97 f97 (.n .z (.n .z (.n .z (.n (.n .z (.n (.loop RW RX RY) .z)) .z)))) [.ag i7] [] (bg lc []) false true []
def Of:Nat->ph×Int×bw×A3×In×Int×Int->eu:=mF nJ B7
def aoB:CO:=cF nJ B7 Of func97
def I2 N m k l n o p f c d e g h i j a:B5 N (m+1) (k,l,n,o,p,f,c,d,e,g,h,i,j,a)=cond (f<p)
 (aW (aZ o f) λb=>
 cond (1<(Option.getD (bN j1 (d_ j1 a b (wZ ((Option.getD (bN j1 a b) 0)+1))) b) 0))
  (some (.inr false))
  (aW (Oe N (c,d,e,b)) λq=>
  cond (!q)
   (some (.inr false))
   ((B5 N m (k,l,n,o,p,(wZ (f+1)),c,d,e,g,h,i,j,(d_ j1 a b (wZ ((Option.getD (bN j1 a b) 0)+1))))))))
 (some (.inl (k,l,n,c,d,e,g,h,i,j,a))):=ci
def I3 N m d e a c f g h i j k l:B6 N (m+1) (d,e,a,c,f,g,h,i,j,k,l)=cond (a<e)
 (aW (aZ d a) λn=>
 aW (B5 N N (d,e,a,n,(length n:Int),0,c,f,g,h,i,j,k,l)) λo=>
 (match o with
 |.inl b=>(B6 N m (b.1,b.2.1,(wZ (b.2.2.1+1)),b.2.2.2))
 |.inr p=>some (.inr p)))
 (some (.inl ())):=ci
def acR N c b d a g e f:Of (N+1) (c,b,d,a,g,e,f)=aW (IZ N (c,b,d)) λh=>
 cond (!h)
  (some false)
  (cond ((length a:Int)=0)
   (some false)
   (cond (8<(length a:Int))
    (some false)
    (aW (RQ N e) λi=>
    cond (!i)
     (some false)
     (aW (RQ N f) λj=>
     cond (!j)
      (some false)
      (aW (B6 N N (a,(length a:Int),0,c,b,d,a,g,e,f,[])) λk=>
      (match k with
      |.inl m=>some true
      |.inr l=>some l)))))):=ci
def jw:Do CO:=[]
def jx:FD:=cL 257 f257 .z [.h fZ] [] (bg [m2] [(900,.arr 40 j6 true)]) true false [900]
def Y5:Nat->A3->At (A3):=mF jw jx
def arl:CO:=cF jw jx Y5 func257
def agJ N s:Y5 (N+1) s=cond (sG s)
 (dem λc=>
 cond c
  (some [])
  (aW (eG 24 [] s) λa=>
  some a))
 (aW (eG 24 [] s) λb=>
 some b):=ci
def fF:Do CO:=[]
def at7:Do PV:=[.k (.pt 4294967296 0),.h j1]
def gt:Nat×PO:=(4294967296,.box 350 [.h qz,.h j1,.h j3,.k (.ow 4294967297),.h .b,.h j1,.h j1,.h j1,.h j1,.h j1,.h .b])
def Ok:Nat×PO:=(4294967297,.arr 40 j6 true)
def fG:FD:=cL 258 f258 .z at7 [gt,Ok] (bg [ls] [Ok,gt]) true false [4294967297,4294967296]
def RZ:Nat->Int×ph×Int×bw×In×Int×Int×Int×Int×Int×In×A3->At (Int×A3×ph×Int×bw×In×Int×Int×Int×Int×Int×In):=mF fF fG
def arn:CO:=cF fF fG RZ func258
def agL N n s b c d e f g i j a h:RZ (N+1) (n,s,b,c,d,e,f,g,i,j,a,h)=aW (Va n (length h:Int)) λk=>
 aW (Va (wZ (k+(length h:Int))) (length h:Int)) λl=>
 some (l,h,s,b,c,d,e,f,g,i,j,a):=ci
def fP:Do CO:=[]
def fQ:FD:=cL 259 f259 .z adc [gt,Ok] (bg [ap3] [Ok,gt]) true false [4294967297,4294967296]
def FO:Nat->Int×Int×ph×Int×bw×In×Int×Int×Int×Int×Int×In×A3->At (In×A3×ph×Int×bw×In×Int×Int×Int×Int×Int×In):=mF fP fQ
def aro:CO:=cF fP fQ FO func259
def I4 N p v s c d e f g i k l b h:FO (N+1) (p,v,s,c,d,e,f,g,i,k,l,b,h)=aW (aZ h p) λr=>
 aW (aZ h p) λa=>
 aW (aZ h v) λw=>
 aW (aZ h v) λj=>
 cond (0<=(wZ ((length a:Int) - 1)))
  (aW (aZ a (wZ ((length a:Int) - 1))) λn=>
  aW (Qm a 0 (wZ ((length a:Int) - 1)) (wZ ((length a:Int) - 1))) λo=>
  cond ((wZ ((length a:Int) - 1))=(wZ ((length a:Int) - 1)))
   (aW (aZ h p) λx=>
   aW (aZ h p) λy=>
   some (true,(List.set h (Int.toNat p) o),s,c,d,e,f,g,i,p,n,b))
   none)
  (cond (0<(length j:Int))
   (aW (aZ j 0) λq=>
   aW (kj j 1 (length j:Int)) λm=>
   aW (aZ h v) λt=>
   aW (aZ h v) λu=>
   some (true,(List.set h (Int.toNat v) m),s,c,d,e,f,g,i,v,q,b))
   (some (false,h,s,c,d,e,f,g,i,k,l,b))):=ci
def fV:Do CO:=[]
def fW:FD:=cL 296 f296 .z [.h qz] [] (bg [m2] [(900,.arr 199 j15 true)]) true true [900]
def R0:Nat->ph->At (ph):=mF fV fW
def amW:CO:=cF fV fW R0 func296
def agM N s:R0 (N+1) s=cond (sG s)
 (dem λc=>
 cond c
  (some [])
  (aW (eG 32 [] s) λa=>
  some a))
 (aW (eG 32 [] s) λb=>
 some b):=ci
def FP:Do CO:=[V2,V3,amW]
def FQ:FD:=cL 284 f284 .z apc [] (bg [s1,to,wl,z3] ask) false false []
def Og:Nat->ph×Int×bw×Int->At (Int×Int×Int×ph×Int×bw):=mF FP FQ
def aoC:CO:=cF FP FQ Og func284
def acS N w b c i:Og (N+1) (w,b,c,i)=aW (Es N (w,b,c,i)) λf=>
 cond (!(f=0))
  (some (0,0,f,w,b,c))
  (aW (aZ w i) λa=>
  aW (z_ N (a.1,a.2.1,a.2.2.1,a.2.2.2)) λh=>
  cond (h<=b)
   (some (0,0,5,w,b,c))
   (cond (0<a.2.2.2)
    (some (0,0,5,w,b,c))
    (cond (2000<(wZ ((length w:Int)+2)))
     (some (0,0,2,w,b,c))
     (aW (z_ N (a.1,a.2.1,a.2.2.1,a.2.2.2)) λg=>
     aW (R0 N w) λj=>
     aW (eG 32 j [(a.1,(wZ (a.1+(wZ (Int.tdiv g 2)))),i,0),((wZ (a.1+(wZ (Int.tdiv g 2)))),a.2.1,i,0)]) λd=>
     aW (aZ d i) λk=>
     aW (aZ d i) λe=>
     some ((length w:Int),(wZ ((length w:Int)+1)),0,(List.set d (Int.toNat i) (e.1,e.2.1,e.2.2.1,2)),b,c))))):=ci
def k7:Do CO:=[]
def k8:FD:=cL 285 f285 .z atl [] (bg [(2,.t j1)] []) false false []
def Y6:Nat->aX->mf:=mF k7 k8
def arp:CO:=cF k7 k8 Y6 func285
def agN N s:Y6 (N+1) s=aW (Qm s 0 (length s:Int) (length s:Int)) λa=>
 cond ((length s:Int)=(length s:Int))
  (some a)
  none:=ci
def jy:Do CO:=[]
def LE:Nat×PO:=(900,.arr 4 .b true)
def jz:FD:=cL 297 f297 .z [.h j3] [] (bg [m2] [LE]) true true [900]
def Y7:Nat->bw->At (bw):=mF jy jz
def arq:CO:=cF jy jz Y7 func297
def agO N s:Y7 (N+1) s=cond (sG s)
 (dem λc=>
 cond c
  (some [])
  (aW (eG 1 [] s) λa=>
  some a))
 (aW (eG 1 [] s) λb=>
 some b):=ci
def mW:Do CO:=[]
def acl:Nat×PV:=(0,.k (.ow 4294967296))
def ST:Do (Nat×PO):=[(4294967296,.arr 199 j15 true)]
def Y8:PS:=bg [acl,aeg] ST
def Y9:Do (IR×PS):=[((.exit 0),bg [] ST),(.ret,bg n7 ST)]
def Y_:Pl:=.z
def Hd:Nat->Nat->Int×ph->At ((ph)⊕(In×ph)):=fx mW f298 [1,0,0,0] Y8 Y9 Y_
def um:FD:=cL 298 f298 (.n .z (.n (.n (.loop Y8 Y9 Y_) .z) .z)) [.k (.ow 4294967296),.h j1] ST (bg n7 ST) true true [4294967296]
def agP:Nat->Int×ph->At (In×ph):=mF mW um
def ars:CO:=cF mW um agP func298
def xZ N m a c:Hd N (m+1) (a,c)=cond (!(a=(-1)))
 (aW (aZ c a) λh=>
 aW (aZ c a) λe=>
 cond (e.2.2.2=0)
  (some (.inr (false,c)))
  (aW (aZ c a) λd=>
  aW (aZ c a) λb=>
  aW (aZ (List.set c (Int.toNat a) (b.1,b.2.1,b.2.2.1,(wZ (d.2.2.2 - 1)))) a) λf=>
  cond (0<f.2.2.2)
   (some (.inr (false,(List.set c (Int.toNat a) (b.1,b.2.1,b.2.2.1,(wZ (d.2.2.2 - 1)))))))
   (aW (aZ (List.set c (Int.toNat a) (b.1,b.2.1,b.2.2.1,(wZ (d.2.2.2 - 1)))) a) λg=>
   (Hd N m (g.2.2.1,(List.set c (Int.toNat a) (b.1,b.2.1,b.2.2.1,(wZ (d.2.2.2 - 1)))))))))
 (some (.inl c)):=ci
def agQ N b a:agP (N+1) (b,a)=aW (Hd N N (b,a)) λd=>
 (match d with
 |.inl e=>some (true,e)
 |.inr c=>some (c.1,c.2)):=ci
def Et:Do CO:=[V2,V3,amW,arq,ars]
def v4:Do (Nat×PO):=[(900,.box 95 [.k (.ow 903),.h j1,.k (.ow 904)]),(901,.box 95 [.k .nil,.h j1,.k .nil]),(902,.box 199 [.h j1,.h j1,.h j1,.h j1]),(903,.arr 199 j15 true),(904,.arr 4 .b true)]
def R3:PS:=bg [i9,aec,(8,.k (.pt 902 0)),aet] v4
def R4:Do (IR×PS):=[((.exit 0),bg [i9,aec,(8,.k (.pt 902 0))] v4)]
def R5:Pl:=.z
def B8:Nat->Nat->Int×Int×Int×Int×Int×Int×Int×ph×bw->At (Int×Int×Int×Int×Int×Int×ph×bw):=fx Et f286 [1,1,1,1,1,0,1,0,0] R3 R4 R5
def L2:FD:=cL 286 f286 (.n .z (.n .z (.n .z (.n .z (.n .z (.n (.n .z (.n (.loop R3 R4 R5) .z)) .z)))))) apc [] (bg [s1,(5,.h .b),wl] ask) false false []
def Oh:Nat->ph×Int×bw×Int->At (In×Int×ph×Int×bw):=mF Et L2
def aoD:CO:=cF Et L2 Oh func286
def I5 N m k w e t b c d f a:B8 N (m+1) (k,w,e,t,b,c,d,f,a)=cond (k<b)
 (aW (aZ a k) λg=>
 aW (aZ a k) λh=>
 (B8 N m ((wZ (k+1)),w,e,t,b,c,d,f,(List.set a (Int.toNat k) true))))
 (some (w,e,t,b,c,d,f,a)):=ci
def acT N w b c i:Oh (N+1) (w,b,c,i)=aW (Es N (w,b,c,i)) λe=>
 cond (!(e=0))
  (some (false,e,w,b,c))
  (aW (aZ w i) λa=>
  aW (z_ N (a.1,a.2.1,a.2.2.1,a.2.2.2)) λg=>
  cond (b<g)
   (some (false,5,w,b,c))
   (cond (0<a.2.2.2)
    (some (false,5,w,b,c))
    (aW (aZ c a.1) λh=>
    cond h
     (some (false,5,w,b,c))
     (aW (R0 N w) λj=>
     aW (Y7 N c) λk=>
     aW (B8 N N (a.1,b,0,a.1,a.2.1,a.2.2.1,a.2.2.2,j,k)) λd=>
     aW (agP N (d.2.2.2.2.1,d.2.2.2.2.2.2.1)) λf=>
     some (f.1,0,f.2,d.1,d.2.2.2.2.2.2.2))))):=ci
def gr:Do CO:=[agI,aoC,arp,aoD]
def gu:FD:=cL 260 f260 .z at7 [gt,Ok] (bg [ls] [Ok,gt]) true false [4294967297,4294967296]
def R6:Nat->Int×ph×Int×bw×In×Int×Int×Int×Int×Int×In×A3->At (Int×A3×ph×Int×bw×In×Int×Int×Int×Int×Int×In):=mF gr gu
def art:CO:=cF gr gu R6 func260
def R7 N p s j k l d e f g c i h:R6 (N+1) (p,s,j,k,l,d,e,f,g,c,i,h)=aW (I1 N (s,j,k,c)) λm=>
 cond m
  (aW (Og N (s,j,k,c)) λa=>
  cond (a.2.2.1=0)
   (aW (aZ h p) λr=>
   aW (aZ h p) λn=>
   aW (Y6 N n) λo=>
   aW (eG 8 o [a.2.1,a.1]) λq=>
   aW (aZ h p) λt=>
   aW (aZ h p) λu=>
   some (a.2.2.1,(List.set h (Int.toNat p) q),a.2.2.2.1,a.2.2.2.2.1,a.2.2.2.2.2,l,d,e,f,g,c,true))
   (some (a.2.2.1,h,a.2.2.2.1,a.2.2.2.2.1,a.2.2.2.2.2,l,d,e,f,g,c,i)))
  (aW (Oh N (s,j,k,c)) λb=>
  cond l
   (some (b.2.1,h,b.2.2.1,b.2.2.2.1,b.2.2.2.2,true,d,e,f,g,c,i))
   (some (b.2.1,h,b.2.2.1,b.2.2.2.1,b.2.2.2.2,b.1,d,e,f,g,c,i))):=ci
def FR:Do CO:=[aoB,arl,arn,aro,art]
def aj4:Nat×PV:=(7,.k (.pt 901 0))
def FT:FD:=cL 214 f214 .z [.ag i7,.h j1,.h j1] [] (bg [Pi,aj4,ut] [aeb,(901,.box 265 v5)]) false false []
def Eu:Nat->ph×Int×bw×A3×In×Int×Int×Int×Int->At (Int×ph×Int×bw×A3×In×Int×Int×Int×Int×Int×In):=mF FR FT
def agR:CO:=cF FR FT Eu func214
def acU N c f g h i e j p v:Eu (N+1) (c,f,g,h,i,e,j,p,v)=aW (Of N (c,f,g,h,i,e,j)) λl=>
 cond (!l)
  (some (1,c,f,g,h,i,e,j,0,0,0,false))
  (cond (e=100000)
   (some (2,c,f,g,h,i,e,j,0,0,0,false))
   (aW (Y5 N h) λm=>
   aW (RZ N (p,c,f,g,i,e,j,0,(-1),(-1),false,m)) λb=>
   aW (RZ N (v,b.2.2.1,b.2.2.2.1,b.2.2.2.2.1,b.2.2.2.2.2.1,b.2.2.2.2.2.2.1,b.2.2.2.2.2.2.2.1,b.2.2.2.2.2.2.2.2.1,b.2.2.2.2.2.2.2.2.2.1,b.2.2.2.2.2.2.2.2.2.2.1,b.2.2.2.2.2.2.2.2.2.2.2,b.2.1)) λd=>
   aW (FO N (b.1,d.1,d.2.2.1,d.2.2.2.1,d.2.2.2.2.1,d.2.2.2.2.2.1,(wZ (d.2.2.2.2.2.2.1+1)),d.2.2.2.2.2.2.2.1,b.1,d.2.2.2.2.2.2.2.2.2.1,d.2.2.2.2.2.2.2.2.2.2.1,d.2.2.2.2.2.2.2.2.2.2.2,d.2.1)) λa=>
   cond a.1
    (aW (R6 N (b.1,a.2.2.1,a.2.2.2.1,a.2.2.2.2.1,a.2.2.2.2.2.1,a.2.2.2.2.2.2.1,a.2.2.2.2.2.2.2.1,a.2.2.2.2.2.2.2.2.1,a.2.2.2.2.2.2.2.2.2.1,a.2.2.2.2.2.2.2.2.2.2.1,a.2.2.2.2.2.2.2.2.2.2.2,a.2.1)) λk=>
    cond (!(k.1=0))
     (some (k.1,c,f,g,h,i,e,j,0,0,0,false))
     (some (0,k.2.2.1,k.2.2.2.1,k.2.2.2.2.1,k.2.1,k.2.2.2.2.2)))
    (cond (a.2.2.2.2.2.2.2.1=100000)
     (some (2,c,f,g,h,i,e,j,0,0,0,false))
     (some (0,a.2.2.1,a.2.2.2.1,a.2.2.2.2.1,a.2.1,a.2.2.2.2.2.1,a.2.2.2.2.2.2.1,(wZ (a.2.2.2.2.2.2.2.1+1)),a.2.2.2.2.2.2.2.2.1,a.2.2.2.2.2.2.2.2.2.1,a.2.2.2.2.2.2.2.2.2.2.1,a.2.2.2.2.2.2.2.2.2.2.2))))):=ci
def iF:Do CO:=[agR]
def aig:Nat×PO:=(900,.arr 265 uc true)
def g8:Do (Nat×PO):=[(4294967296,.box 261 [.h qz,.h j1,.h j3,.h fZ,.h .b,.h j1,.h j1,.k (.ow 900)]),aig]
def iG:FD:=cL 165 f165 .z adc [(4294967296,.box 261 [.h qz,.h j1,.h j3,.h fZ,.h .b,.h j1,.h j1,.k .nil])] (bg [wl] g8) true false [4294967296,900]
def aru:Nat->Int×Int×ph×Int×bw×A3×In×Int×Int->At A14:=mF iF iG
def arv:CO:=cF iF iG aru func165
def iH:Do CO:=[agR]
def abf:Do (Nat×PO):=[(4294967296,.box 261 [.h qz,.h j1,.h j3,.h fZ,.h .b,.h j1,.h j1,.k (.ow 4294967297)]),(4294967297,.arr 265 uc true)]
def asu:Nat×PO:=(901,.arr 265 uc true)
def iI:FD:=cL 165 f165 .z adc abf (bg [wl] [(4294967296,.box 261 [.h qz,.h j1,.h j3,.h fZ,.h .b,.h j1,.h j1,.k (.ow 901)]),asu]) true false [4294967296,901]
def R8:Nat->Int×Int×ph×Int×bw×A3×In×Int×Int×gD->At A14:=mF iH iI
def amX:CO:=cF iH iI R8 func165
def agS N p v g b c d e f i h:R8 (N+1) (p,v,g,b,c,d,e,f,i,h)=aW (Eu N (g,b,c,d,e,f,i,p,v)) λa=>
 cond (a.1=0)
  (aW (eG 32 h [(a.2.2.2.2.2.2.2.2.1,a.2.2.2.2.2.2.2.2.2.1,a.2.2.2.2.2.2.2.2.2.2.1,a.2.2.2.2.2.2.2.2.2.2.2)]) λj=>
  some (a.1,a.2.1,a.2.2.1,a.2.2.2.1,a.2.2.2.2.1,a.2.2.2.2.2.1,a.2.2.2.2.2.2.1,a.2.2.2.2.2.2.2.1,j))
  (some (a.1,g,b,c,d,e,f,i,h)):=ci
def wy:Do CO:=[]
def R9:PS:=bg [z0,(6,.h fZ),z3,ut] []
def R_:Do (IR×PS):=[((.exit 0),bg [z0] [])]
def Sa:Pl:=.z
def B9:Nat->Nat->Int×A3×Int×Int->fi:=fx wy f215 [1,0,1,0,0] R9 R_ Sa
def FU:FD:=cL 215 f215 (.n .z (.n (.n .z (.n (.loop R9 R_ Sa) .z)) .z)) [.ag i7] [] (bg [z0] []) false true []
def Oi:Nat->ph×Int×bw×A3×In×Int×Int->fi:=mF wy FU
def aoE:CO:=cF wy FU Oi func215
def I6 N m n b c a:B9 N (m+1) (n,b,c,a)=cond (a<c)
 (aW (aZ b a) λd=>
 (B9 N m ((wZ (n+(length d:Int))),b,c,(wZ (a+1)))))
 (some n):=ci
def acV N c b d a e f g:Oi (N+1) (c,b,d,a,e,f,g)=aW (B9 N N (0,a,(length a:Int),0)) λh=>
 some h:=ci
def eB:Do CO:=[aoE,amX]
def v9:Nat×PV:=(0,.k (.pt 4294967296 0))
def Za:PS:=bg [v9,NE,ap2,M2] g8
def Zb:Do (IR×PS):=[((.exit 2),bg [v9,NE] g8),(.ret,bg [z0] g8)]
def Zc:Pl:=.z
def sW:Nat->Nat->Int×Int×Int×ph×Int×bw×A3×In×Int×Int×gD->At (A14⊕A14):=fx eB f166 [1,1,0,0,0,0,1,0,0] Za Zb Zc
def Zd:PS:=bg [v9,NE] [(4294967296,.box 261 [.h qz,.h j1,.h j3,.h fZ,.h .b,.h j1,.h j1,.k (.ow 907)]),(907,.arr 265 uc true)]
def Ze:Do (IR×PS):=[(.ret,bg [z0] g8)]
def Zf:Pl:=(.n (.n (.n .z (.n (.loop Za Zb Zc) .z)) .z) .z)
def He:Nat->Nat->Int×ph×Int×bw×A3×In×Int×Int×gD->At A14:=fx eB f166 [1,1,0,0] Zd Ze Zf
def hU:FD:=cL 166 f166 (.n .z (.n .z (.n (.loop Zd Ze Zf) .z))) li abf (bg [z0] g8) true false [4294967296,900]
def agT:Nat->ph×Int×bw×A3×In×Int×Int×gD->At A14:=mF eB hU
def arw:CO:=cF eB hU agT func166
def rD N m r j h g b c d a e f i:sW N (m+1) (r,j,h,g,b,c,d,a,e,f,i)=cond (h<j)
 (cond a
  (some (.inr (0,g,b,c,d,a,e,f,i)))
  (aW (Oi N (g,b,c,d,a,e,f)) λl=>
  cond (l=0)
   (some (.inr (4,g,b,c,d,a,e,f,i)))
   (aW (R8 N (h,(wZ ((wZ (h+1))+r)),g,b,c,d,a,e,f,i)) λk=>
   cond (!(k.1=0))
    (some (.inr k))
    ((sW N m (r,j,(wZ (h+1)),k.2))))))
 (some (.inl (r,g,b,c,d,a,e,f,i))):=ci
def x3 N m r g b c a d e f h:He N (m+1) (r,g,b,c,a,d,e,f,h)=aW (sW N N (r,(length a:Int),0,g,b,c,a,d,e,f,h)) λj=>
 (match j with
 |.inl i=>(He N m ((wZ (i.1+1)),i.2))
 |.inr k=>some k):=ci
def agU N g a b c d e f h:agT (N+1) (g,a,b,c,d,e,f,h)=aW (He N N (0,g,a,b,c,d,e,f,h)) λi=>
 some i:=ci
def qK:Do CO:=[aoz,arv,amX,arw]
def apl:Nat×PV:=(8,.k (.pt 900 0))
def wt:Do (Nat×PO):=[(900,.box 97 [.k .nil,.h j1,.k .nil,.k .nil,.h .b,.h j1,.h j1]),(901,.box 261 [.h qz,.h j1,.h j3,.h fZ,.h .b,.h j1,.h j1,.k (.ow 902)]),(902,.arr 265 uc true)]
def Zg:PS:=bg [apl,(13,.k (.pt 901 0)),(31,.h iw),(32,.h j1),(33,.h j1)] wt
def aue:Nat×PV:=(9,.k (.ow 901))
def Zh:Do (IR×PS):=[((.exit 0),bg [apl,(13,.k (.pt 901 0))] wt),(.ret,bg [apl,aue,z9] [aeb,asu])]
def Zi:Pl:=.z
def B_:Nat->Nat->A1×Int×Int×Int×In×Int×Int×ph×Int×bw×A3×In×Int×Int×gD->At ((Int×In×Int×Int×ph×Int×bw×A3×In×Int×Int×gD)⊕A14):=fx qK f92 [1,1,1,1,0,1,0,0] Zg Zh Zi
def yY:FD:=cL 92 f92 (.n .z (.n .z (.n .z (.n .z (.n (.n .z (.n (.loop Zg Zh Zi) .z)) .z))))) [.h j1,.h j1,.h j1,.h iw] [] (bg [apl,aue,z9] [aeb,asu]) true false [901]
def Sb:Nat->Int×Int×Int×A1->At A14:=mF qK yY
def arx:CO:=cF qK yY Sb func92
def Ew N m o p h i j k l g b c d a e f n:B_ N (m+1) (o,p,h,i,j,k,l,g,b,c,d,a,e,f,n)=cond (h<p)
 (aW (aZ o h) λr=>
 cond a
  (some (.inl (i,j,k,l,g,b,c,d,a,e,f,n)))
  (aW (R8 N (r.1,r.2,g,b,c,d,a,e,f,n)) λq=>
  cond (!(q.1=0))
   (some (.inr q))
   ((B_ N m (o,p,(wZ (h+1)),i,j,k,l,q.2)))))
 (some (.inl (i,j,k,l,g,b,c,d,a,e,f,n))):=ci
def agV N n c d b:Sb (N+1) (n,c,d,b)=aW (Od N (n,c,d)) λa=>
 cond (!(a.1=0))
  (some (a.1,[],0,[],[],false,0,0,[]))
  (aW (B_ N N (b,(length b:Int),0,0,false,0,0,a.2.1,a.2.2.1,a.2.2.2.1,a.2.2.2.2.1,a.2.2.2.2.2.1,a.2.2.2.2.2.2.1,a.2.2.2.2.2.2.2,[])) λe=>
  (match e with
  |.inl g=>aW (agT N g.2.2.2.2) λf=>
   some f
  |.inr h=>some h)):=ci
def oz:Do CO:=[]
def Zj:PS:=bg [i9,anj,(9,.h kB),z9,WF] [aeb,(901,.arr 193 j5 true)]
def Zk:Do (IR×PS):=[((.exit 0),bg [m8] [(900,.arr 193 j5 true)])]
def Zl:Pl:=.z
def sX:Nat->Nat->gD×Int×Int×ph×Int×bw×A3×In×Int×Int×A1->At (A1):=fx oz f93 [1,1,0,1,0,0] Zj Zk Zl
def wz:FD:=cL 93 f93 (.n .z (.n .z (.n (.n .z (.n (.loop Zj Zk Zl) .z)) .z))) [.ag i7,.h kB] [] (bg [lm] [(900,.arr 193 j5 true)]) true true [900]
def Zm:Nat->ph×Int×bw×A3×In×Int×Int×gD->At (A1):=mF oz wz
def ary:CO:=cF oz wz Zm func93
def L3 N m e d a c f g h i j k b:sX N (m+1) (e,d,a,c,f,g,h,i,j,k,b)=cond (a<d)
 (aW (aZ e a) λl=>
 cond l.2.2.2
  ((sX N m (e,d,(wZ (a+1)),c,f,g,h,i,j,k,b)))
  (cond (l.2.2.1<0)
   ((sX N m (e,d,(wZ (a+1)),c,f,g,h,i,j,k,b)))
   (cond ((length c:Int)<=l.2.2.1)
    ((sX N m (e,d,(wZ (a+1)),c,f,g,h,i,j,k,b)))
    (aW (aZ c l.2.2.1) λn=>
    aW (eG 16 b [(n.1,n.2.1)]) λo=>
    (sX N m (e,d,(wZ (a+1)),c,f,g,h,i,j,k,o))))))
 (some b):=ci
def agW N c a b d e f g l:Zm (N+1) (c,a,b,d,e,f,g,l)=aW (sX N N (l,(length l:Int),0,c,a,b,d,e,f,g,[])) λh=>
 some h:=ci
def nK:Do CO:=[aox,arx,ary]
def n9:Nat×PV:=(8,.k (.ow 900))
def aoh:Nat×PO:=(903,.arr 3 j1 true)
def Sd:PS:=bg [n9,(10,.k (.ow 903)),(12,.k (.pt 901 0)),(44,.k (.ow 902)),ap4,att,(54,.h j1),(55,.h j1)] [aig,aoh,(901,.box 193 PP),(902,.arr 193 j5 true)]
def Se:Do (IR×PS):=[((.exit 2),bg [n9,(10,.k (.ow 901)),(44,.k (.ow 902)),ap4,att] [aig,m4,(902,.arr 193 j5 true)])]
def Sf:Pl:=.z
def Ca:Nat->Nat->Int×Int×Int×Int×gD×aX×Int×Int×A1->At (Int×Int×gD×aX×A1):=fx nK f32 [1,1,1,1,1,1,0,1,0,0,1,1,0,0,1,1,0,0] Sd Se Sf
def aja:Nat×PO:=(902,.arr 3 j1 true)
def Sg:PS:=bg [n9,ats,(44,.k (.ow 901)),ap4,att] [aig,aja,(901,.arr 193 j5 true)]
def Sh:Do (IR×PS):=[((.exit 0),bg [n9,(10,.k (.ow 901))] [aig,m4])]
def Si:Pl:=(.n .z (.n .z (.n (.n (.n .z (.n .z (.n (.loop Sd Se Sf) .z))) .z) .z)))
def Cb:Nat->Nat->Int×Int×gD×aX×A1->At (gD×aX):=fx nK f32 [1,1,1,1,1,1,0,1,0,0] Sg Sh Si
def Cc:FD:=cL 32 f32 (.n .z (.n .z (.n .z (.n .z (.n .z (.n .z (.n (.n .z (.n (.loop Sg Sh Si) .z)) .z))))))) [.h j1,.ag ad0] [] (bg [lm,to,wl] [gc]) true true [900]
def k9:Nat->Int×Int×Int×A1->At A7:=mF nK Cc
def V4:CO:=cF nK Cc k9 func32
def I7 N m c d e v55 l a s f b:Ca N (m+1) (c,d,e,v55,l,a,s,f,b)=cond (v55<e)
 (aW (eG 8 a [(wZ (s+v55))]) λg=>
 (Ca N m (c,d,e,(wZ (v55+1)),l,g,s,f,b)))
 (some (c,d,l,a,b)):=ci
def I8 N m f a l e c:Cb N (m+1) (f,a,l,e,c)=cond (a<f)
 (aW (aZ c a) λg=>
 aW (aZ c a) λd=>
 aW (Ca N N (f,a,(wZ (d.2 - d.1)),0,l,e,d.1,d.2,c)) λb=>
 (Cb N m (b.1,(wZ (b.2.1+1)),b.2.2.1,b.2.2.2.1,b.2.2.2.2)))
 (some (l,e)):=ci
def Ex N n p p2 p3:k9 (N+1) (n,p,p2,p3)=cond (n<0)
 (some (0,1,[]))
 (cond (1000<n)
  (some (0,1,[]))
  (aW (IY N (p,p2,p3)) λd=>
  cond (!d)
   (some (0,1,[]))
   (cond (n=0)
    (some (0,0,[]))
    (aW (Sb N (n,p,p2,p3)) λa=>
    cond (!(a.1=0))
     (some (0,a.1,[]))
     (aW (Zm N a.2) λb=>
     aW (Cb N N ((length b:Int),0,a.2.2.2.2.2.2.2.2,[],b)) λc=>
     some ((length c.1:Int),0,c.2)))))):=ci
def FV:Do CO:=[]
def FW:FD:=cL 292 f292 .z [.h j8,.h j1,.h j1] [] (bg [(6,.h j8)] []) false false []
def I9:Nat->aX×Int×Int->mf:=mF FV FW
def aoF:CO:=cF FV FW I9 func292
def acW N l i a:I9 (N+1) (l,i,a)=aW (kj l (wZ (i*a)) (if((wZ ((wZ (i+1))*a))<(length l:Int))then(wZ ((wZ (i+1))*a))else(length l:Int))) λb=>
 some b:=ci
def yZ:Do CO:=[]
def y0:FD:=cL 274 f274 .z [.h j2,.h j2] [] (bg [(4,.h j2)] []) false true []
def Oj:Nat->Int×Int->fi:=mF yZ y0
def agX:CO:=cF yZ y0 Oj func274
def L4 N a b:Oj (N+1) (a,b)=some (wrap .u32 (a+b)):=ci
def gJ:Do CO:=[agX]
def i8:Nat×PO:=(900,.arr 69 j2 true)
def Zn:PS:=bg [(1,.k (.v (.func (.func 274) #[] #[]))),nl,(7,.h j2),(13,.h j8),M2,atr] [i8]
def Zo:Do (IR×PS):=[((.exit 0),bg [nl,(7,.h j2)] [i8])]
def Zp:Pl:=.z
def Hf:Nat->Nat->Int×aX×Int×Int×aX->At A6:=fx gJ f291 [1,1,1,0,1,0,0] Zn Zo Zp
def jU:FD:=cL 291 f291 (.n .z (.n .z (.n .z (.n (.n .z (.n (.loop Zn Zo Zp) .z)) .z)))) [.h j8,.k (.v (.func (.func 274) #[] #[]))] [] (bg [lm,(5,.h j2)] [i8]) true true [900]
def L5:Nat->aX->At A6:=mF gJ jU
def arz:CO:=cF gJ jU L5 func291
def L6 N m all c d a b:Hf N (m+1) (all,c,d,a,b)=cond (a<d)
 (aW (aZ c a) λe=>
 aW (aZ b a) λg=>
 aW (aZ b a) λh=>
 aW (Oj N (all,e)) λf=>
 (Hf N m (f,c,d,(wZ (a+1)),(List.set b (Int.toNat a) all))))
 (some (all,b)):=ci
def agY N l:L5 (N+1) l=aW (vh (length l:Int) (4:Nat)) λb=>
 aW (Hf N N ((0:Int),l,(length l:Int),(0:Int),(replicate b (0:Int)))) λa=>
 some (a.1,a.2):=ci
def ep:Do CO:=[agE,aow,V4,aoF,arz,agX]
def aee:Nat×PV:=(0,.h j8)
def ww:Nat×PV:=(3,.k (.v (.func (.func 274) #[] #[])))
def atu:Nat×PV:=(17,.k (.ow 901))
def atv:Nat×PV:=(19,.h j1)
def atw:Nat×PV:=(76,.k (.ow 902))
def SW:Nat×PO:=(901,.arr 69 j2 true)
def Zq:PS:=bg [aee,aeg,ww,n9,(9,.h j2),z9,atu,atv,atw,(77,.h j1),(78,.h j1),(91,.k (.ow 903)),(92,.h j1),(93,.h j1)] [i8,SW,aja,(903,.arr 69 j2 true)]
def Zr:Do (IR×PS):=[((.exit 4),bg [aee,aeg,ww,n9,(9,.h j2),z9,atu,atw,(77,.h j1),(78,.h j1)] [i8,SW,aja])]
def Zs:Pl:=.z
def Cd:Nat->Nat->aX×Int×Int×Int×Int×Int×Int×Int×Int×aX×aX×aX×aX->At (aX×Int×Int×Int×Int×Int×aX×aX×aX):=fx ep f273 [1,1,1,1,1,1,1,1,1,0,1,0,0,1,1,0,0,1,1,1,0,0] Zq Zr Zs
def Zt:PS:=bg [aee,aeg,ww,n9,(9,.h j2),z9,atu,atw,(77,.h j1),(78,.h j1)] [i8,SW,aja]
def Zu:Do (IR×PS):=[((.exit 2),bg [n9,(9,.h j2),z9] [i8])]
def Zv:Pl:=(.n .z (.n .z (.n (.n (.n .z (.n .z (.n .z (.n (.loop Zq Zr Zs) .z)))) .z) .z)))
def Hg:Nat->Nat->aX×Int×Int×Int×Int×Int×aX×aX×aX->At A7:=fx ep f273 [1,1,1,1,1,1,1,1,1,0,1,0,0] Zt Zu Zv
def atx:Nat×PV:=(13,.k (.ow 900))
def Zw:PS:=bg [aee,aeg,ww,z9,atx,(14,.k (.ow 901)),(48,.k (.ow 900)),(49,.h j1),(50,.h j1)] [gc,SW]
def Zx:Do (IR×PS):=[((.exit 0),bg [aee,aeg,ww,z9,atx,(14,.k (.ow 901))] [gc,SW])]
def Zy:Pl:=.z
def Hh:Nat->Nat->aX×Int×Int×Int×Int×aX×aX->At (aX×Int×Int×aX×aX):=fx ep f273 [1,1,1,1,1,1,0,1,0,0] Zw Zx Zy
def jA:FD:=cL 273 f273 (.n .z (.n .z (.n .z (.n .z (.n .z (.n .z (.n (.n .z (.n (.loop Zw Zx Zy) .z)) (.n .z (.n .z (.n (.n .z (.n (.loop Zt Zu Zv) .z)) .z)))))))))) [.h j8,.h j1,.ag ad0,.k (.v (.func (.func 274) #[] #[]))] [] (bg [n9,(9,.h j2),z9,WF] [i8]) true true [900]
def agZ:Nat->aX×Int×Int×Int×A1->At (Int×Int×Int×aX):=mF ep jA
def arB:CO:=cF ep jA agZ func273
def L7 N m l a all e i g h j v93 c b f d:Cd N (m+1) (l,a,all,e,i,g,h,j,v93,c,b,f,d)=cond (v93<j)
 (aW (aZ d v93) λp=>
 aW (aZ d v93) λk=>
 aW (aZ b i) λq=>
 aW (aZ b i) λn=>
 aW (Oj N (n,k)) λo=>
 aW (aZ c (wZ ((wZ (i*a))+v93))) λr=>
 aW (aZ c (wZ ((wZ (i*a))+v93))) λs=>
 (Cd N m (l,a,all,e,i,g,h,j,(wZ (v93+1)),(List.set c (Int.toNat (wZ ((wZ (i*a))+v93))) o),b,f,d)))
 (some (l,a,all,e,g,h,c,b,f)):=ci
def L8 N m l d all f g b e h c:Hg N (m+1) (l,d,all,f,g,b,e,h,c)=cond (b<g)
 (aW (aZ c b) λn=>
 aW (aZ c b) λi=>
 aW (I9 N (l,i,d)) λk=>
 aW (L5 N k) λj=>
 aW (Cd N N (l,d,all,f,i,g,b,(length j.2:Int),0,e,h,c,j.2)) λa=>
 (Hg N m (a.1,a.2.1,a.2.2.1,a.2.2.2.1,a.2.2.2.2.1,(wZ (a.2.2.2.2.2.1+1)),a.2.2.2.2.2.2.1,a.2.2.2.2.2.2.2.1,a.2.2.2.2.2.2.2.2)))
 (some (all,f,e)):=ci
def L9 N m l d f g c b a:Hh N (m+1) (l,d,f,g,c,b,a)=cond (c<g)
 (aW (aZ b c) λj=>
 aW (aZ b c) λe=>
 aW (I9 N (l,e,d)) λh=>
 aW (L5 N h) λi=>
 aW (aZ a e) λk=>
 aW (aZ a e) λn=>
 (Hh N m (l,d,f,g,(wZ (c+1)),b,(List.set a (Int.toNat e) i.1))))
 (some (l,d,f,b,a)):=ci
def Sj N l c p p2 p3:agZ (N+1) (l,c,p,p2,p3)=aW (N_ N c) λg=>
 cond (!g)
  (some ((0:Int),(0:Int),(1:Int),[]))
  (cond ((1000:Int)<(length l:Int))
   (some ((0:Int),(0:Int),(1:Int),[]))
   (aW (Oa N ((length l:Int),c)) λe=>
   aW (k9 N (e,p,p2,p3)) λb=>
   cond (!(b.2.1=(0:Int)))
    (some ((0:Int),(0:Int),b.2.1,[]))
    (aW (vh e (4:Nat)) λh=>
    aW (Hh N N (l,c,b.1,(length b.2.2:Int),(0:Int),b.2.2,(replicate h (0:Int)))) λa=>
    aW (L5 N a.2.2.2.2) λf=>
    aW (vh (length a.1:Int) (4:Nat)) λi=>
    aW (Hg N N (a.1,a.2.1,f.1,a.2.2.1,(length a.2.2.2.1:Int),(0:Int),(replicate i (0:Int)),f.2,a.2.2.2.1)) λd=>
    some (d.1,(wZ ((2:Int)*d.2.1)),(0:Int),d.2.2)))):=ci
def FX:Do CO:=[arB]
def FY:FD:=cL 237 f237 .z [.h j8,.h j1,.ag ad0] [] (bg [nl,(7,.h j2),ut,aet] [i8]) true true [900]
def I_:Nat->aX×Int×Int×Int×A1->At (Int×Int×Int×aX):=mF FX FY
def ag0:CO:=cF FX FY I_ func237
def L_ N l b p p2 p3:I_ (N+1) (l,b,p,p2,p3)=aW (agZ N (l,b,p,p2,p3)) λa=>
 some (a.1,a.2.1,a.2.2.1,a.2.2.2):=ci
def y5:Do CO:=[amU]
def y6:FD:=cL 293 f293 .z PP [] (bg n7 []) false true []
def ag1:Nat->Int×Int->eu:=mF y5 y6
def arC:CO:=cF y5 y6 ag1 func293
def ag2 N a bits:ag1 (N+1) (a,bits)=cond (0<=a)
 (aW (RK N bits) λb=>
 some (decide (a<b)))
 (some false):=ci
def y7:Do CO:=[arC]
def y8:FD:=cL 275 f275 .z [.h j2,.h j1,.h j1] [] (bg [(6,.h j2)] []) false true []
def Sl:Nat->Int×Int×Int->fi:=mF y7 y8
def arD:CO:=cF y7 y8 Sl func275
def ag3 N b a bits:Sl (N+1) (b,a,bits)=aW (ag1 N (a,bits)) λc=>
 cond (!c)
  (some 0)
  (aW (Qh .u32 b (wrap .u64 (wZ (a*bits)))) λd=>
  aW (Vc .u32 1 (wrap .u64 bits)) λe=>
  some (Nt .and .u32 d (wrap .u32 (e - 1)))):=ci
def oA:Do CO:=[arD]
def aic:Nat×PV:=(9,.k (.ow 900))
def ap5:Nat×PV:=(13,.k (.ow 901))
def Sm:PS:=bg [aee,z0,NE,aic,ap5,(63,.h j6),(64,.h j1),(65,.h j1)] [gc,m4]
def Sq:Do (IR×PS):=[((.exit 4),bg [atx] [gc])]
def Sr:Pl:=.z
def Ce:Nat->Nat->aX×Int×Int×aX×Int×Int×aX×aX->mf:=fx oA f238 [1,1,1,1,1,0,1,0,0] Sm Sq Sr
def Ss:PS:=bg [aee,(1,.h j6),z0,NE,aic,(44,.h j1),ap4] [gc]
def Su:Do (IR×PS):=[((.exit 2),bg [aee,(1,.h j6),z0,NE,aic] [gc])]
def Sv:Pl:=.z
def Cf:Nat->Nat->aX×aX×Int×Int×Int×Int×aX->At (aX×aX×Int×Int×aX):=fx oA f238 [1,1,1,0,1,0,0] Ss Su Sv
def Sw:PS:=bg [aee,(1,.h j6),z0,NE,aic,(22,.h j6),(23,.h j1),(24,.h j1)] [gc]
def Sx:Do (IR×PS):=[((.exit 0),bg [aee,(1,.h j6),z0,NE,aic] [gc])]
def Sy:Pl:=.z
def Cg:Nat->Nat->aX×aX×Int×Int×aX×Int×Int×aX->At (aX×aX×Int×Int×aX):=fx oA f238 [1,1,0,1,0,0] Sw Sx Sy
def Ja:FD:=cL 238 f238 (.n .z (.n .z (.n (.n .z (.n (.loop Sw Sx Sy) .z)) (.n (.n .z (.n (.loop Ss Su Sv) .z)) (.n .z (.n (.n .z (.n (.loop Sm Sq Sr) .z)) .z)))))) [.h j8,.h j6,.h j1,.h j1] [] (bg [n9] [gc]) true true [900]
def Ol:Nat->aX×aX×Int×Int->mf:=mF oA Ja
def aoG:CO:=cF oA Ja Ol func238
def Jb N m e f bits g h d a c:Ce N (m+1) (e,f,bits,g,h,d,a,c)=cond (d<h)
 (aW (aZ g d) λj=>
 aW (aZ e j) λk=>
 aW (Sl N (k,f,bits)) λb=>
 aW (aZ a b) λp=>
 aW (aZ a b) λi=>
 aW (aZ c i) λq=>
 aW (aZ c i) λr=>
 aW (aZ a b) λs=>
 aW (aZ a b) λl=>
 aW (aZ a b) λn=>
 aW (aZ a b) λo=>
 (Ce N m (e,f,bits,g,h,(wZ (d+1)),(List.set a (Int.toNat b) (wZ (l+1))),(List.set c (Int.toNat i) j))))
 (some c):=ci
def Jc N m c d e bits f a b:Cf N (m+1) (c,d,e,bits,f,a,b)=cond (a<f)
 (aW (aZ b (wZ (a+1))) λh=>
 aW (aZ b (wZ (a+1))) λg=>
 aW (aZ b a) λi=>
 aW (aZ b a) λz4=>
 aW (aZ b (wZ (a+1))) λj=>
 aW (aZ b (wZ (a+1))) λk=>
 (Cf N m (c,d,e,bits,f,(wZ (a+1)),(List.set b (Int.toNat (wZ (a+1))) (wZ (g+z4))))))
 (some (c,d,e,bits,b)):=ci
def Je N m c f d bits g h e a:Cg N (m+1) (c,f,d,bits,g,h,e,a)=cond (e<h)
 (aW (aZ g e) λi=>
 aW (aZ c i) λj=>
 aW (Sl N (j,d,bits)) λb=>
 aW (aZ a (wrap .u32 (b+1))) λl=>
 aW (aZ a (wrap .u32 (b+1))) λk=>
 aW (aZ a (wrap .u32 (b+1))) λn=>
 aW (aZ a (wrap .u32 (b+1))) λo=>
 (Cg N m (c,f,d,bits,g,h,(wZ (e+1)),(List.set a (Int.toNat (wrap .u32 (b+1))) (wZ (k+1))))))
 (some (c,f,d,bits,a)):=ci
def acX N d c e bits:Ol (N+1) (d,c,e,bits)=aW (Vc .i64 (1:Int) (wrap .u64 bits)) λf=>
 aW (vh (wZ (f+(1:Int))) (8:Nat)) λg=>
 aW (Cg N N (d,c,e,bits,c,(length c:Int),(0:Int),(replicate g (0:Int)))) λb=>
 aW (Cf N N (b.1,b.2.1,b.2.2.1,b.2.2.2.1,(wZ ((length b.2.2.2.2:Int) - (1:Int))),(0:Int),b.2.2.2.2)) λa=>
 aW (vh (length a.2.1:Int) (8:Nat)) λh=>
 aW (Ce N N (a.1,a.2.2.1,a.2.2.2.1,a.2.1,(length a.2.1:Int),(0:Int),a.2.2.2.2,(replicate h (0:Int)))) λi=>
 some i:=ci
def nL:Do CO:=[amU,ag0,aoG]
def ap6:Nat×PV:=(16,.k (.ow 900))
def Sz:PS:=bg [aee,aeg,WF,M2,ap6,ap4,att] [gc]
def SA:Do (IR×PS):=[((.exit 2),bg [WF,M2,ap6] [gc])]
def SB:Pl:=.z
def Ch:Nat->Nat->aX×Int×Int×Int×Int×Int×aX->At A7:=fx nL f192 [1,1,1,1,1,1,1,0,1,0,0] Sz SA SB
def SC:PS:=bg [aee,aeg,WF,M2,ap6,(36,.h j1),(37,.h j1)] [gc]
def SD:Do (IR×PS):=[((.exit 0),bg [aee,aeg,WF,M2,ap6] [gc])]
def SE:Pl:=.z
def Ci:Nat->Nat->aX×Int×Int×Int×Int×Int×aX->At (aX×Int×Int×Int×aX):=fx nL f192 [1,1,1,1,1,1,0,1,0,0] SC SD SE
def Cj:FD:=cL 192 f192 (.n .z (.n .z (.n .z (.n .z (.n .z (.n .z (.n (.n .z (.n (.loop SC SD SE) .z)) (.n (.n .z (.n (.loop Sz SA SB) .z)) .z)))))))) [.h j8,.h j1,.h j1,.ag ad0] [] (bg [n9,aet,z9] [gc]) true true [900]
def Jf:Nat->aX×Int×Int×Int×Int×A1->At A7:=mF nL Cj
def aoH:CO:=cF nL Cj Jf func192
def Jg N m b bits d e f a c:Ch N (m+1) (b,bits,d,e,f,a,c)=cond (a<f)
 (aW (Ol N (b,c,a,bits)) λg=>
 (Ch N m (b,bits,d,e,f,(wZ (a+1)),g)))
 (some (d,e,c)):=ci
def Jh N m b bits d e f a c:Ci N (m+1) (b,bits,d,e,f,a,c)=cond (a<f)
 (aW (eG 8 c [a]) λg=>
 (Ci N m (b,bits,d,e,f,(wZ (a+1)),g)))
 (some (b,bits,d,e,c)):=ci
def Ma N b bits e p p2 p3:Jf (N+1) (b,bits,e,p,p2,p3)=aW (RK N bits) λf=>
 cond (f=0)
  (some (0,1,[]))
  (aW (I_ N (b,e,p,p2,p3)) λc=>
  cond (!(c.2.2.1=0))
   (some (0,c.2.2.1,[]))
   (aW (Ci N N (b,bits,f,c.2.1,(length b:Int),0,[])) λa=>
   aW (Ch N N (a.1,a.2.1,a.2.2.1,a.2.2.2.1,a.2.2.1,0,a.2.2.2.2)) λd=>
   some ((wZ (d.2.1*d.1)),0,d.2.2))):=ci
def sY:Do CO:=[]
def SF:PS:=bg [aj0,aeg,(5,.k (.mp 900)),(9,.h j6),z9,WF] [(900,.mp (.int .i64) j1 j1)]
def SG:Do (IR×PS):=[((.exit 0),bg [aj0,aeg] []),(.ret,bg n7 [])]
def SH:Pl:=.z
def Ck:Nat->Nat->aX×Int×aX×Int×Int×A1->At ((aX×Int)⊕(In)):=fx sY f239 [1,1,0,1,0,0] SF SG SH
def Co:FD:=cL 239 f239 (.n .z (.n .z (.n (.n .z (.n (.loop SF SG SH) .z)) .z))) aqr [] (bg n7 []) false true []
def Om:Nat->aX×Int->eu:=mF sY Co
def aoI:CO:=cF sY Co Om func239
def Ji N m d n f e c b:Ck N (m+1) (d,n,f,e,c,b)=cond (c<e)
 (aW (aZ f c) λa=>
 cond (a<0)
  (some (.inr false))
  (cond (n<=a)
   (some (.inr false))
   (cond (1<(Option.getD (bN j1 (d_ j1 b a (wZ ((Option.getD (bN j1 b a) 0)+1))) a) 0))
    (some (.inr false))
    ((Ck N m (d,n,f,e,(wZ (c+1)),(d_ j1 b a (wZ ((Option.getD (bN j1 b a) 0)+1)))))))))
 (some (.inl (d,n))):=ci
def acY N a n:Om (N+1) (a,n)=aW (Ck N N (a,n,a,(length a:Int),0,[])) λc=>
 (match c with
 |.inl b=>some (decide ((length b.1:Int)=b.2))
 |.inr d=>some d):=ci
def oC:Do CO:=[aoI]
def Zz:PS:=bg [aee,nl,(14,.h j6),atr,(16,.h j1)] [i8]
def ZA:Do (IR×PS):=[((.exit 0),bg [nl] [i8])]
def ZB:Pl:=.z
def Hi:Nat->Nat->aX×aX×Int×Int×aX->mf:=fx oC f193 [1,1,1,0,1,0,0] Zz ZA ZB
def wA:FD:=cL 193 f193 (.n .z (.n .z (.n .z (.n (.n .z (.n (.loop Zz ZA ZB) .z)) .z)))) [.h j8,.h j6] [] (bg [lm,(5,.h .b)] [i8]) true true [900]
def ZC:Nat->aX×aX->At A9:=mF oC wA
def arE:CO:=cF oC wA ZC func193
def Mb N m b c d a l:Hi N (m+1) (b,c,d,a,l)=cond (a<d)
 (aW (aZ c a) λe=>
 aW (aZ b e) λf=>
 aW (eG 4 l [f]) λg=>
 (Hi N m (b,c,d,(wZ (a+1)),g)))
 (some l):=ci
def ag4 N b a:ZC (N+1) (b,a)=aW (Om N (a,(length b:Int))) λc=>
 cond (!c)
  (some (false,[]))
  (aW (Hi N N (b,a,(length a:Int),0,[])) λd=>
  some (true,d)):=ci
def oD:Do CO:=[]
def ZD:PS:=bg [aee,up,(9,.h j8),z9,WF] [LE]
def ZE:Do (IR×PS):=[((.exit 0),bg [up] [LE])]
def ZF:Pl:=.z
def Cp:Nat->Nat->aX×aX×Int×Int×bw->At (bw):=fx oD f195 [1,1,0,1,0,0] ZD ZE ZF
def wB:FD:=cL 195 f195 (.n .z (.n .z (.n (.n .z (.n (.loop ZD ZE ZF) .z)) .z))) [.h j8] [] (bg [m2] [LE]) true true [900]
def ZG:Nat->aX->At (bw):=mF oD wB
def arF:CO:=cF oD wB ZG func195
def Mc N m b d c a l:Cp N (m+1) (b,d,c,a,l)=cond (a<c)
 (aW (aZ d a) λe=>
 cond (a=0)
  (aW (aZ l a) λg=>
  aW (aZ l a) λh=>
  (Cp N m (b,d,c,(wZ (a+1)),(List.set l (Int.toNat a) true))))
  (aW (aZ b (wZ (a - 1))) λf=>
  aW (aZ l a) λi=>
  aW (aZ l a) λj=>
  (Cp N m (b,d,c,(wZ (a+1)),(List.set l (Int.toNat a) (!(f=e)))))))
 (some l):=ci
def ag5 N a:ZG (N+1) a=aW (vh (length a:Int) (1:Nat)) λb=>
 aW (Cp N N (a,a,(length a:Int),(0:Int),(replicate b false))) λc=>
 some c:=ci
def sZ:Do CO:=[]
def SI:PS:=bg [(1,.h .b),m8,(11,.h j3),(12,.h j1),ap2] [i8]
def SJ:Do (IR×PS):=[((.exit 0),bg [m8] [i8])]
def SK:Pl:=.z
def wC:Nat->Nat->In×bw×Int×Int×aX->mf:=fx sZ f241 [1,1,0,1,0,0] SI SJ SK
def Cq:FD:=cL 241 f241 (.n .z (.n .z (.n (.n .z (.n (.loop SI SJ SK) .z)) .z))) [.h j3,.h .b] [] (bg [lm] [i8]) true true [900]
def On:Nat->bw×In->mf:=mF sZ Cq
def aoJ:CO:=cF sZ Cq On func241
def Jj N m b c d a l:wC N (m+1) (b,c,d,a,l)=cond (a<d)
 (aW (aZ c a) λe=>
 cond (!(e==b))
  (aW (aZ l a) λf=>
  aW (aZ l a) λg=>
  (wC N m (b,c,d,(wZ (a+1)),(List.set l (Int.toNat a) 1))))
  ((wC N m (b,c,d,(wZ (a+1)),l))))
 (some l):=ci
def acZ N a b:On (N+1) (a,b)=aW (vh (length a:Int) (4:Nat)) λc=>
 aW (wC N N (b,a,(length a:Int),(0:Int),(replicate c (0:Int)))) λd=>
 some d:=ci
def qL:Do CO:=[ag0,V4]
def aty:Nat×PV:=(15,.k (.ow 901))
def ZH:PS:=bg [aee,aic,WF,M2,aty,(43,.k (.ow 902)),(44,.h j1),ap4] [i8,m4,aja]
def atz:Nat×PV:=(15,.k (.ow 900))
def ZI:Do (IR×PS):=[((.exit 0),bg [WF,M2,atz] [gc])]
def ZJ:Pl:=.z
def Cr:Nat->Nat->aX×Int×Int×Int×Int×aX×aX×aX->At A7:=fx qL f240 [1,1,1,1,1,1,0,1,0,0] ZH ZI ZJ
def y9:FD:=cL 240 f240 (.n .z (.n .z (.n .z (.n .z (.n .z (.n .z (.n (.n .z (.n (.loop ZH ZI ZJ) .z)) .z))))))) [.h j8,.h j1,.ag ad0] [] (bg [nl,z3,ut] [gc]) true true [900]
def ag6:Nat->aX×Int×Int×Int×A1->At A7:=mF qL y9
def arG:CO:=cF qL y9 ag6 func240
def Md N m d n e f a b l c:Cr N (m+1) (d,n,e,f,a,b,l,c)=cond (a<f)
 (aW (aZ c a) λj=>
 aW (aZ c a) λg=>
 aW (aZ d g) λi=>
 cond (i=1)
  (aW (aZ b g) λk=>
  aW (aZ b g) λh=>
  aW (aZ l h) λo=>
  aW (aZ l h) λp=>
  (Cr N m (d,n,e,f,(wZ (a+1)),b,(List.set l (Int.toNat h) g),c)))
  ((Cr N m (d,n,e,f,(wZ (a+1)),b,l,c))))
 (some (n,e,l)):=ci
def ag7 N c d p p2 p3:ag6 (N+1) (c,d,p,p2,p3)=aW (I_ N (c,d,p,p2,p3)) λa=>
 cond (!(a.2.2.1=(0:Int)))
  (some ((0:Int),a.2.2.1,[]))
  (aW (k9 N ((length c:Int),p,p2,p3)) λb=>
  cond (!(b.2.1=(0:Int)))
   (some ((0:Int),b.2.1,[]))
   (aW (vh a.1 (8:Nat)) λe=>
   aW (Cr N N (c,a.2.1,b.1,(length b.2.2:Int),(0:Int),a.2.2.2,(replicate e (0:Int)),b.2.2)) λz4=>
   some ((wZ (z4.1+z4.2.1)),(0:Int),z4.2.2))):=ci
def Cs:Do CO:=[aoJ,arG]
def Ct:FD:=cL 194 f194 .z [.h j3,.h j1,.ag ad0] [] (bg [nl,z3,ut] [gc]) true true [900]
def Oo:Nat->bw×Int×Int×Int×A1->At A7:=mF Cs Ct
def aoK:CO:=cF Cs Ct Oo func194
def ac0 N c b p p2 p3:Oo (N+1) (c,b,p,p2,p3)=aW (On N (c,false)) λd=>
 aW (ag6 N (d,b,p,p2,p3)) λa=>
 some (a.1,a.2.1,a.2.2):=ci
def k_:Do CO:=[aoH,arE,arF,aoK]
def at1:Nat×PV:=(11,.k (.ow 900))
def aqg:Nat×PV:=(15,.k (.ow 902))
def at2:Nat×PV:=(16,.k (.ow 903))
def at3:Nat×PV:=(55,.k (.ow 901))
def asw:Nat×PO:=(902,.arr 69 j2 true)
def ZL:PS:=bg [aet,at1,ap5,M2,aqg,at2,(17,.h j1),atg,atv,at3,(56,.h j1),(57,.h j1)] [i8,m4,asw,aoh]
def ZM:Do (IR×PS):=[(.normal,bg [aet,at1,ap5,M2,aqg,at2,atg,atv,at3,(56,.h j1),(57,.h j1)] [i8,m4,asw,aoh])]
def ZN:Pl:=.z
def Oq:Nat->Nat->Int×Int×Int×Int×Int×Int×Int×aX×aX×aX×aX->At (Int×Int×Int×Int×Int×Int×aX×aX×aX×aX):=jnF k_ f153 [1,1,1,1,1,1,1,1,0,1,0,0,1,1,0,0,1,1,0] ZL ZM ZN
def ZO:PS:=bg [aet,at1,ap5,M2,aqg,at2,at3,(56,.h j1),(57,.h j1)] [i8,m4,asw,aoh]
def ZP:Do (IR×PS):=[((.exit 0),bg [aet,M2,atz,(16,.k (.ow 901))] [i8,m4])]
def ZQ:Pl:=(.n .z (.n .z (.n (.n (.n .z (.n .z (.n (.join ZL ZM ZN) .z))) .z) .z)))
def Hl:Nat->Nat->Int×Int×Int×Int×aX×aX×aX×aX->At (Int×Int×aX×aX):=fx k_ f153 [1,1,1,1,1,1,1,1,0,1,0,0] ZO ZP ZQ
def t8:Do PV:=[.h j1,.h j1,.h j1,.h j1,.h iw]
def wD:FD:=cL 153 f153 (.n .z (.n .z (.n .z (.n .z (.n .z (.n .z (.n .z (.n .z (.n (.n .z (.n (.loop ZO ZP ZQ) .z)) .z))))))))) [.h j8,.ag t8] [] (bg [lm,anj,wl,z3] [i8,m4]) true true [900,901]
def ag8:Nat->aX×Int×Int×Int×Int×A1->At (Int×Int×aX×aX):=mF k_ wD
def arH:CO:=cF k_ wD ag8 func153
def ac1 N m n f i b j g h d a c e:Oq N (m+1) (n,f,i,b,j,g,h,d,a,c,e)=cond ((wZ (i+1))<(length a:Int))
 (aW (aZ a (wZ (i+1))) λl=>
 aW (aZ a (wZ (i+1))) λk=>
 some (n,f,b,k,g,h,d,a,c,e))
 (some (n,f,b,j,g,h,d,a,c,e)):=ci
def Mf N m n g h b e c d f:Hl N (m+1) (n,g,h,b,e,c,d,f)=cond (b<h)
 (aW (aZ c b) λo=>
 aW (aZ c b) λi=>
 aW (Oq N N (n,g,b,i,(length e:Int),h,b,e,c,d,f)) λa=>
 aW (aZ a.2.2.2.2.2.2.1 a.2.2.1) λp=>
 aW (aZ a.2.2.2.2.2.2.1 a.2.2.1) λj=>
 aW (eG 4 a.2.2.2.2.2.2.2.2.1 [j]) λk=>
 aW (eG 8 a.2.2.2.2.2.2.2.2.2 [(wZ (a.2.2.2.1 - a.2.2.1))]) λl=>
 (Hl N m (a.1,a.2.1,a.2.2.2.2.1,(wZ (a.2.2.2.2.2.1+1)),a.2.2.2.2.2.2.1,a.2.2.2.2.2.2.2.1,k,l)))
 (some (n,g,d,f)):=ci
def SL N c w d e f g:ag8 (N+1) (c,w,d,e,f,g)=aW (Jf N (c,w,d,e,f,g)) λb=>
 cond (!(b.2.1=0))
  (some (0,b.2.1,[],[]))
  (aW (ZC N (c,b.2.2)) λh=>
  aW (ZG N h.2) λi=>
  aW (Oo N (i,d,e,f,g)) λa=>
  cond (!(a.2.1=0))
   (some (0,a.2.1,[],[]))
   (aW (Hl N N (b.1,a.1,(length a.2.2:Int),0,h.2,a.2.2,[],[])) λz5=>
   some ((wZ (z5.1+z5.2.1)),0,z5.2.2.1,z5.2.2.2))):=ci
def Cu:Do CO:=[arH]
def Cv:FD:=cL 80 f80 .z [.h j8,.ag t8] [] (bg [lm,to,wl] [i8]) true true [900]
def Ey:Nat->aX×Int×Int×Int×Int×A1->At A7:=mF Cu Cv
def aoL:CO:=cF Cu Cv Ey func80
def Mg N b w c d e f:Ey (N+1) (b,w,c,d,e,f)=aW (ag8 N (b,w,c,d,e,f)) λa=>
 some (a.1,a.2.1,a.2.2.1):=ci
def Cw:Do CO:=[]
def Cx:FD:=cL 81 f81 .z [.h j2] [] (bg [i9] [(900,.box 52 PP)]) false true []
def Ot:Nat->Int->KQ:=mF Cw Cx
def aoM:CO:=cF Cw Cx Ot func81
def ac2 N a:Ot (N+1) a=some ((wZ (Int.fdiv a ((2:Int)^(min (Int.toNat 16) 32)))),(wZ (wrap .u16 a))):=ci
def l4:Do CO:=[aov,aoL,aoM]
def ZR:PS:=bg [ap2,M2,aty,(48,.k (.ow 900)),(49,.h j1),(50,.h j1)] [(901,.arr 52 j5 true),i8]
def ZS:Do (IR×PS):=[((.exit 2),bg [ap2,M2,atz] [m5])]
def ZT:Pl:=.z
def Hn:Nat->Nat->Int×Int×Int×Int×A1×aX->At (Int×Int×A1):=fx l4 f29 [1,1,1,1,1,0,1,0,0] ZR ZS ZT
def ZU:PS:=bg [Or,am9,(18,.h iw),atv,(20,.h j1)] [(900,.box 27 t8),SW]
def ZV:Do (IR×PS):=[((.exit 0),bg [Or,am9] [(900,.box 27 t8),SW]),(.ret,bg [(4,.k .nil),to,wl] [])]
def ZW:Pl:=.z
def Cy:Nat->Nat->A1×Int×Int×Int×Int×Int×Int×A1×aX->At ((Int×Int×Int×Int×A1×aX)⊕(Int×Int)):=fx l4 f29 [1,1,0,1,0,0] ZU ZV ZW
def y_:FD:=cL 29 f29 (.n .z (.n .z (.n (.n .z (.n (.loop ZU ZV ZW) .z)) (.n .z (.n .z (.n (.n .z (.n (.loop ZR ZS ZT) .z)) .z)))))) [.h iw,.ag t8] [] (bg [lm,to,wl] [m5]) true true [900]
def FZ:Nat->A1×Int×Int×Int×Int×A1->At (Int×Int×A1):=mF l4 y_
def arI:CO:=cF l4 y_ FZ func29
def Mh N m n e d a c b:Hn N (m+1) (n,e,d,a,c,b)=cond (a<d)
 (aW (aZ b a) λi=>
 aW (aZ b a) λg=>
 aW (Ot N g) λf=>
 aW (eG 16 c [(f.1,f.2)]) λh=>
 (Hn N m (n,e,d,(wZ (a+1)),h,b)))
 (some (n,e,c)):=ci
def Mi N m c d a w e f g h b:Cy N (m+1) (c,d,a,w,e,f,g,h,b)=cond (a<d)
 (aW (aZ c a) λi=>
 aW (N9 N (i.1,i.2)) λj=>
 cond (!j.2)
  (some (.inr (0,10)))
  (cond (!(i.1=i.2))
   (aW (eG 4 b [j.1]) λk=>
   (Cy N m (c,d,(wZ (a+1)),w,e,f,g,h,k)))
   ((Cy N m (c,d,(wZ (a+1)),w,e,f,g,h,b)))))
 (some (.inl (w,e,f,g,h,b))):=ci
def ag9 N l w d e f g:FZ (N+1) (l,w,d,e,f,g)=aW (Cy N N (l,(length l:Int),0,w,d,e,f,g,[])) λi=>
 (match i with
 |.inl a=>aW (Ey N (a.2.2.2.2.2,a.1,a.2.1,a.2.2.1,a.2.2.2.1,a.2.2.2.2.1)) λb=>
  aW (Hn N N (b.1,b.2.1,(length b.2.2:Int),0,[],b.2.2)) λc=>
  some (c.1,c.2.1,c.2.2)
 |.inr h=>some (h.1,h.2,[])):=ci
def qM:Do CO:=[yR]
def ZX:PS:=bg [up,(10,.h kB),WF,(12,.h j1)] [m5]
def ZY:Do (IR×PS):=[((.exit 0),bg [up] [m5])]
def ZZ:Pl:=.z
def Ho:Nat->Nat->gD×Int×Int×A1->At (A1):=fx qM f25 [1,1,1,0,1,0,0] ZX ZY ZZ
def za:FD:=cL 25 f25 (.n .z (.n .z (.n .z (.n (.n .z (.n (.loop ZX ZY ZZ) .z)) .z)))) [.ag i6] [] (bg [m2] [m5]) true true [900]
def Jk:Nat->Int×gD->At (A1):=mF qM za
def Z0:CO:=cF qM za Jk func25
def Mj N m b c a l:Ho N (m+1) (b,c,a,l)=cond (a<c)
 (aW (aZ b a) λd=>
 aW (eG 16 l [(d.1,d.2.1)]) λe=>
 (Ho N m (b,c,(wZ (a+1)),e)))
 (some l):=ci
def ag_ N g a:Jk (N+1) (g,a)=aW (pw N (g,a)) λb=>
 cond (!b)
  (some [])
  (aW (Ho N N (a,(length a:Int),0,[])) λc=>
  some c):=ci
def py:Do CO:=[]
def alt:Do PV:=[.k (.mp 4294967297)]
def jp:Do (Nat×PO):=[(4294967296,.box 245 alt),(4294967297,.mp (.tuple ⟨[]⟩) j5 j1)]
def pz:FD:=cL 161 f161 .z [.ag PP,.k (.pt 4294967296 0)] jp (bg [apa] [(4294967297,.mp (.tuple ⟨[]⟩) j5 j1),(4294967296,.box 245 alt)]) true true [4294967297,4294967296]
def SM:Nat->Int×Int×A5->At (In×A5):=mF py pz
def amY:CO:=cF py pz SM func161
def aha N x a h:SM (N+1) (x,a,h)=some ((decide ((Option.getD (bN j5 h (x,a)) 0)=0)),h):=ci
def bY:Do CO:=[amY]
def ahb:PS:=bg [(0,.h iw),(1,.cl (.func 161) [] li),z3,ut] jp
def ahc:Do (IR×PS):=[((.exit 0),bg [] jp),(.ret,bg [ls] jp)]
def ahd:Pl:=.z
def Ou:Nat->Nat->A1×Int×Int×A5->At ((A5)⊕(Int×A5)):=fx bY f179 [1,0,1,0,0] ahb ahc ahd
def dt:FD:=cL 179 f179 (.n .z (.n (.n .z (.n (.loop ahb ahc ahd) .z)) .z)) [.h iw,.cl (.func 161) [] li] jp (bg [ls] jp) true true [4294967296,4294967297]
def aoN:Nat->A1×A5->At (Int×A5):=mF bY dt
def aum:CO:=cF bY dt aoN func179
def SN N m s c a b:Ou N (m+1) (s,c,a,b)=cond (a<c)
 (aW (aZ s a) λe=>
 aW (SM N (e.1,e.2,b)) λd=>
 cond d.1
  (some (.inr (a,d.2)))
  ((Ou N m (s,c,(wZ (a+1)),d.2))))
 (some (.inl b)):=ci
def ak_ N s h:aoN (N+1) (s,h)=aW (Ou N N (s,(length s:Int),0,h)) λb=>
 (match b with
 |.inl c=>some ((-1),c)
 |.inr a=>some (a.1,a.2)):=ci
def bU:Do CO:=[aum,amY]
def ass:Nat×PO:=(4294967297,.box 245 [.k (.mp 4294967298)])
def m7:Do (Nat×PO):=[(4294967296,.arr 52 j5 true),ass,(4294967298,.mp (.tuple ⟨[]⟩) j5 j1)]
def ahe:PS:=bg [acl,(1,.cl (.func 161) [] [.k (.pt 4294967297 0)]),to,wl] m7
def ahf:Do (IR×PS):=[((.exit 0),bg [acl,to] m7)]
def ahg:Pl:=.z
def Jl:Nat->Nat->Int×Int×A1×A5->At (Int×A1×A5):=fx bU f160 [1,1,1,0,1,0,0] ahe ahf ahg
def cZ:FD:=cL 160 f160 (.n .z (.n .z (.n .z (.n (.n .z (.n (.loop ahe ahf ahg) .z)) .z)))) [.k (.ow 4294967296),.cl (.func 161) [] [.k (.pt 4294967297 0)]] m7 (bg [lm] [m5,(4294967298,.mp (.tuple ⟨[]⟩) j5 j1),ass]) true true [900,4294967298,4294967297]
def ala:Nat->A1×A5->At (A1×A5):=mF bU cZ
def aun:CO:=cF bU cZ ala func160
def ahh N m i j s b:Jl N (m+1) (i,j,s,b)=cond (j<(length s:Int))
 (aW (aZ s j) λd=>
 aW (aZ s j) λa=>
 aW (SM N (a.1,a.2,b)) λc=>
 cond (!c.1)
  (aW (aZ s i) λe=>
  aW (aZ s i) λf=>
  (Jl N m ((wZ (i+1)),(wZ (j+1)),(List.set s (Int.toNat i) (a.1,a.2)),c.2)))
  ((Jl N m (i,(wZ (j+1)),s,c.2))))
 (some (i,s,b)):=ci
def alb N s h:ala (N+1) (s,h)=aW (aoN N (s,h)) λb=>
 cond (b.1=(-1))
  (some (s,b.2))
  (aW (Jl N N (b.1,(wZ (b.1+1)),s,b.2)) λa=>
  cond (((true && true) && true) && (!(oh a.2.1)))
   (aW (kj a.2.1 a.1 (length a.2.1:Int)) λe=>
   aW (ab0 a.2.1 a.1 ((length a.2.1:Int) - a.1) (0,0)) λc=>
   aW (kj c 0 a.1) λd=>
   some (d,a.2.2))
   none):=ci
def s0:Do CO:=[yR,Z0,aun]
def aug:Nat×PO:=(901,.box 245 [.k (.mp 902)])
def SO:PS:=bg [i9,WP,(13,.h iw),M2,atr] [n8,aug,(902,.mp (.tuple ⟨[]⟩) j5 j1)]
def SQ:Do (IR×PS):=[((.exit 0),bg [i9,WP] [n8,aug,(902,.mp (.tuple ⟨[]⟩) j5 j1)]),(.ret,bg [(4,.k .nil),to] [])]
def SU:Pl:=.z
def Cz:Nat->Nat->A1×Int×Int×Int×gD×A5->At ((Int×gD×A5)⊕(Int)):=fx s0 f89 [1,1,1,0,1,0,0] SO SQ SU
def ati:Do PV:=[.ag i6,.h iw]
def CA:FD:=cL 89 f89 (.n .z (.n .z (.n .z (.n (.n .z (.n (.loop SO SQ SU) .z)) .z)))) ati [] (bg [lm,to] [m5]) true true [900]
def Ez:Nat->Int×gD×A1->At (Int×A1):=mF s0 CA
def ahi:CO:=cF s0 CA Ez func89
def Jm N m e f c g d b:Cz N (m+1) (e,f,c,g,d,b)=cond (c<f)
 (aW (aZ e c) λa=>
 cond ((if(a.2<a.1)then a.2 else a.1)<0)
  (some (.inr 10))
  (cond (g<=(if(a.2>a.1)then a.2 else a.1))
   (some (.inr 10))
   (aW (Vp (d_ j5 b ((if(a.2<a.1)then a.2 else a.1),(if(a.2>a.1)then a.2 else a.1)) (Option.getD (bN j5 b ((if(a.2<a.1)then a.2 else a.1),(if(a.2>a.1)then a.2 else a.1))) 0)) (((NH j5 b ((if(a.2<a.1)then a.2 else a.1),(if(a.2>a.1)then a.2 else a.1))):Nat):Int) (wZ ((Option.getD (bN j5 b ((if(a.2<a.1)then a.2 else a.1),(if(a.2>a.1)then a.2 else a.1))) 0)+1))) λh=>
   (Cz N m (e,f,(wZ (c+1)),g,d,h)))))
 (some (.inl (g,d,b))):=ci
def ac3 N g a l:Ez (N+1) (g,a,l)=aW (pw N (g,a)) λc=>
 cond (!c)
  (some (1,[]))
  (aW (Cz N N (l,(length l:Int),0,g,a,[])) λd=>
  (match d with
  |.inl b=>aW (Jk N (b.1,b.2.1)) λe=>
   aW (ala N (e,b.2.2)) λf=>
   some (0,f.1)
  |.inr h=>some (h,[]))):=ci
def s_:Do CO:=[yR,Z0,⟨dT,fw⟩]
def auh:Nat×PV:=(6,.k (.mp 901))
def ams:Nat×PO:=(902,.arr 52 j5 true)
def SX:PS:=bg [i9,auh,(9,.k (.ow 902)),(26,.h iw),(27,.h j1),(28,.h j1)] [n8,(901,.mp (.tuple ⟨[]⟩) j5 j1),ams]
def SY:Do (IR×PS):=[((.exit 2),bg [aic] [m5]),(.ret,bg [(4,.k .nil),to] [])]
def SZ:Pl:=.z
def rE:Nat->Nat->A1×Int×Int×Int×gD×A5×A1->At ((A1)⊕(Int)):=fx s_ f82 [1,1,1,1,1,0,1,0,0] SX SY SZ
def S0:PS:=bg [(1,.h iw),i9,auh,(17,.k (.ow 902)),atg,atv] [n8,(901,.mp (.tuple ⟨[]⟩) j5 j1),ams]
def S2:Do (IR×PS):=[((.exit 0),bg [(1,.h iw),i9,auh] [n8,(901,.mp (.tuple ⟨[]⟩) j5 j1)])]
def S3:Pl:=.z
def CB:Nat->Nat->A1×Int×Int×Int×gD×A5×A1->At (A1×Int×gD×A5):=fx s_ f82 [1,1,1,0,1,0,0] S0 S2 S3
def Jn:FD:=cL 82 f82 (.n .z (.n .z (.n .z (.n (.n .z (.n (.loop S0 S2 S3) .z)) (.n .z (.n (.n .z (.n (.loop SX SY SZ) .z)) .z)))))) ati [] (bg [lm,to] [m5]) true true [900]
def EA:Nat->Int×gD×A1->At (Int×A1):=mF s_ Jn
def ahj:CO:=cF s_ Jn EA func82
def Jo N m e f b g h d c:rE N (m+1) (e,f,b,g,h,d,c)=cond (b<f)
 (aW (aZ e b) λa=>
 cond ((if(a.2<a.1)then a.2 else a.1)<0)
  (some (.inr 10))
  (cond (g<=(if(a.2>a.1)then a.2 else a.1))
   (some (.inr 10))
   (cond ((if(a.2<a.1)then a.2 else a.1)<(if(a.2>a.1)then a.2 else a.1))
    (cond ((Option.getD (bN j5 d ((if(a.2<a.1)then a.2 else a.1),(if(a.2>a.1)then a.2 else a.1))) 0)=0)
     (aW (eG 16 c [((if(a.2<a.1)then a.2 else a.1),(if(a.2>a.1)then a.2 else a.1))]) λi=>
     (rE N m (e,f,(wZ (b+1)),g,h,(d_ j5 d ((if(a.2<a.1)then a.2 else a.1),(if(a.2>a.1)then a.2 else a.1)) 1),i)))
     ((rE N m (e,f,(wZ (b+1)),g,h,d,c))))
    ((rE N m (e,f,(wZ (b+1)),g,h,d,c))))))
 (some (.inl c)):=ci
def Jp N m l e a g c d b:CB N (m+1) (l,e,a,g,c,d,b)=cond (a<e)
 (aW (aZ b a) λh=>
 aW (aZ b a) λf=>
 (CB N m (l,e,(wZ (a+1)),g,c,(d_ j5 d (f.1,f.2) 1),b)))
 (some (l,g,c,d)):=ci
def ac4 N g b l:EA (N+1) (g,b,l)=aW (pw N (g,b)) λd=>
 cond (!d)
  (some (1,[]))
  (aW (Jk N (g,b)) λc=>
  aW (CB N N (l,(length c:Int),0,g,b,[],c)) λa=>
  aW (rE N N (a.1,(length a.1:Int),0,a.2.1,a.2.2.1,a.2.2.2,[])) λe=>
  (match e with
  |.inl h=>aW (cC N h) λf=>
   some (0,f)
  |.inr i=>some (i,[]))):=ci
def CC:Do CO:=[yR]
def CD:FD:=cL 96 f96 .z [.ag i6] [] (bg [z0] []) false true []
def Ov:Nat->Int×gD->fi:=mF CC CD
def aoO:CO:=cF CC CD Ov func96
def ac5 N g a:Ov (N+1) (g,a)=aW (pw N (g,a)) λb=>
 cond (!b)
  (some 0)
  (some (wZ (400 - (length a:Int)))):=ci
def zb:Do CO:=[yR,aot,arf,arj,arI,ahi,ahj,aoO]
def zc:FD:=cL 33 f33 .z [.ag i6,.ag LT,.ag t8] [] (bg [Pi,z3,ut] [anz]) false false []
def uo:Nat->Int×gD×Int×A1×(Do A4)×Int×Int×Int×Int×A1->At (Int×Int×Int×A1×(Do A4)):=mF zb zc
def arJ:CO:=cF zb zc uo func33
def S4 N g e x c d w h i j k:uo (N+1) (g,e,x,c,d,w,h,i,j,k)=aW (pw N (g,e)) λm=>
 cond (!m)
  (some (0,1,0,[],[]))
  (aW (N8 N (x,c,d)) λn=>
  cond (!n)
   (some (0,1,0,[],[]))
   (aW (Y0 N (x,c,d)) λo=>
   aW (Y4 N (o,g,e)) λa=>
   cond a.1
    (some (0,10,0,[],[]))
    (cond (x=3)
     (some (0,0,x,[],d))
     (aW (FZ N (c,w,h,i,j,k)) λb=>
     cond (!(b.2.1=0))
      (some (0,b.2.1,0,[],[]))
      (cond (x=2)
       (aW (Ez N (a.2.1,a.2.2,b.2.2)) λl=>
       some (b.1,l.1,x,l.2,[]))
       (aW (EA N (a.2.1,a.2.2,b.2.2)) λf=>
       aW (Ov N (a.2.1,a.2.2)) λp=>
       cond (p<(length f.2:Int))
        (some (0,2,0,[],[]))
        (some (b.1,f.1,x,f.2,[])))))))):=ci
def F0:Do CO:=[]
def F1:FD:=cL 83 f83 .z [.ag i6,.h j1] [] (bg n7 []) false true []
def V5:Nat->Int×gD×Int->eu:=mF F0 F1
def aoP:CO:=cF F0 F1 V5 func83
def ac6 N g a more:V5 (N+1) (g,a,more)=some (decide ((wZ ((length a:Int)+more))<=400)):=ci
def wF:Do CO:=[yR,amQ,agk]
def wG:FD:=cL 22 f22 .z [.ag i6,.h j1] [] (bg [s1,to] [m6]) false false []
def Jq:Nat->Int×gD×Int->At A12:=mF wF wG
def Z1:CO:=cF wF wG Jq func22
def ahk N g a c:Jq (N+1) (g,a,c)=aW (pw N (g,a)) λd=>
 cond (!d)
  (some (1,0,[]))
  (aW (Rc N (g,a,c)) λe=>
  aW (IW N (g,e)) λb=>
  some (b.1,b.2.1,b.2.2)):=ci
def ta:Do CO:=[]
def S5:PS:=bg [(0,.h j1),(13,.h iw),M2,atr] []
def S6:Do (IR×PS):=[((.exit 0),bg [] []),(.ret,bg [ls] [])]
def S7:Pl:=.z
def CE:Nat->Nat->Int×A1×Int×Int->At ((Unit)⊕(Int)):=fx ta f71 [1,1,0,1,0,0] S5 S6 S7
def CF:FD:=cL 71 f71 (.n .z (.n .z (.n (.n .z (.n (.loop S5 S6 S7) .z)) .z))) [.h j1,.h iw] [] (bg [ls] []) false true []
def Jr:Nat->Int×A1->fi:=mF ta CF
def ahl:CO:=cF ta CF Jr func71
def V6 N m n c d b:CE N (m+1) (n,c,d,b)=cond (b<d)
 (aW (aZ c b) λa=>
 cond ((if(a.2<a.1)then a.2 else a.1)<0)
  (some (.inr 10))
  (cond (n<=(if(a.2>a.1)then a.2 else a.1))
   (some (.inr 10))
   ((CE N m (n,c,d,(wZ (b+1)))))))
 (some (.inl ())):=ci
def ac7 N n l:Jr (N+1) (n,l)=cond (n<1)
 (some 1)
 (cond (64<n)
  (some 1)
  (aW (CE N N (n,l,(length l:Int),0)) λa=>
  (match a with
  |.inl c=>some 0
  |.inr b=>some b))):=ci
def Ml:Do CO:=[NY,N1,agd]
def Mm:FD:=cL 70 f70 .z ath [] (bg [ls] []) false true []
def wH:Nat->Int×A3×Int->fi:=mF Ml Mm
def Ow:CO:=cF Ml Mm wH func70
def ac8 N f a v:wH (N+1) (f,a,v)=aW (qG N (f,v)) λb=>
 cond (!b)
  (some (-1))
  (aW (vZ N (f,a)) λc=>
  cond (!c)
   (some (-1))
   (aW (Eo N (f,a,v)) λd=>
   some d)):=ci
def wI:Do CO:=[Ru,Ow]
def wJ:FD:=cL 197 f197 .z ath [] (bg [ls,to] []) false true []
def S8:Nat->Int×A3×Int->KQ:=mF wI wJ
def arK:CO:=cF wI wJ S8 func197
def ahm N f a v:S8 (N+1) (f,a,v)=aW (Fy N (f,a,[v])) λb=>
 cond (!(b=0))
  (some (0,b))
  (aW (wH N (f,a,v)) λc=>
  aW (aZ a c) λd=>
  aW (aZ d 0) λe=>
  some (e,0)):=ci
def mX:Do CO:=[N1,ahl,arK]
def Z2:PS:=bg [i9,am9,(24,.h iw),(25,.h j1),atq] [m6,(901,.arr 52 j5 true)]
def aui:Nat×PV:=(7,.k (.ow 900))
def Z3:Do (IR×PS):=[((.exit 0),bg [aui] [m5])]
def Z4:Pl:=.z
def Hq:Nat->Nat->A1×Int×Int×Int×A3×A1->At (A1):=fx mX f155 [1,1,1,1,0,1,0,0] Z2 Z3 Z4
def uq:FD:=cL 155 f155 (.n .z (.n .z (.n .z (.n .z (.n (.n .z (.n (.loop Z2 Z3 Z4) .z)) .z))))) [.ag io,.h iw] [] (bg [lm,to] [m5]) true true [900]
def Z5:Nat->Int×A3×A1->At (Int×A1):=mF mX uq
def arL:CO:=cF mX uq Z5 func155
def ac9 N m d e b f a c:Hq N (m+1) (d,e,b,f,a,c)=cond (b<e)
 (aW (aZ d b) λg=>
 aW (S8 N (f,a,g.1)) λh=>
 aW (S8 N (f,a,g.2)) λi=>
 aW (eG 16 c [(h.1,i.1)]) λj=>
 (Hq N m (d,e,(wZ (b+1)),f,a,j)))
 (some c):=ci
def ahn N f a l:Z5 (N+1) (f,a,l)=aW (vZ N (f,a)) λc=>
 cond (!c)
  (some (1,[]))
  (aW (Jr N (f,l)) λb=>
  cond (!(b=0))
   (some (b,[]))
   (aW (Hq N N (l,(length l:Int),0,f,a,[])) λd=>
   some (0,d))):=ci
def te:Do CO:=[]
def S9:PS:=bg [up,ut,aet] [gc]
def S_:Do (IR×PS):=[((.exit 0),bg [up] [gc])]
def Ta:Pl:=.z
def CG:Nat->Nat->Int×Int×aX->mf:=fx te f72 [1,1,0,1,0,0] S9 S_ Ta
def CH:FD:=cL 72 f72 (.n .z (.n .z (.n (.n .z (.n (.loop S9 S_ Ta) .z)) .z))) amy [] (bg [m2] [gc]) true true [900]
def Js:Nat->Int->mf:=mF te CH
def aho:CO:=cF te CH Js func72
def V7 N m b a s:CG N (m+1) (b,a,s)=cond (a<b)
 (aW (aZ s a) λc=>
 aW (aZ s a) λd=>
 (CG N m (b,(wZ (a+1)),(List.set s (Int.toNat a) a))))
 (some s):=ci
def ac_ N n:Js (N+1) n=aW (vh n (8:Nat)) λa=>
 aW (CG N N ((length (replicate a (0:Int)):Int),(0:Int),(replicate a (0:Int)))) λb=>
 some b:=ci
def jc:Do CO:=[]
def ld:Nat×PO:=(4294967296,.arr 3 j1 true)
def Z6:PS:=bg [acl,aeg] [ld]
def Z7:Do (IR×PS):=[((.exit 0),bg [aeg] [ld])]
def Z8:Pl:=.z
def Hr:Nat->Nat->Int×aX->At A6:=fx jc f74 [1,0,0,0] Z6 Z7 Z8
def mw:FD:=cL 74 f74 (.n .z (.n (.n (.loop Z6 Z7 Z8) .z) .z)) [.k (.ow 4294967296),.h j1] [ld] (bg [ls] [ld]) true true [4294967296]
def Mn:Nat->Int×aX->At A6:=mF jc mw
def amZ:CO:=cF jc mw Mn func74
def ada N m v s:Hr N (m+1) (v,s)=aW (aZ s v) λe=>
 aW (aZ s v) λd=>
 cond (!(d=v))
  (aW (aZ s v) λf=>
  aW (aZ s v) λb=>
  aW (aZ s b) λg=>
  aW (aZ s b) λa=>
  aW (aZ s v) λh=>
  aW (aZ s v) λi=>
  aW (aZ (List.set s (Int.toNat v) a) v) λj=>
  aW (aZ (List.set s (Int.toNat v) a) v) λc=>
  (Hr N m (c,(List.set s (Int.toNat v) a))))
  (some (v,s)):=ci
def ahp N v s:Mn (N+1) (v,s)=aW (Hr N N (v,s)) λa=>
 some (a.1,a.2):=ci
def nk:Do CO:=[amZ]
def nq:FD:=cL 146 f146 .z [.k (.ow 4294967296),.h j1,.h j1] [ld] (bg [ap3] [ld]) true true [4294967296]
def Z9:Nat->Int×Int×aX->At A9:=mF nk nq
def arM:CO:=cF nk nq Z9 func146
def ahq N u v s:Z9 (N+1) (u,v,s)=aW (Mn N (u,s)) λb=>
 aW (Mn N (v,b.2)) λa=>
 aW (aZ a.2 (if(a.1>b.1)then a.1 else b.1)) λc=>
 aW (aZ a.2 (if(a.1>b.1)then a.1 else b.1)) λd=>
 some ((!(b.1=a.1)),(List.set a.2 (Int.toNat (if(a.1>b.1)then a.1 else b.1)) (if(a.1<b.1)then a.1 else b.1))):=ci
def eS:Do CO:=[arM]
def Z_:PS:=bg [(1,.cl (.func 146) [.k (.ow 4294967296)] []),m8,(8,.h iw),aet,z9] [ld,LE]
def aaa:Do (IR×PS):=[((.exit 0),bg [m8] [LE,ld])]
def aab:Pl:=.z
def Hs:Nat->Nat->A1×Int×Int×aX×bw->At (bw×aX):=fx eS f145 [1,1,0,1,0,0] Z_ aaa aab
def fX:FD:=cL 145 f145 (.n .z (.n .z (.n (.n .z (.n (.loop Z_ aaa aab) .z)) .z))) [.h iw,.cl (.func 146) [.k (.ow 4294967296)] []] [ld] (bg [lm] [LE,ld]) true true [900,4294967296]
def ahr:Nat->A1×aX->At (bw×aX):=mF eS fX
def arN:CO:=cF eS fX ahr func145
def adb N m d e a b c:Hs N (m+1) (d,e,a,b,c)=cond (a<e)
 (aW (aZ d a) λf=>
 aW (Z9 N (f.1,f.2,b)) λg=>
 aW (eG 1 c [g.1]) λh=>
 (Hs N m (d,e,(wZ (a+1)),g.2,h)))
 (some (c,b)):=ci
def ahs N l a:ahr (N+1) (l,a)=aW (Hs N N (l,(length l:Int),0,a,[])) λb=>
 some (b.1,b.2):=ci
def my:Do CO:=[arN]
def mz:FD:=cL 73 f73 .z [.k (.ow 4294967296),.h iw] [ld] (bg [lm] [LE,ld]) true true [900,4294967296]
def Tb:Nat->A1×aX->At (bw×aX):=mF my mz
def am0:CO:=cF my mz Tb func73
def aht N l s:Tb (N+1) (l,s)=aW (ahr N (l,s)) λa=>
 some (a.1,a.2):=ci
def zd:Do CO:=[arL,aho,am0]
def zf:FD:=cL 84 f84 .z [.ag io,.h iw] [] (bg [lm,to] [LE]) true true [900]
def Ox:Nat->Int×A3×A1->At (Int×bw):=mF zd zf
def aoQ:CO:=cF zd zf Ox func84
def ade N f b l:Ox (N+1) (f,b,l)=aW (Z5 N (f,b,l)) λa=>
 cond (!(a.1=0))
  (some (a.1,[]))
  (aW (Js N f) λc=>
  aW (Tb N (a.2,c)) λd=>
  some (0,d.1)):=ci
def gN:Do CO:=[]
def ak6:Do (Nat×PO):=[(900,.arr 134 uc true)]
def gO:FD:=cL 85 f85 .z [.h kB] [] (bg [m2] ak6) true true [900]
def aac:Nat->gD->At (gD):=mF gN gO
def arO:CO:=cF gN gO aac func85
def ahu N s:aac (N+1) s=cond (sG s)
 (dem λc=>
 cond c
  (some [])
  (aW (eG 32 [] s) λa=>
  some a))
 (aW (eG 32 [] s) λb=>
 some b):=ci
def Aa:Do CO:=[ahj,aoP,Z1,aoQ,arO,⟨eA,fO⟩]
def aux:Nat×PO:=(901,.box 32 ul)
def Tc:PS:=bg [i9,aec,aj1,(11,.k (.ow 903)),(13,.k (.ow 904)),(46,.k (.ow 902)),(47,.h j1),(48,.h j1)] [n8,aux,ams,(903,.arr 4 .b true),(904,.arr 134 uc true)]
def Td:Do (IR×PS):=[((.exit 0),bg [i9,aec,aj1,(13,.k (.ow 903))] [n8,aux,ams,(903,.arr 134 uc true)])]
def Te:Pl:=.z
def CI:Nat->Nat->Int×Int×Int×gD×Int×A1×bw×gD->At (Int×gD×Int×A1×gD):=fx Aa f30 [1,1,1,1,1,1,1,0,1,0,0] Tc Td Te
def Jt:FD:=cL 30 f30 (.n .z (.n .z (.n .z (.n .z (.n .z (.n .z (.n .z (.n (.n .z (.n (.loop Tc Td Te) .z)) .z)))))))) ati [] (bg [s1,to,wl] [n8]) false false []
def qN:Nat->Int×gD×A1->At (Int×Int×Int×gD):=mF Aa Jt
def aoR:CO:=cF Aa Jt qN func30
def Ju N m h a g d f b c e:CI N (m+1) (h,a,g,d,f,b,c,e)=cond (a<h)
 (aW (aZ b a) λl=>
 aW (aZ b a) λi=>
 aW (aZ c a) λn=>
 aW (aZ c a) λj=>
 aW (eG 32 e [(i.1,i.2,0,j)]) λk=>
 (CI N m (h,(wZ (a+1)),g,d,f,b,c,k)))
 (some (g,d,f,b,e)):=ci
def adf N g a l:qN (N+1) (g,a,l)=aW (EA N (g,a,l)) λb=>
 cond (!(b.1=0))
  (some (0,b.1,g,a))
  (aW (V5 N (g,a,(length b.2:Int))) λe=>
  cond (!e)
   (some (0,2,g,a))
   (aW (Jq N (g,a,0)) λd=>
   aW (Ox N (d.2.1,d.2.2,b.2)) λf=>
   aW (aac N a) λh=>
   aW (CI N N ((length b.2:Int),0,g,a,0,b.2,f.2,h)) λc=>
   aW (cW N c.2.2.2.2) λi=>
   some ((length c.2.2.2.1:Int),0,c.1,i))):=ci
def bQ:Do CO:=[amP]
def asz:Nat×PV:=(2,.k (.v (.func (.func 139) #[] #[])))
def ahv:PS:=bg [(0,.h kB),asz,s1,ut,aet,z9] [(900,.box 134 v5)]
def ahw:Do (IR×PS):=[((.exit 0),bg [(0,.h kB),asz,s1,ut,aet] [(900,.box 134 v5)])]
def ahx:Pl:=.z
def Jv:Nat->Nat->gD×Int×Int×Int×Int×Int×Int×In->At (gD×Int×Int×Int×Int×Int×In):=fx bQ f280 [1,1,1,0,0,0] ahv ahw ahx
def cM:FD:=cL 280 f280 (.n .z (.n .z (.n .z (.n (.n (.loop ahv ahw ahx) .z) .z)))) [.h kB,.ag v5,.k (.v (.func (.func 139) #[] #[]))] [] (bg [wl,asv] []) false true []
def alc:Nat->gD×Int×Int×Int×In->At (Int×In):=mF bQ cM
def auo:CO:=cF bQ cM alc func280
def Jw N m x n i j a b c d:Jv N (m+1) (x,n,i,j,a,b,c,d)=cond (i<j)
 (aW (aZ x (wZ (Int.fdiv (wrap .u64 (wZ (i+j))) ((2:Int)^(min (Int.toNat 1) 64))))) λe=>
 aW (IM N (e.1,e.2.1,e.2.2.1,e.2.2.2,a,b,c,d)) λf=>
 cond (f<0)
  ((Jv N m (x,n,(wZ ((wZ (Int.fdiv (wrap .u64 (wZ (i+j))) ((2:Int)^(min (Int.toNat 1) 64))))+1)),j,a,b,c,d)))
  ((Jv N m (x,n,i,(wZ (Int.fdiv (wrap .u64 (wZ (i+j))) ((2:Int)^(min (Int.toNat 1) 64)))),a,b,c,d))))
 (some (x,n,i,a,b,c,d)):=ci
def ald N x c d e f:alc (N+1) (x,c,d,e,f)=aW (Jv N N (x,(length x:Int),0,(length x:Int),c,d,e,f)) λa=>
 cond (a.2.2.1<a.2.1)
  (aW (aZ a.1 a.2.2.1) λb=>
  aW (IM N (b.1,b.2.1,b.2.2.1,b.2.2.2,a.2.2.2.1,a.2.2.2.2.1,a.2.2.2.2.2.1,a.2.2.2.2.2.2)) λg=>
  some (a.2.2.1,(decide (g=0))))
  (some (a.2.2.1,false)):=ci
def zg:Do CO:=[auo]
def an6:Do PV:=[.ag i6,.h j1,.h j1]
def zh:FD:=cL 255 f255 .z an6 [] (bg [wl,asv] []) false true []
def ahy:Nat->Int×gD×Int×Int->At (Int×In):=mF zg zh
def arP:CO:=cF zg zh ahy func255
def ahz N g a u v:ahy (N+1) (g,a,u,v)=aW (alc N (a,(if(v<u)then v else u),(if(v>u)then v else u),0,false)) λb=>
 some (b.1,b.2):=ci
def CJ:Do CO:=[yR,arP]
def CL:FD:=cL 209 f209 .z an6 [] (bg [wl] []) false true []
def Oy:Nat->Int×gD×Int×Int->fi:=mF CJ CL
def aoS:CO:=cF CJ CL Oy func209
def adg N g a u v:Oy (N+1) (g,a,u,v)=aW (pw N (g,a)) λc=>
 cond (!c)
  (some (-1))
  (aW (ahy N (g,a,u,v)) λb=>
  cond (!b.2)
   (some (-1))
   (some b.1)):=ci
def zi:Do CO:=[yR,aoS]
def zj:FD:=cL 162 f162 .z an6 [] (bg [wl,z3] []) false true []
def Jx:Nat->Int×gD×Int×Int->KQ:=mF zi zj
def am1:CO:=cF zi zj Jx func162
def Tf N g a u v:Jx (N+1) (g,a,u,v)=aW (pw N (g,a)) λc=>
 cond (!c)
  (some (0,1))
  (cond ((if(v<u)then v else u)<0)
   (some (0,10))
   (cond (g<=(if(v>u)then v else u))
    (some (0,10))
    (aW (Oy N (g,a,u,v)) λb=>
    cond (b<0)
     (some (0,6))
     (some (b,0))))):=ci
def dP:Do CO:=[⟨gX,kP⟩]
def aad:PS:=bg [nl,(25,.h j22),atq,(27,.h j1)] ak6
def aae:Do (IR×PS):=[((.exit 2),bg [nl] ak6)]
def aaf:Pl:=.z
def Ht:Nat->Nat->(Do gD)×Int×Int×gD->At (gD):=fx dP f163 [1,1,1,1,0,1,0,0] aad aae aaf
def aag:PS:=bg [(0,.h j22),NE,(9,.h j22),z9,WF] []
def aah:Do (IR×PS):=[((.exit 0),bg [(0,.h j22),NE] [])]
def aai:Pl:=.z
def Hu:Nat->Nat->(Do gD)×Int×(Do gD)×Int×Int->At ((Do gD)×Int):=fx dP f163 [1,1,0,1,0,0] aag aah aai
def gv:FD:=cL 163 f163 (.n .z (.n .z (.n (.n .z (.n (.loop aag aah aai) .z)) (.n .z (.n (.n .z (.n (.loop aad aae aaf) .z)) .z))))) [.h j22] [] (bg [m2] ak6) true true [900]
def aaj:Nat->(Do gD)->At (gD):=mF dP gv
def arQ:CO:=cF dP gv aaj func163
def EB N m c d a b:Ht N (m+1) (c,d,a,b)=cond (a<d)
 (aW (aZ c a) λe=>
 aW (eG 32 b e) λf=>
 (Ht N m (c,d,(wZ (a+1)),f)))
 (some b):=ci
def EC N m c a e d b:Hu N (m+1) (c,a,e,d,b)=cond (b<d)
 (aW (aZ e b) λf=>
 cond ((wZ (a+(length f:Int)))<0)
  none
  ((Hu N m (c,(wZ (a+(length f:Int))),e,d,(wZ (b+1))))))
 (some (c,a)):=ci
def ahA N a:aaj (N+1) a=aW (Hu N N (a,0,a,(length a:Int),0)) λb=>
 aW (fc N b.2) λd=>
 aW (Ht N N (b.1,(length b.1:Int),0,[])) λc=>
 some c:=ci
def kG:Do CO:=[]
def kH:FD:=cL 128 f128 .z atl [] (bg [m2] [gc]) true true [900]
def aak:Nat->aX->mf:=mF kG kH
def arR:CO:=cF kG kH aak func128
def ahB N s:aak (N+1) s=cond (sG s)
 (dem λc=>
 cond c
  (some [])
  (aW (eG 8 [] s) λa=>
  some a))
 (aW (eG 8 [] s) λb=>
 some b):=ci
def mA:Do CO:=[]
def mB:FD:=cL 282 f282 .z [.h j1,.fp io] [] (bg [apa] []) false true []
def Tg:Nat->Int×Int×A3->eu:=mF mA mB
def am2:CO:=cF mA mB Tg func282
def ahC N t a b:Tg (N+1) (t,a,b)=some (decide (a<=t)):=ci
def cJ:Do CO:=[am2]
def aal:PS:=bg [aj0,(1,.cl (.func 282) [] [.fp io]),z3,ut] []
def aam:Do (IR×PS):=[((.exit 0),bg [] []),(.ret,bg [ls] [])]
def aan:Pl:=.z
def Hw:Nat->Nat->aX×Int×A3×Int×Int->At ((Unit)⊕(Int)):=fx cJ f131 [1,0,1,0,0] aal aam aan
def ec:FD:=cL 131 f131 (.n .z (.n (.n .z (.n (.loop aal aam aan) .z)) .z)) [.h j6,.cl (.func 282) [] [.fp io]] [] (bg [ls] []) false true []
def ahD:Nat->aX×Int×A3->fi:=mF cJ ec
def arS:CO:=cF cJ ec ahD aza
def Mo N m s f b c a:Hw N (m+1) (s,f,b,c,a)=cond (a<c)
 (aW (aZ s a) λd=>
 aW (Tg N (d,f,b)) λe=>
 cond e
  (some (.inr a))
  ((Hw N m (s,f,b,c,(wZ (a+1))))))
 (some (.inl ())):=ci
def ahE N s f a:ahD (N+1) (s,f,a)=aW (Hw N N (s,f,a,(length s:Int),0)) λb=>
 (match b with
 |.inl d=>some (-1)
 |.inr c=>some c):=ci
def cx:Do CO:=[arS,am2]
def ahF:PS:=bg [acl,(1,.cl (.func 282) [] [.fp io]),to,wl] [ld]
def ahG:Do (IR×PS):=[((.exit 0),bg [acl,to] [ld])]
def ahH:Pl:=.z
def Jy:Nat->Nat->Int×A3×Int×Int×aX->At A6:=fx cx f281 [1,1,1,0,1,0,0] ahF ahG ahH
def dK:FD:=cL 281 f281 (.n .z (.n .z (.n .z (.n (.n .z (.n (.loop ahF ahG ahH) .z)) .z)))) [.k (.ow 4294967296),.cl (.func 282) [] [.fp io]] [ld] (bg [lm] [gc]) true true [900]
def ale:Nat->Int×A3×aX->mf:=mF cx dK
def aup:CO:=cF cx dK ale func281
def ahI N m a b i j s:Jy N (m+1) (a,b,i,j,s)=cond (j<(length s:Int))
 (aW (aZ s j) λe=>
 aW (aZ s j) λc=>
 aW (Tg N (c,a,b)) λd=>
 cond (!d)
  (aW (aZ s i) λf=>
  aW (aZ s i) λg=>
  (Jy N m (a,b,(wZ (i+1)),(wZ (j+1)),(List.set s (Int.toNat i) c))))
  ((Jy N m (a,b,i,(wZ (j+1)),s))))
 (some (i,s)):=ci
def alf N b c s:ale (N+1) (b,c,s)=aW (ahD N (s,b,c)) λd=>
 cond (d=(-1))
  (some s)
  (aW (Jy N N (b,c,d,(wZ (d+1)),s)) λa=>
  cond (((true && true) && true) && (!(oh a.2)))
   (aW (kj a.2 a.1 (length a.2:Int)) λg=>
   aW (ab0 a.2 a.1 ((length a.2:Int) - a.1) 0) λe=>
   aW (kj e 0 a.1) λf=>
   some f)
   none):=ci
def rF:Do CO:=[Ru,Ow,arR,aup,⟨jS,nI⟩]
def rG:FD:=cL 256 f256 .z ath [] (bg [lm,to] [gc]) true true [900]
def Th:Nat->Int×A3×Int->At A6:=mF rF rG
def arT:CO:=cF rF rG Th func256
def ahJ N f a v:Th (N+1) (f,a,v)=aW (Fy N (f,a,[v])) λb=>
 cond (!(b=0))
  (some (b,[]))
  (aW (wH N (f,a,v)) λc=>
  aW (aZ a c) λd=>
  aW (aak N d) λe=>
  aW (ale N (f,a,e)) λg=>
  aW (eE N g) λh=>
  some (0,h)):=ci
def CM:Do CO:=[am1,Z1,arT,Yq,⟨gn,gp⟩,⟨nG,mU⟩]
def CN:FD:=cL 211 f211 .z [.ag i6,.h j1,.h j1,.h j1] [] (bg [n9,aet] [gc]) true true [900]
def Jz:Nat->Int×gD×Int×Int×Int->At A6:=mF CM CN
def aoT:CO:=cF CM CN Jz func211
def Mp N g e u v f:Jz (N+1) (g,e,u,v,f)=aW (Jx N (g,e,u,v)) λb=>
 cond (b.2=1)
  (some (b.2,[]))
  (cond (b.2=10)
   (some (b.2,[]))
   (aW (Jq N (g,e,f)) λc=>
   aW (Th N (c.2.1,c.2.2,u)) λa=>
   aW (Th N (c.2.1,c.2.2,v)) λd=>
   aW (IP N (a.2,v)) λk=>
   cond k
    (some (5,[]))
    (aW (cV N ((length a.2:Int),(length d.2:Int))) λl=>
    aW (aZ a.2 0) λn=>
    aW (aZ a.2 0) λm=>
    aW (aZ d.2 0) λo=>
    aW (aZ d.2 0) λh=>
    aW (cV N (m,h)) λi=>
    aW (h9 N [l,i]) λj=>
    cond (j<0)
     (some (0,a.2))
     (some (0,d.2))))):=ci
def kJ:Do CO:=[]
def kK:FD:=cL 212 f212 .z [.ag v5,.k (.pt 4294967296 0)] [(4294967296,.box 201 alt),(4294967297,.mp (.int .i64) j1 j1)] (bg [NE] [(4294967297,.mp (.int .i64) j1 j1),(4294967296,.box 201 alt)]) true true [4294967297,4294967296]
def aao:Nat->Int×Int×Int×In×A1->At (Int×A1):=mF kJ kK
def arU:CO:=cF kJ kK aao func212
def Ti N t a b c h:aao (N+1) (t,a,b,c,h)=some ((wZ ((Option.getD (bN j1 h t) 0)+(Option.getD (bN j1 h a) 0))),h):=ci
def fR:Do CO:=[]
def ge:Nat×PO:=(4294967296,.box 257 [.h j1,.k (.ow 4294967297),.h .b,.h .b,.h j1,.h j1,.h j1,.h j1])
def lw:Nat×PO:=(4294967297,.arr 134 uc true)
def fS:FD:=cL 213 f213 .z [.k (.pt 4294967296 0),.pe 4294967297 4 0] [ge,lw] (bg [] [ge,lw]) true true [4294967296,4294967297]
def Tj:Nat->Int×Int×In×In×Int×Int×Int×Int×gD->At (Int×In×In×Int×Int×Int×Int×gD):=mF fR fS
def arV:CO:=cF fR fS Tj func213
def ahK N t s d e f g h a b:Tj (N+1) (t,s,d,e,f,g,h,a,b)=aW (aZ b t) λi=>
 aW (aZ b t) λc=>
 some (s,d,e,f,g,(wZ (h+1)),a,(List.set b (Int.toNat t) (c.1,c.2.1,(if((wZ (i.2.2.1+1))<a)then(wZ (i.2.2.1+1))else a),c.2.2.2))):=ci
def dD:Do CO:=[aoT,arU,arV]
def at8:Do PV:=[.k (.pt 900 0)]
def aog:Nat×PO:=(900,.box 201 [.k (.mp 902)])
def aap:PS:=bg [v9,(14,.cl (.func 212) [] at8),(86,.k (.ow 901)),(87,.h j1),(88,.h j1)] [ge,aog,(901,.qr 311 4294967297 4),lw,(902,.mp (.int .i64) j1 j1)]
def aaq:Do (IR×PS):=[((.exit 5),bg [] [ge,lw]),(.ret,bg [(8,.h .b)] [ge,lw])]
def aar:Pl:=.z
def x4:Nat->Nat->Int×Int×Int×In×In×Int×Int×Int×Int×aX×gD×A1->At ((Int×In×In×Int×Int×Int×Int×gD)⊕(In×Int×In×In×Int×Int×Int×Int×gD)):=fx dD f164 [1,1,1,1,1,1,1,0,1,0,0] aap aaq aar
def auy:Nat×PO:=(900,.box 201 [.k (.mp 901)])
def aas:PS:=bg [v9,NE,(14,.cl (.func 212) [] at8),aqg,(47,.h j1),(48,.h j1)] [ge,auy,(902,.qr 311 4294967297 4),lw,(901,.mp (.int .i64) j1 j1)]
def aat:Do (IR×PS):=[((.exit 2),bg [v9,(14,.cl (.func 212) [] at8),aty] [ge,aog,(901,.qr 311 4294967297 4),lw,(902,.mp (.int .i64) j1 j1)])]
def aau:Pl:=.z
def tf:Nat->Nat->Int×Int×Int×Int×In×In×Int×Int×Int×Int×aX×gD×A1->At (Int×In×In×Int×Int×Int×Int×aX×gD×A1):=fx dD f164 [1,1,1,1,1,1,0,1,0,0] aas aat aau
def aav:PS:=bg [v9,NE,(11,.k (.pt 900 0)),(32,.k (.ow 901)),(33,.h j1),(34,.h j1)] [ge,aog,m4,lw,(902,.mp (.int .i64) j1 j1)]
def aaw:Do (IR×PS):=[((.exit 0),bg [v9,NE,(11,.k (.pt 900 0))] [ge,auy,lw,(901,.mp (.int .i64) j1 j1)])]
def aax:Pl:=.z
def Hx:Nat->Nat->Int×Int×Int×Int×In×In×Int×Int×Int×Int×aX×gD×A1->At (Int×Int×In×In×Int×Int×Int×Int×gD×A1):=fx dD f164 [1,1,1,0,1,0,0] aav aaw aax
def il:FD:=cL 164 f164 (.n .z (.n .z (.n .z (.n (.n .z (.n (.loop aav aaw aax) .z)) (.n .z (.n .z (.n (.n .z (.n (.loop aas aat aau) .z)) (.n (.n .z (.n (.loop aap aaq aar) .z)) .z)))))))) [.k (.pt 4294967296 0),.h j1,.h j1,.h j1] [ge,lw] (bg [(8,.h .b)] [lw,ge]) true true [4294967297,4294967296]
def aay:Nat->Int×Int×Int×Int×In×In×Int×Int×Int×Int×gD->At (In×gD×Int×In×In×Int×Int×Int×Int):=mF dD il
def arW:CO:=cF dD il aay func164
def Mq N m o e s f k l n g h i a q:x4 N (m+1) (o,e,s,f,k,l,n,g,h,i,a,q)=cond (e<o)
 (aW (aZ i e) λu=>
 aW (aZ i e) λc=>
 aW (aZ a c) λp=>
 aW (aao N (p.1,p.2.1,p.2.2.1,p.2.2.2,q)) λj=>
 cond (j.1=0)
  ((x4 N m (o,(wZ (e+1)),s,f,k,l,n,g,h,i,a,j.2)))
  (cond (j.1=2)
   (aW (Tj N (c,s,f,k,l,n,g,h,a)) λd=>
   (x4 N m (o,(wZ (e+1)),d.1,d.2.1,d.2.2.1,d.2.2.2.1,d.2.2.2.2.1,d.2.2.2.2.2.1,d.2.2.2.2.2.2.1,i,d.2.2.2.2.2.2.2,j.2)))
   (cond (j.1=1)
    (aW (aZ a c) λb=>
    aW (aZ (List.set a (Int.toNat c) (b.1,b.2.1,b.2.2.1,true)) c) λr=>
    aW (aZ (List.set a (Int.toNat c) (b.1,b.2.1,b.2.2.1,true)) c) λt=>
    some (.inr (true,s,f,true,r.1,t.2.1,g,h,(List.set a (Int.toNat c) (b.1,b.2.1,b.2.2.1,true)))))
    ((x4 N m (o,(wZ (e+1)),s,f,k,l,n,g,h,i,a,j.2))))))
 (some (.inl (s,f,k,l,n,g,h,a))):=ci
def Mr N m k l a s e f g h i j d b n:tf N (m+1) (k,l,a,s,e,f,g,h,i,j,d,b,n)=cond (a<l)
 (aW (aZ b a) λu=>
 aW (aZ b a) λq=>
 cond (!(q.2.2.1=k))
  ((tf N m (k,l,(wZ (a+1)),s,e,f,g,h,i,j,d,b,n)))
  (aW (aZ b a) λr=>
  cond (!r.2.2.2)
   (aW (eG 8 d [a]) λt=>
   (tf N m (k,l,(wZ (a+1)),s,e,f,g,h,i,j,t,b,n)))
   (aW (aZ b a) λo=>
   aW (aao N (o.1,o.2.1,o.2.2.1,o.2.2.2,n)) λp=>
   cond (p.1=2)
    (aW (Tj N (a,s,e,f,g,h,i,j,b)) λc=>
    (tf N m (k,l,(wZ (a+1)),c.1,c.2.1,c.2.2.1,c.2.2.2.1,c.2.2.2.2.1,c.2.2.2.2.2.1,c.2.2.2.2.2.2.1,d,c.2.2.2.2.2.2.2,p.2)))
    ((tf N m (k,l,(wZ (a+1)),s,e,f,g,h,i,j,d,b,p.2))))))
 (some (s,e,f,g,h,i,j,d,b,n)):=ci
def Ms N m i j a s c d e f g h b k l:Hx N (m+1) (i,j,a,s,c,d,e,f,g,h,b,k,l)=cond (a<j)
 (aW (aZ b a) λo=>
 aW (aZ b a) λn=>
 (Hx N m (i,j,(wZ (a+1)),s,c,d,e,f,g,h,b,k,(d_ j1 l n 1))))
 (some (i,s,c,d,e,f,g,h,k,l)):=ci
def ahL N u v d s e f g i j k h:aay (N+1) (u,v,d,s,e,f,g,i,j,k,h)=aW (Jz N (s,h,u,v,d)) λl=>
 aW (Hx N N (d,(length l.2:Int),0,s,e,f,g,i,j,k,l.2,h,[])) λa=>
 aW (tf N N (a.1,(length a.2.2.2.2.2.2.2.2.1:Int),0,a.2.1,a.2.2.1,a.2.2.2.1,a.2.2.2.2.1,a.2.2.2.2.2.1,a.2.2.2.2.2.2.1,a.2.2.2.2.2.2.2.1,[],a.2.2.2.2.2.2.2.2.1,a.2.2.2.2.2.2.2.2.2)) λm=>
 aW (x4 N N ((length m.2.2.2.2.2.2.2.1:Int),0,m)) λn=>
 (match n with
 |.inl c=>some (false,c.2.2.2.2.2.2.2,c.1,c.2.1,c.2.2.1,c.2.2.2.1,c.2.2.2.2.1,c.2.2.2.2.2.1,c.2.2.2.2.2.2.1)
 |.inr b=>some (b.1,b.2.2.2.2.2.2.2.2,b.2.1,b.2.2.1,b.2.2.2.1,b.2.2.2.2.1,b.2.2.2.2.2.1,b.2.2.2.2.2.2.1,b.2.2.2.2.2.2.2.1)):=ci
def wK:Do CO:=[am1,arQ,VV,arW]
def au0:Nat×PO:=(900,.box 32 ul)
def aef:Nat×PO:=(901,.box 183 [.h .b,.h .b,.h j1,.h j1,.h j1])
def Tl:PS:=bg [Pi,aj4,(11,.k (.pt 902 0)),(12,.k (.pt 903 0)),ap2] [au0,aef,(902,.box 134 v5),(903,.box 257 [.h j1,.k (.ow 904),.h .b,.h .b,.h j1,.h j1,.h j1,.h j1]),(904,.arr 134 uc true)]
def Tm:Do (IR×PS):=[((.exit 0),bg [Pi,aj4,(12,.k (.pt 902 0))] [au0,aef,(902,.box 257 [.h j1,.k (.ow 903),.h .b,.h .b,.h j1,.h j1,.h j1,.h j1]),(903,.arr 134 uc true)])]
def Tn:Pl:=.z
def CP:Nat->Nat->Int×Int×In×In×Int×Int×Int×Int×Int×Int×In×Int×In×In×Int×Int×Int×Int×gD->At (Int×In×In×Int×Int×Int×Int×In×In×Int×Int×Int×Int×gD):=fx wK f90 [1,1,1,1,1,0,1,0,0] Tl Tm Tn
def F2:FD:=cL 90 f90 (.n .z (.n .z (.n .z (.n .z (.n .z (.n (.n .z (.n (.loop Tl Tm Tn) .z)) .z)))))) an6 [] (bg [Pi,aj4,ut] [n8,aef]) false false []
def Oz:Nat->Int×gD×Int×Int->At (Int×Int×gD×In×In×Int×Int×Int):=mF wK F2
def aoU:CO:=cF wK F2 Oz func90
def V8 N m o b c d e f g t q u r s h i j k l n p:CP N (m+1) (o,b,c,d,e,f,g,t,q,u,r,s,h,i,j,k,l,n,p)=cond r
 (cond (0<=o)
  (aW (aay N (t,q,o,s,h,i,j,k,l,n,p)) λa=>
  cond (!a.1)
   ((CP N m ((wZ (o - 1)),b,c,d,e,f,g,t,q,u,r,a.2.2.1,a.2.2.2.1,a.2.2.2.2.1,a.2.2.2.2.2.1,a.2.2.2.2.2.2.1,a.2.2.2.2.2.2.2.1,a.2.2.2.2.2.2.2.2,a.2.1)))
   (some (b,c,d,e,f,g,a.2.2.1,a.2.2.2.1,a.2.2.2.2.1,a.2.2.2.2.2.1,a.2.2.2.2.2.2.1,a.2.2.2.2.2.2.2.1,a.2.2.2.2.2.2.2.2,a.2.1)))
  (some (b,c,d,e,f,g,s,h,i,j,k,l,n,p)))
 (some (b,c,d,e,f,g,s,h,i,j,k,l,n,p)):=ci
def adh N g a u v:Oz (N+1) (g,a,u,v)=aW (Jx N (g,a,u,v)) λd=>
 cond (!(d.2=0))
  (some (d.2,g,a,false,false,0,0,0))
  (aW (aZ a d.1) λc=>
  aW (kj a 0 d.1) λe=>
  aW (kj a (wZ (d.1+1)) (length a:Int)) λf=>
  aW (aaj N [e,f]) λh=>
  aW (Ek N g) λi=>
  aW (CP N N (c.2.2.1,0,false,false,0,0,0,c.1,c.2.1,c.2.2.1,c.2.2.2,g,c.2.2.2,false,0,0,0,i,h)) λb=>
  some (0,b.2.2.2.2.2.2.1,b.2.2.2.2.2.2.2.2.2.2.2.2.2,b.2.2.2.2.2.2.2.1,b.2.2.2.2.2.2.2.2.1,b.2.2.2.2.2.2.2.2.2.1,b.2.2.2.2.2.2.2.2.2.2.1,b.2.2.2.2.2.2.2.2.2.2.2.1)):=ci
def tg:Do CO:=[ahi,aoU]
def To:PS:=bg [i9,aec,(9,.k (.ow 904)),(10,.k (.pt 902 0)),(27,.k (.ow 903)),(28,.h j1),(29,.h j1)] [n8,aux,(904,.arr 183 j21 true),(902,.box 32 i6),(903,.arr 52 j5 true)]
def Tp:Do (IR×PS):=[((.exit 0),bg [s1,aue,(10,.k (.pt 902 0))] [au0,(901,.arr 183 j21 true),(902,.box 32 i6)]),(.ret,bg [s1,(5,.k .nil),wl] [n8])]
def Tq:Pl:=.z
def CQ:Nat->Nat->Int×Int×Int×gD×Int×A13×Int×gD×A1->At ((Int×A13×Int×gD)⊕(Int×Int×gD)):=fx tg f31 [1,1,1,1,1,0,1,0,0] To Tp Tq
def CR:FD:=cL 31 f31 (.n .z (.n .z (.n .z (.n .z (.n .z (.n (.n .z (.n (.loop To Tp Tq) .z)) .z)))))) ati [] (bg [s1,anj,wl] [n8,(901,.arr 183 j21 true)]) true false [901]
def wL:Nat->Int×gD×A1->At (Int×Int×gD×A13):=mF tg CR
def aoV:CO:=cF tg CR wL func31
def JA N m h b g f i all d e c:CQ N (m+1) (h,b,g,f,i,all,d,e,c)=cond (b<h)
 (aW (aZ c b) λl=>
 aW (aZ c b) λj=>
 aW (Oz N (d,e,j.1,j.2)) λa=>
 cond (!(a.1=0))
  (some (.inr (a.1,g,f)))
  (aW (eG 32 all [(a.2.2.2.1,a.2.2.2.2.1,(a.2.2.2.2.2.1,a.2.2.2.2.2.2.1),a.2.2.2.2.2.2.2)]) λk=>
  (CQ N m (h,(wZ (b+1)),g,f,i,k,a.2.1,a.2.2.1,c))))
 (some (.inl (i,all,d,e))):=ci
def adi N g a l:wL (N+1) (g,a,l)=aW (Ez N (g,a,l)) λb=>
 cond (!(b.1=0))
  (some (b.1,g,a,[]))
  (aW (CQ N N ((length b.2:Int),0,g,a,0,[],g,a,b.2)) λe=>
  (match e with
  |.inl c=>some (0,c.2.2.1,c.2.2.2,c.2.1)
  |.inr d=>some (d.1,d.2.1,d.2.2,[]))):=ci
def oE:Do CO:=[ahl,aho,am0,amZ]
def aaz:PS:=bg [aui,(21,.h j1),(22,.h j1)] [gc]
def aaA:Do (IR×PS):=[((.exit 0),bg [aui] [gc])]
def aaB:Pl:=.z
def Hy:Nat->Nat->Int×Int×aX->mf:=fx oE f24 [1,1,1,1,0,1,0,0] aaz aaA aaB
def wM:FD:=cL 24 f24 (.n .z (.n .z (.n .z (.n .z (.n (.n .z (.n (.loop aaz aaA aaB) .z)) .z))))) [.h j1,.h iw] [] (bg [lm,to] [gc]) true true [900]
def Ts:Nat->Int×A1->At A6:=mF oE wM
def am3:CO:=cF oE wM Ts func24
def adj N m c a s:Hy N (m+1) (c,a,s)=cond (a<c)
 (aW (Mn N (a,s)) λb=>
 aW (aZ b.2 a) λd=>
 aW (aZ b.2 a) λe=>
 (Hy N m (c,(wZ (a+1)),(List.set b.2 (Int.toNat a) b.1))))
 (some s):=ci
def ahM N n l:Ts (N+1) (n,l)=aW (Jr N (n,l)) λa=>
 cond (!(a=0))
  (some (a,[]))
  (aW (Js N n) λc=>
  aW (Tb N (l,c)) λb=>
  aW (Hy N N ((length b.2:Int),0,b.2)) λd=>
  some (0,d)):=ci
def Tt:Do CO:=[yR,Z0,am3]
def Tu:FD:=cL 176 f176 .z [.ag i6] [] (bg [m2,apa] [gc]) true true [900]
def V9:Nat->Int×gD->At A9:=mF Tt Tu
def aoW:CO:=cF Tt Tu V9 func176
def adk N g a:V9 (N+1) (g,a)=aW (pw N (g,a)) λb=>
 cond (!b)
  (some (false,[]))
  (aW (Jk N (g,a)) λc=>
  aW (Ts N (g,c)) λd=>
  some (true,d.2)):=ci
def jB:Do CO:=[]
def kw:Nat×PO:=(4294967296,.box 275 atl)
def jC:FD:=cL 263 f263 .z am4 [kw] (bg [apa] [kw]) true false [4294967296]
def ahN:Nat->Int×aX->At A9:=mF jB jC
def arX:CO:=cF jB jC ahN func263
def ahO N v a:ahN (N+1) (v,a)=cond (v<0)
 (some (true,a))
 (some ((decide ((length a:Int)<=v)),a)):=ci
def cg:Do CO:=[arX]
def ahP:PS:=bg [aj0,(1,.cl (.func 263) [] li),z3,ut] [kw]
def ahQ:Do (IR×PS):=[((.exit 0),bg [] [kw]),(.ret,bg [ls] [kw])]
def ahR:Pl:=.z
def OA:Nat->Nat->aX×Int×Int×aX->At ((aX)⊕A6):=fx cg f131 [1,0,1,0,0] ahP ahQ ahR
def at9:Do PV:=[.h j6,.cl (.func 263) [] li]
def dB:FD:=cL 131 f131 (.n .z (.n (.n .z (.n (.loop ahP ahQ ahR) .z)) .z)) at9 [kw] (bg [ls] [kw]) true false [4294967296]
def aoX:Nat->aX×aX->At A6:=mF cg dB
def auq:CO:=cF cg dB aoX aza
def Tv N m s b a f:OA N (m+1) (s,b,a,f)=cond (a<b)
 (aW (aZ s a) λd=>
 aW (ahN N (d,f)) λc=>
 cond c.1
  (some (.inr (a,c.2)))
  ((OA N m (s,b,(wZ (a+1)),c.2))))
 (some (.inl f)):=ci
def alg N s f:aoX (N+1) (s,f)=aW (OA N N (s,(length s:Int),0,f)) λb=>
 (match b with
 |.inl c=>some ((-1),c)
 |.inr a=>some (a.1,a.2)):=ci
def da:Do CO:=[auq]
def db:FD:=cL 60 f60 .z at9 [kw] (bg n7 [kw]) true false [4294967296]
def aoY:Nat->aX×aX->At A9:=mF da db
def aur:CO:=cF da db aoY azy
def alh N s f:aoY (N+1) (s,f)=aW (aoX N (s,f)) λa=>
 some ((decide (0<=a.1)),a.2):=ci
def mC:Do CO:=[aur]
def mD:FD:=cL 218 f218 .z [.h j6,.h j6] [] (bg n7 []) false true []
def Mt:Nat->aX×aX->eu:=mF mC mD
def arY:CO:=cF mC mD Mt func218
def ahS N c a:Mt (N+1) (c,a)=aW (aoY N (a,c)) λb=>
 some (!b.1):=ci
def gP:Do CO:=[]
def act:Nat×PO:=(4294967297,.box 54 m9)
def gQ:FD:=cL 220 f220 .z [.h j1,.h j1,.k (.pt 4294967296 0),.k (.pt 4294967297 0)] [kw,act] (bg [ap3] [act,kw]) true false [4294967297,4294967296]
def ahT:Nat->Int×Int×aX×Int×Int×Int->At (In×Int×Int×Int×aX):=mF gP gQ
def arZ:CO:=cF gP gQ ahT func220
def ahU N f c a d b e:ahT (N+1) (f,c,a,d,b,e)=aW (aZ a b) λg=>
 some ((decide (c=g)),d,b,e,a):=ci
def cy:Do CO:=[arZ]
def ap1:Do PV:=[.k (.pt 4294967296 0),.k (.pt 4294967297 0)]
def ahV:PS:=bg [(1,.cl (.func 220) [] ap1),ls,(7,.h j6),ut,aet] [kw,act]
def ahW:Do (IR×PS):=[((.exit 0),bg [ls] [kw,act])]
def ahX:Pl:=.z
def JB:Nat->Nat->Int×aX×Int×Int×aX×Int×Int×Int->At (Int×aX×Int×Int×Int):=fx cy f219 [1,0,1,0,0] ahV ahW ahX
def dL:FD:=cL 219 f219 (.n .z (.n (.n .z (.n (.loop ahV ahW ahX) .z)) .z)) [.h j6,.cl (.func 220) [] ap1] [kw,act] (bg [ls] [kw,act]) true false [4294967296,4294967297]
def ahY:Nat->aX×aX×Int×Int×Int->At (Int×aX×Int×Int×Int):=mF cy dL
def aus:CO:=cF cy dL ahY func219
def Tw N m n c d b e f g h:JB N (m+1) (n,c,d,b,e,f,g,h)=cond (b<d)
 (aW (aZ c b) λi=>
 aW (ahT N (b,i,e,f,g,h)) λa=>
 cond a.1
  ((JB N m ((wZ (n+1)),c,d,(wZ (b+1)),a.2.2.2.2,a.2.1,a.2.2.1,a.2.2.2.1)))
  ((JB N m (n,c,d,(wZ (b+1)),a.2.2.2.2,a.2.1,a.2.2.1,a.2.2.2.1))))
 (some (n,e,f,g,h)):=ci
def ali N c b d e f:ahY (N+1) (c,b,d,e,f)=aW (JB N N (0,c,(length c:Int),0,b,d,e,f)) λa=>
 some (a.1,a.2.1,a.2.2.1,a.2.2.2.1,a.2.2.2.2):=ci
def kL:Do CO:=[]
def kM:FD:=cL 221 f221 .z PP [] (bg n7 []) false true []
def ahZ:Nat->Int×Int->eu:=mF kL kM
def ar0:CO:=cF kL kM ahZ func221
def ah0 N v a:ahZ (N+1) (v,a)=some (decide (v=a)):=ci
def dz:Do CO:=[ar0]
def aaC:PS:=bg [(1,.k (.v (.func (.func 221) #[] #[]))),ls,(7,.h j6),ut,aet] []
def aaD:Do (IR×PS):=[((.exit 0),bg [ls] [])]
def aaE:Pl:=.z
def CS:Nat->Nat->Int×aX×Int×Int->fi:=fx dz f219 [1,0,1,0,0] aaC aaD aaE
def eZ:FD:=cL 219 f219 (.n .z (.n (.n .z (.n (.loop aaC aaD aaE) .z)) .z)) [.h j6,.k (.v (.func (.func 221) #[] #[]))] [] (bg [ls] []) false true []
def Tx:Nat->aX->fi:=mF dz eZ
def ar1:CO:=cF dz eZ Tx func219
def Mu N m n b c a:CS N (m+1) (n,b,c,a)=cond (a<c)
 (aW (aZ b a) λd=>
 aW (ahZ N (a,d)) λe=>
 cond e
  ((CS N m ((wZ (n+1)),b,c,(wZ (a+1)))))
  ((CS N m (n,b,c,(wZ (a+1))))))
 (some n):=ci
def ah1 N c:Tx (N+1) c=aW (CS N N (0,c,(length c:Int),0)) λa=>
 some a:=ci
def iD:Do CO:=[arY,aus,ar1]
def ato:Do (Nat×PO):=[(900,.box 275 atl),(901,.box 54 m9)]
def aaF:PS:=bg [i9,(3,.k (.pt 901 0)),z3] ato
def aaG:Do (IR×PS):=[(.normal,bg [i9,(3,.k (.pt 901 0)),z3,(31,.h .b)] ato)]
def aaH:Pl:=.z
def aaI:Nat->Nat->Int×aX×Int×Int×Int->At (Int×In×aX×Int×Int×Int):=jnF iD f177 [1,0,1,0,1,1,0] aaF aaG aaH
def lK:FD:=cL 177 f177 (.n .z (.n (.n .z (.n (.n .z (.n .z (.n (.join aaF aaG aaH) .z))) .z)) .z)) [.h j6,.ag m9] [] (bg [ls,to] []) false true []
def aaJ:Nat->aX×Int×Int×Int->KQ:=mF iD lK
def ar2:CO:=cF iD lK aaJ func177
def adl N m b c a d e:aaI N (m+1) (b,c,a,d,e)=cond (b=2)
 (some (b,true,c,a,d,e))
 (some (b,(decide (b=3)),c,a,d,e)):=ci
def ah2 N c a d e:aaJ (N+1) (c,a,d,e)=cond (a=1)
 (aW (Mt N (c,[d,e])) λf=>
 cond (!f)
  (some (0,10))
  (aW (aZ c d) λg=>
  aW (aZ c e) λh=>
  cond (g=h)
   (some (1,0))
   (some (0,0))))
 (aW (aaI N N (a,c,a,d,e)) λb=>
 cond b.2.1
  (aW (Mt N (b.2.2.1,[b.2.2.2.2.1])) λi=>
  cond (!i)
   (some (0,10))
   (cond (b.2.2.2.1=2)
    (aW (aZ b.2.2.1 b.2.2.2.2.1) λj=>
    some (j,0))
    (aW (ahY N (b.2.2.1,b.2.2.1,b.2.2.2.1,b.2.2.2.2.1,b.2.2.2.2.2)) λk=>
    some (k.1,0))))
  (cond (b.1=4)
   (aW (Tx N b.2.2.1) λl=>
   some (l,0))
   (some (0,1)))):=ci
def qO:Do CO:=[aoW,ar2]
def aaK:PS:=bg [nl,(8,.k (.ow 901)),(20,.h Gy),(21,.h j1),(22,.h j1)] [gc,m4]
def aaL:Do (IR×PS):=[((.exit 0),bg [n9] [gc]),(.ret,bg [(4,.k .nil),to] [])]
def aaM:Pl:=.z
def Hz:Nat->Nat->(Do A4)×Int×Int×aX×aX->At ((aX)⊕(Int)):=fx qO f108 [1,1,1,1,0,1,0,0] aaK aaL aaM
def zk:FD:=cL 108 f108 (.n .z (.n .z (.n .z (.n .z (.n (.n .z (.n (.loop aaK aaL aaM) .z)) .z))))) [.ag i6,.h Gy] [] (bg [lm,to] [gc]) true true [900]
def CU:Nat->Int×gD×(Do A4)->At A6:=mF qO zk
def ar3:CO:=cF qO zk CU func108
def Mw N m d e a c b:Hz N (m+1) (d,e,a,c,b)=cond (a<e)
 (aW (aZ d a) λf=>
 aW (aaJ N (c,f.1,f.2.1,f.2.2)) λg=>
 cond (!(g.2=0))
  (some (.inr g.2))
  (aW (eG 8 b [g.1]) λh=>
  (Hz N m (d,e,(wZ (a+1)),c,h))))
 (some (.inl b)):=ci
def ah3 N g a l:CU (N+1) (g,a,l)=aW (V9 N (g,a)) λb=>
 cond (!b.1)
  (some (1,[]))
  (aW (Hz N N (l,(length l:Int),0,b.2,[])) λc=>
  (match c with
  |.inl d=>some (0,d)
  |.inr e=>some (e,[]))):=ci
def ah4(e:Int)(f:e≠0):PCX Tryz.prog 107 [] [.v (.int .i64 e)] [{v:=o4 e,recovered:=false}]:=by
 refine⟨⟨f107,aAm,by kernel_rfl,by kernel_rfl⟩,λB Rd e0 w d g a=>?_⟩;obtain⟨v,i,k⟩:=a.get (j:=0) (c:=.v (.int .i64 e)) rfl;obtain rfl:=k.bS;have:d=[.int .i64 e]:=by
  match d,a.1,i with
  |[u],_,h=>simpa using h
 subst this;exact(afG e w f).mono λx l b=>⟨b.1,e0,b.2▸g.nil⟩
noncomputable def CW:FD:=⟨107,f107,.z,[.h (.i .i64)],[],[.i .i64],⟨[],[],[]⟩,false,true,[]⟩
noncomputable def eh:Nat->Int->At Unit:=mF [] CW
noncomputable def OB:CO:=cF [] CW eh aAm
def ur N e:eh (N+1) e=cond (!(e=0)) none (some ()):=ci
noncomputable def OC:Do CO:=[arJ,V4,OB,aoR,aoV,ar3]
def aj3:Nat×PO:=(4294967296,.box 128 [.h j1,.h kB,.h j1,.h j1,.h j1,.h j1,.h j6])
noncomputable def OD:FD:=⟨43,f43,.z,[.k (.pt 4294967296 0),.ag LT,.ag t8],[aj3],[j1,iw,Gy,j1,j1,j1,j1,iw,j1,kB,j1,j1,j1,j1,j6],⟨[],[aj3],[j1,kB,j1,j1,j1,j1,j6]⟩,true,false,[4294967296]⟩
noncomputable def ED:Nat->mq OD.cs->At (mq OD.rs.c):=mF OC OD
def adm N k p q l m g P j n b d f e i h:ED (N+1) (k,p,q,l,m,g,P,j,n,b,d,f,e,i,h)=
 aW (uo N (n,b,k,p,q,l,m,g,P,j)) λc=>aW (eh N c.2.1) λ_=>
 aW (k9 N (wZ (((c.2.2.2.1.length:Nat):Int)+((c.2.2.2.2.length:Nat):Int)),g,P,j)) λo=>aW (eh N o.2.1) λ_=>
 cond (c.2.2.1=1)
  (aW (qN N (n,b,c.2.2.2.1)) λa=>aW (eh N a.2.1) λ_=>some (a.2.2.1,a.2.2.2,wZ (d+1),wZ (f+wZ (c.1+o.1)),e,a.1,h))
  (cond (c.2.2.1=2)
   (aW (wL N (n,b,c.2.2.2.1)) λa=>aW (eh N a.1) λ_=>some (a.2.1,a.2.2.1,wZ (d+1),wZ (f+wZ (c.1+o.1)),e,((c.2.2.2.1.length:Nat):Int),h))
   (cond (c.2.2.1=3)
    (aW (CU N (n,b,c.2.2.2.2)) λa=>aW (eh N a.1) λ_=>some (n,b,wZ (d+1),wZ (f+wZ (c.1+o.1)),e,i,a.2))
    (aW (eh N o.2.1) λ_=>some (n,b,wZ (d+1),wZ (f+wZ (c.1+o.1)),e,i,h)))):=ci
noncomputable def lS:CO:=cF OC OD ED func43
variable{c:Code}{e:cY}{i:FuncId}{d:Int}{a:Do PanicEntry}{b:Nat}{g h:EQ}
def kGo{R:Type}(f:cY->At R):IR->cY->At R
 |.normal,E=>f E
 |_,_=>none
def slI(E:cY)(i:Nat):tW:=match dj E.t i with
 |.sc (.i .i64) e=>some e
 |_=>none
def aoZ(h:slI e b=some d):dj e.t b=.sc (.i .i64) d:=by
 unfold slI at h;split at h
 next c a=>cases h;exact a
 .cases h
section
variable{P:Fd}{dO:IR->St->Prop}{T:EQ->bz}{CT:Do kS}{N:Nat}
def TC.V_(m:Place P T CT){c d:Code}(g:Fp c=true){o:Pl}{R:Type}{f:cY->At R}{r:R}(h:yF T CT N c o e R (kGo f)=some r)(j:∀b,b.n=e.n->f b=some r->TC P d (br b) dO):TC P (.seq c d) (br e) dO:=by
 refine TC.seq ((TC.ex m g h).mono λx s n=>?_);obtain⟨b,rfl,k,a⟩:=n;cases x with
 |normal=>exact j b k a
 |_=>cases a
def TC.aut{id:Nat}{l:bq}{j k s:Nat}{p1 p2:String}{o q:dY}{F:jP}(z:l=[⟨some j,.move (.tmp s),g,p1,o,none⟩,⟨some k,.call ⟨.value (.func i), #[.tmp j],F⟩,h,p2,q,none⟩])
 (y:PCX P i [] [.v (.int .i64 d)] a) (v:slI e s=some d) (u:j<e.n) (r:PE (1000*(k+1)) []=true) (A:∀E,dO (.panic a) E):TC P (.seq (.region id l.toArray false) c) (br e) dO:=by
 refine TC.seq (TC.region ?_);subst z;have x:(br e).ev (.tmp s)=.v (.int .i64 d):=by
  show bO (br e).t s=_;rw[show(br e).t=hP e.t from rfl,cU,aoZ v];rfl
 refine TL.cons λI t=>GS.plain rfl (SS.read (RS.amC x) u (t _ (TL.last rfl ?_)));refine SP.Xc (D:=[]) (h':=(br e).h) y (PF.func (args:= #[.tmp j])) (λH n e0 w G B C=>?_) r (A _);refine⟨e0,qn.refl B,(λp f b=>by cases b),(λp ob b=>by cases b),?_⟩;have:([.tmp j]:o_).map (St.ev ⟨(br e).n,(j,.v (.int .i64 d))::(br e).t,(br e).h⟩)=[.v (.int .i64 d)]:=by
  simp only[awo,axd,St.ev,bO,awG]
 have m:LR (VR (bT H n e0 (br e).h w) (some e0)) (([.tmp j]:o_).map (St.ev ⟨(br e).n,(j,.v (.int .i64 d))::(br e).t,(br e).h⟩)) G:=C;rw[this]at m;exact m
end
noncomputable def tb:Code:=iX f43
noncomputable def tq(i:Nat):Code:=jG (replicate i 1++[0]) tb
noncomputable def tz:Code:=jG [1,1,1,1,1,1,1] tb
def ah5:tb=.seq (tq 0) (.seq (tq 1) (.seq (tq 2) (.seq (tq 3) (.seq (tq 4) (.seq (tq 5) (.seq (tq 6) tz)))))):=ci
def Ty(s:Nat)(c:Code):Prop:=∃(id a b:Nat) (g h:EQ) (p1 p2:String) (d e:dY) (f:jP),c=.region id [⟨some a,.move (.tmp s),g,p1,d,none⟩,⟨some b,.call ⟨.value (.func 107), #[.tmp a],f⟩,h,p2,e,none⟩].toArray false/\a<130/\PE (1000*(b+1)) []=true
def ar5:Ty 8 (tq 2):=⟨_,_,_,_,_,_,_,_,_,_,rfl,d6,rfl⟩
def ar6:Ty 8 (tq 4):=⟨_,_,_,_,_,_,_,_,_,_,rfl,d6,rfl⟩
def ar7:Ty 8 (tq 6):=⟨_,_,_,_,_,_,_,_,_,_,rfl,d6,rfl⟩
def Ty.tc{P:Fd}{dO:IR->St->Prop}{c y:Code}(h:Ty b c)(j:PCX P 107 [] [.v (.int .i64 d)] a)(i:slI e b=some d)(k:e.n=130)(l:∀m,dO (.panic a) m):TC P (.seq c y) (br e) dO:=by
 obtain⟨id,p,q,s,t,p1,p2,n,o,r,rfl,f,g⟩:=h;exact TC.aut rfl j i (by rw[k];exact f) g l
abbrev TA:Type:=Int×bh×lz×Int×Int×Int×Int×bh×Int×Do bm×Int×Int×Int×Int×aX
noncomputable def tE(N:Nat)(x:TA):cY:=⟨130,K0 0 ((lS.c N).as x),(lS.c N).H0 x⟩
noncomputable abbrev tx(N:Nat):=λ(c:Code) (E:cY) (f:cY->tW)=>yF T (XP OC N) N c .z E Int (kGo f)
noncomputable def Mx(N:Nat):TA->tW:=λ(k,h,i,e,f,g,P,d,n,b,l,q,p,m,j)=>
 aW (uo N (n,b,k,h,i,e,f,g,P,d)) λc=>cond (!(decide (c.2.1=0))) (some c.2.1) (
 aW (k9 N (wZ (((c.2.2.2.1.length:Nat):Int)+((c.2.2.2.2.length:Nat):Int)),g,P,d)) λo=>cond (!(decide (o.2.1=0))) (some o.2.1) (
 cond (decide (c.2.2.1=1)) (aW (qN N (n,b,c.2.2.2.1)) λa=>some a.2.1)
  (cond (decide (c.2.2.1=2)) (aW (wL N (n,b,c.2.2.2.1)) λa=>some a.1)
   (cond (decide (c.2.2.1=3)) (aW (CU N (n,b,c.2.2.2.2)) λa=>some a.1) (some o.2.1)))))
def auu N k d f a b g P e n h j o m l i:tx N (tq 0) (tE N (k,d,f,a,b,g,P,e,n,h,j,o,m,l,i)) (λE=>tx N (tq 1) E λE=>slI E 8)=
 aW (uo N (n,h,k,d,f,a,b,g,P,e)) λc=>some c.2.1:=ci
def auv N k e f b d g P a n h j p m l i:tx N (tq 0) (tE N (k,e,f,b,d,g,P,a,n,h,j,p,m,l,i)) (λE=>tx N (tq 1) E λE=>tx N (tq 2) E λE=>tx N (tq 3) E λE=>slI E 8)=
 aW (uo N (n,h,k,e,f,b,d,g,P,a)) λc=>aW (eh N c.2.1) λ_=>
 aW (k9 N (wZ (((c.2.2.2.1.length:Nat):Int)+((c.2.2.2.2.length:Nat):Int)),g,P,a)) λo=>some o.2.1:=ci
def auw N k h i e f g P d n b l q p m j:tx N (tq 0) (tE N (k,h,i,e,f,g,P,d,n,b,l,q,p,m,j)) (λE=>tx N (tq 1) E λE=>tx N (tq 2) E λE=>tx N (tq 3) E λE=>tx N (tq 4) E λE=>tx N (tq 5) E λE=>slI E 8)=
 aW (uo N (n,b,k,h,i,e,f,g,P,d)) λc=>aW (eh N c.2.1) λ_=>
 aW (k9 N (wZ (((c.2.2.2.1.length:Nat):Int)+((c.2.2.2.2.length:Nat):Int)),g,P,d)) λo=>aW (eh N o.2.1) λ_=>
 cond (c.2.2.1=1) (aW (qN N (n,b,c.2.2.2.1)) λa=>some a.2.1)
  (cond (c.2.2.1=2) (aW (wL N (n,b,c.2.2.2.1)) λa=>some a.1)
   (cond (c.2.2.1=3) (aW (CU N (n,b,c.2.2.2.2)) λa=>some a.1) (some o.2.1))):=ci
def Wa{N:Nat}{x:TA}(h:TC Tryz.prog tb (br (tE N x)) λy _=>y=.panic a):PCX Tryz.prog 43 (bF ((lS.c N).H0 x)) (cw ((lS.c N).as x)) a:=by
 refine PCX.intro func43 ci (c:=tb) ci (by show _<=130;rw[show(cw ((lS.c N).as x)).length=3 from rfl];decide) (by show(130:Nat)<=1000000;decide) ?_;have e:(⟨f43.ntmps,vu 0 (cw ((lS.c N).as x)),bF ((lS.c N).H0 x)⟩:St)=br (tE N x):=by
  unfold br tE;simp only[vM];rfl
 rw[e];exact h
def ah6{N:Nat}{x:TA}(h:Mx (N+1) x=some d)(W:d≠0):PCX Tryz.prog 43 (bF ((lS.c (N+1)).H0 x)) (cw ((lS.c (N+1)).as x)) [{v:=o4 d,recovered:=false}]:=by
 refine Wa ?_;obtain⟨k,i,j,e,f,g,P,b,n,l,p,t,r,q,m⟩:=x;have a:=Ej OC (N+1);have B:=ah4 d W;have G:Fp (tq 0)=true:=ci
 have H:Fp (tq 1)=true:=ci
 have M:Fp (tq 2)=true:=ci
 have O:Fp (tq 3)=true:=ci
 have Z:Fp (tq 4)=true:=ci
 have n5:Fp (tq 5)=true:=ci
 have I:=auu (N+1) k i j e f g P b n l p t r q m;have u:=auv (N+1) k i j e f g P b n l p t r q m;have s:=auw (N+1) k i j e f g P b n l p t r q m;have L:eh (N+1) 0=some ():=by rw[ur];rfl
 have S:tx (N+1) (tq 0) (tE (N+1) (k,i,j,e,f,g,P,b,n,l,p,t,r,q,m)) (λE=>tx (N+1) (tq 1) E λE=>slI E 8)=some d->TC Tryz.prog tb (br (tE (N+1) (k,i,j,e,f,g,P,b,n,l,p,t,r,q,m))) λy _=>y=.panic [{v:=o4 d,recovered:=false}]:=λh=>by
  rw[ah5];exact TC.V_ a G h λJ w h=>TC.V_ a H h λK z h=>ar5.tc B h (z.trans w) λ_=>rfl
 have U:tx (N+1) (tq 0) (tE (N+1) (k,i,j,e,f,g,P,b,n,l,p,t,r,q,m)) (λE=>tx (N+1) (tq 1) E λE=>tx (N+1) (tq 2) E λE=>tx (N+1) (tq 3) E λE=>slI E 8)=some d->TC Tryz.prog tb (br (tE (N+1) (k,i,j,e,f,g,P,b,n,l,p,t,r,q,m))) λy _=>y=.panic [{v:=o4 d,recovered:=false}]:=λh=>by
  rw[ah5];exact TC.V_ a G h λJ w h=>TC.V_ a H h λK z h=>TC.V_ a M h λQ D h=>TC.V_ a O h λR F h=>ar6.tc B h (F.trans (D.trans (z.trans w))) λ_=>rfl
 have V:tx (N+1) (tq 0) (tE (N+1) (k,i,j,e,f,g,P,b,n,l,p,t,r,q,m)) (λE=>tx (N+1) (tq 1) E λE=>tx (N+1) (tq 2) E λE=>tx (N+1) (tq 3) E λE=>tx (N+1) (tq 4) E λE=>tx (N+1) (tq 5) E λE=>slI E 8)=some d->TC Tryz.prog tb (br (tE (N+1) (k,i,j,e,f,g,P,b,n,l,p,t,r,q,m))) λy _=>y=.panic [{v:=o4 d,recovered:=false}]:=λh=>by
  rw[ah5];exact TC.V_ a G h λJ w h=>TC.V_ a H h λK z h=>TC.V_ a M h λQ D h=>TC.V_ a O h λR F h=>TC.V_ a Z h λE5 X h=>TC.V_ a n5 h λE6 Y h=>ar7.tc B h (Y.trans (X.trans (F.trans (D.trans (z.trans w))))) λ_=>rfl
 unfold Mx at h;simp only at h;generalize uo (N+1) (n,l,k,i,j,e,f,g,P,b)=oc at h I u s;cases oc with
 |none=>cases h
 |some c=>
  simp only[aW]at h I u s;by_cases A:c.2.1=0
  .rw[A,L]at u s
   rw[A]at h;simp only[axk,awj,av8]at h u s;generalize k9 (N+1) (wZ (((c.2.2.2.1.length:Nat):Int)+((c.2.2.2.2.length:Nat):Int)),g,P,b)=oo at h u s;cases oo with
   |none=>cases h
   |some o=>
    simp only at h u s;by_cases C:o.2.1=0
    .rw[C,L]at s
     rw[C]at h;simp only[axk,awj,av8]at h s;exact V (s.trans h)
    .rw[awz C]at h
     exact U (u.trans h)
  .rw[awz A]at h
   exact S (I.trans h)
def Bs.CX(B:Bs)(l:AJ):Bs:=⟨B.w,B.own,B.ca,B.sv,l⟩
section
variable{P:Fd}{B:Bs}{Rd:bL}{e:Env}{h:Hp}{w:GE}{st:St}{a:Act}
def SR.CX(b:SR B Rd e h w)(l:AJ):SR (B.CX l) Rd e h w:=
 ⟨⟨b.ext.os,b.ext.tape,b.ext.output,b.ext.size,b.ext.block,b.ext.drawn⟩,b.lA,b.ob,b.base,b.inj,b.yz⟩
def SR.Tz{l:AJ}(b:SR (B.CX l) Rd e h w):SR B Rd e h w:=
 ⟨⟨b.ext.os,b.ext.tape,b.ext.output,b.ext.size,b.ext.block,b.ext.drawn⟩,b.lA,b.ob,b.base,b.inj,b.yz⟩
def Ga.CX(b:Ga B Rd e st a w)(l:AJ):Ga (B.CX l) Rd e st {a with defers:=l} w:=
 ⟨b.n,rfl,b.sr.CX l,b.tr⟩
def adn{id d:Nat}{I s:EQ}{p1 p2:String}{t o:dY}{b:gV}{r:jP}{l:bq}{Q:IR->Act->GE->Prop}
 (D:l=[⟨some d,.makeFunc (.func i) #[] b,I,p1,t,none⟩,⟨none,.defer ⟨.value (.tmp d), #[],r⟩,s,p2,o,none⟩]) (k:Ga B Rd e st a w) (p:d<st.n)
 (F:∀m:Act,Ga (B.CX ({target:=.fn (.func i) (b.map a.eval),args:= #[]}::B.df)) Rd e ⟨st.n,(d,.cl (.func i) [] (b.toList.map st.ev))::st.t,st.h⟩ m w->Q .normal m w):(Code.region id l.toArray false).wp P Q a w:=by
 subst D;refine wp_region_lit (ayZ λJ z=>?_);rw[av3 (by simp[Region.wanted])];have H:VR (bT B Rd e st.h w) (some e) (.cl (.func i) [] (b.toList.map st.ev)) (.func (.func i) #[] (b.map a.eval)):=by
  have f:=k.args b;have:=VR.cl (Rd:=bT B Rd e st.h w) (E:=some e) (fn:=.func i) (fs:=[]) [] _ rfl f.1 (λj c u C=>by cases C) f.2;have x:(b.toList.map a.eval).toArray=b.map a.eval:=by rw[<-axP]
  rw[x]at this;exact this
 refine eO (v:=.func (.func i) #[] (b.map a.eval)) (w':=w) (by simp[execOp,Instr.makeFunc]) (z _ _ ?_);have g:=k.put p H;have q:(a.put (some d) (.func (.func i) #[] (b.map a.eval))).eval (.tmp d)=.func (.func i) #[] (b.map a.eval):=by
  have y:d<a.tmps.size:=by rw[k.n.1];exact p
  simp[Act.eval,Act.put,y]
 generalize a.put (some d) (.func (.func i) #[] (b.map a.eval))=n at g q;refine ayZ λK A=>?_;rw[av3 (by simp[Region.wanted])];have G:(execOp n.eval ⟨none,.defer ⟨.value (.tmp d), #[],r⟩,s,p2,o,none⟩).run P w=.ok (.defer {target:=.fn (.func i) (b.map a.eval),args:= #[]}) w:=by
  simp[execOp,resolve,q,Deferred.ofValue]
 unfold Oper.wp;rw[G];refine A _ _ (F _ ?_);have f:=g.CX ({target:=.fn (.func i) (b.map a.eval),args:= #[]}::n.defers);rw[g.d]at f⊢;exact f
end
noncomputable def pb:Code:=iX f8
noncomputable def pq(i:a_):Code:=jG i pb
def ar8:pb=.seq (pq [0]) (.seq (pq [1,0]) (.seq (pq [1,1,0]) (.seq (pq [1,1,1,0]) (.seq (pq [1,1,1,1,0]) (pq [1,1,1,1,1]))))):=ci
def ao0(c:Code):Prop:=∃(id:Nat) (g i:EQ) (p1 p2:String) (b d:dY) (f:jP),c=.region id [⟨some 14,.makeFunc (.func 42) #[] #[.tmp 3,.tmp 6,.tmp 7],g,p1,b,none⟩,⟨none,.defer ⟨.value (.tmp 14), #[],f⟩,i,p2,d,none⟩].toArray false
def alj:ao0 (pq [1,1,0]):=⟨_,_,_,_,_,_,_,_,rfl⟩
noncomputable def gb:Code:=iX f42
noncomputable def gq(i:a_):Code:=jG i gb
def ao1(c:Code):Prop:=∃(id:Nat) (f g:EQ) (p1 p2:String) (a b:dY) (e:jP),c=.region id [⟨some 6,.call ⟨.builtin .recover, #[],e⟩,f,p1,a,none⟩,⟨some 3,.assign (.tmp 6),g,p2,b,none⟩].toArray false
def ar9:ao1 (gq [0]):=⟨_,_,_,_,_,_,_,_,rfl⟩
noncomputable def asL:bq:=match gq [1,0]with
 |.region _ a _=>a.toList.drop 2
 |_=>[]
section
variable{P:Fd}{st:St}{d:jQ}{ty:EQ}{pos:String}{af:dY}{gd:gg}
def RS.assert{x:If}{v:Id}{c:AV}(l:∃m,P.underlying h=some (.struct m))(o:st.ev x=.v (.iface h v))(n:∀Rd E,VR Rd E c v):RS P ⟨d,.typeAssert x g h true,ty,pos,af,gd⟩ st (.tu [c,.v (.bool true)]):=λs p e a w b=>by
 obtain⟨m,l⟩:=l;have i:=b.ev x;rw[o]at i;have i:=i.bS;refine⟨.tuple #[v,.bool true],?_,λr _=>?_⟩
 .exact .tu [v,.bool true] rfl λj q u f k=>by
   match j with
   |0=>simp at f k;subst f;subst k;exact n _ _
   |1=>simp at f k;subst f;subst k;exact .v
   |j+2=>simp at f
 .simp[execOp,i,Instr.typeAssert,aww l]
def alk(h:ao1 c){Q:IR->Act->Do Frame->GE->Prop}{a:Act}{w:GE}{b:Frame}{e:Do Frame}{v:Id}(j:b.mode=.panicking [{v:=v,recovered:=false}])(m:6<a.tmps.size)
 (k:Q .normal ((a.put (some 6) v).put (some 3) v) ({b with mode:=.panicking [{v:=v,recovered:=true}]}::e) w):c.wpS P Q a (b::e) w:=by
 obtain⟨id,q,r,p1,p2,f,g,p,rfl⟩:=h;refine wpS_region ?_;have i:(a.put (some 6) v).eval (.tmp 6)=v:=by simp[Act.eval,Act.put,m]
 have n:(execOp a.eval ⟨some 6,.call ⟨.builtin .recover, #[],p⟩,q,p1,f,none⟩).run P w=.ok .recover w:=by simp[execOp,resolve,invoke,builtin]
 have o:(execOp (a.put (some 6) v).eval ⟨some 3,.assign (.tmp 6),r,p2,g,none⟩).run P w=.ok (.value v) w:=by simp[execOp,i]
 have l:recoverD (b::e)=some (v,{b with mode:=.panicking [{v:=v,recovered:=true}]}::e):=by simp[recoverD,j]
 show wpOpsS P _ Q [0,1] a (b::e) w;simp only[wpOpsS,axD,azz,axK,Region.wanted,n,o,l,awG,Oper.upon_value];exact k
end
section
variable{P:Fd}
def DCX(P:Fd)(f:FuncId)(a:Hp)(c:Do AV)(u g:FrameMode)(K:Hp->Prop):Prop:=
 ∀B Rd e w b,SR B Rd e a w->LR (VR (bT B Rd e a w) (some e)) c b->CallsD P f b.toArray u w λx h i=>(∃v,x=.returned v)/\h=g/\∃d H,K H/\SR B Rd d H i
def Ga.enter{fn:Func}{B:Bs}{Rd:bL}{e:Env}{w:GE}{H0:Hp}{av:Do AV}{vs:bI}(k:B.df=[])(n:av.length<=fn.ntmps)(j:fn.ntmps<=1000000)(m:SR B Rd e H0 w)(c:LR (VR (bT B Rd e H0 w) (some e)) av vs):
 Ga B Rd e ⟨fn.ntmps,vu 0 av,H0⟩ {tmps:=vs.toArray++Array.replicate (fn.ntmps - vs.toArray.size) undef,defers:=[]} w:=by
 refine⟨⟨by simp[c.1];omega,j⟩,by rw[k],m,λi=>?_⟩;rw[AS];simp only[awy,awG,ay1];by_cases b:i<av.length
 .have d:av[i]? =some av[i]:=awf b
  obtain⟨u,g,l⟩:=c.get d;have a:av.getD i .un=av[i]:=by simp[List.getD,d]
  have h:(vs.toArray++Array.replicate (fn.ntmps - vs.toArray.size) undef).getD i undef=u:=by
   have f:i<vs.length:=by rw[c.1];exact b
   simp[axm,ay2,f];rw[awf f]at g;simpa using g
  rw[a,h];exact l
 .have a:av.getD i .un=.un:=by simp[List.getD,awO (ayD b)]
  rw[a];exact .un
def DCX.rec{fn:Func}{c0 c1:Code}{g:Hp}{a:Do AV}{v:Id}{K:Hp->Prop}(z:P.funcs[i]? =some fn)(u:fn.body=some (.seq c0 c1))(t:ao1 c0)(E:a.length<=fn.ntmps)(y:fn.ntmps<=1000000)(n:6<fn.ntmps)(F:fn.results.toList=[])
 (h:TC P c1 ⟨fn.ntmps,(3,.v v)::(6,.v v)::vu 0 a,g⟩ λx r=>(x=.normal\/x=.ret)/\K r.h):DCX P i g a (.panicking [{v:=v,recovered:=false}]) (.panicking [{v:=v,recovered:=true}]) K:=by
 intro B Rd e w I G q;refine callsD_of_wpS z u λc J H=>wpS_seq (alk t H (by simp[q.1];omega) ?_);have A:=Ga.enter (fn:=fn) (B:=B.CX []) (H0:=g) (av:=a) (vs:=I) rfl E y (G.CX []) q;have C:=A.put (d:=6) (c:=.v v) n .v;have D:=C.put (d:=3) (c:=.v v) (Nat.lt_trans d6 n) .v;refine wpS_of_wp (h _ _ _ _ _ _ D λx r k m l s j=>?_);have p:l.defers=[]:=j.d;have b:∃f,(results fn l.tmps).run P s=.ok f s:=by
  refine⟨.tuple #[],?_⟩;have:fn.results= #[]:=by simpa using F
  simp[results,this]
 obtain⟨f,b⟩:=b;obtain⟨k,o⟩:=k;rcases k with rfl|rfl
 .exact⟨p,_,rfl,f,b,⟨_,rfl⟩,rfl,m,_,o,j.sr.Tz⟩
 .exact⟨p,_,rfl,f,b,⟨_,rfl⟩,rfl,m,_,o,j.sr.Tz⟩
end
section
noncomputable def asO:bq:=match gq [1,0]with
 |.region _ a _=>a.toList
 |_=>[]
def auz:∃id,gq [1,0]=.region id asO.toArray false:=⟨_,rfl⟩
def ao2:∃(c d:EQ) (p1 p2:String) (a b:dY) (e:EQ),asO=⟨some 8,.move (.tmp 3),c,p1,a,none⟩::⟨some 9,.typeAssert (.tmp 8) e 124 true,d,p2,b,none⟩::asL:=⟨_,_,_,_,_,_,_,rfl⟩
noncomputable def gAv:Do EV:=[.pt 4294967296 0,.pt 4294967297 0,.pt 4294967298 0]
noncomputable def gS(n:Int)(c:Do bm)(a b:Int):Do EV:=[.sc j1 n,.sc kB c,.sc j1 a,.sc j1 b]
noncomputable def gH(n:Int)(c:Do bm)(a b:Int)(d e:Do EV):fv:=[(4294967296,some (.box 34 (gS n c a b))),(4294967297,some (.box 34 d)),(4294967298,some (.box 42 e))]
noncomputable def gE(e n:Int)(c:Do bm)(a b:Int)(d f:Do EV):cY:=⟨20,(9,.tu [.ag [.sc j1 e],.sc .b true])::(8,.v (o4 e))::(3,.v (o4 e))::(6,.v (o4 e))::K0 0 gAv,gH n c a b d f⟩
abbrev GR2:Type:=At eD×At eD
noncomputable def gK:IR->cY->At GR2
 |.normal,E=>some (bH E.h 4294967297,bH E.h 4294967298)
 |.ret,E=>some (bH E.h 4294967297,bH E.h 4294967298)
 |_,_=>none
noncomputable def zS:Do EV:=[.sc j1 0,.nil,.sc j1 0,.sc j1 0]
noncomputable def zR:Do EV:=[.sc j1 0,.sc j1 0,.nil]
def ar_ e n c a b:Gt T [] asO asL (gE e n c a b zS zR) (λE=>yF T [] 0 (gq [1,1]) .z E GR2 gK)=
 some (some (.box 34 (gS n c a b)),some (.box 42 [.sc j1 e,.sc j1 0,.nil])):=ci
def ah7(e n:Int)(c:Do bm)(a b:Int)(H:Hp):Prop:=
 bc H 4294967297=some (cA (.box 34 (gS n c a b)))/\bc H 4294967298=some (cA (.box 42 [.sc j1 e,.sc j1 0,.nil]))
def ado(e n:Int)(g:Do bm)(b f:Int):DCX Tryz.prog 42 (bF (gH n g b f zS zR)) (cw gAv) (.panicking [{v:=o4 e,recovered:=false}]) (.panicking [{v:=o4 e,recovered:=true}]) (ah7 e n g b f):=by
 refine DCX.rec (fn:=f42) (c0:=gq [0]) (c1:=.seq (gq [1,0]) (gq [1,1])) func42 ci ar9 (by show _<=20;rw[show(cw gAv).length=3 from rfl];decide) (by show(20:Nat)<=1000000;decide) (by show 6<20;decide) rfl ?_;obtain⟨id,hid⟩:=auz;rw[hid];refine TC.seq (TC.region ?_)
 suffices H:∀l,l=asO->TL Tryz.prog asO.toArray l ⟨20,(3,.v (o4 e))::(6,.v (o4 e))::vu 0 (cw gAv),bF (gH n g b f zS zR)⟩ (P0 (λh=>TC Tryz.prog (gq [1,1]) h λx h=>(x=.normal\/x=.ret)/\ah7 e n g b f h.h) λx h=>(x=.normal\/x=.ret)/\ah7 e n g b f h.h)from H _ rfl
 intro l r;obtain⟨P,R,p1,p2,M,N,S,B⟩:=ao2;rw[B]at r;subst r;have t:Place Tryz.prog T []:=Ej [] 0;refine TL.cons λz m=>GS.plain rfl (SS.read (RS.amC (c:=.v (o4 e)) rfl) (by show 8<20;decide) (m _ ?_));refine TL.cons λz m=>GS.plain rfl (SS.read (RS.assert (v:=.agg #[.int .i64 e]) (c:=.ag [.v (.int .i64 e)]) (by exact⟨_,rfl⟩) rfl λRd E=>.ag [.int .i64 e] rfl λj c u o y=>?_) (by show 9<20;decide) (m _ ?_))
 .match j with
  |0=>simp at o y;subst o;subst y;exact .v
  |j+1=>simp at o
 have C:(⟨20,(9,.tu [.ag [.v (.int .i64 e)],.v (.bool true)])::(8,.v (o4 e))::(3,.v (o4 e))::(6,.v (o4 e))::vu 0 (cw gAv),bF (gH n g b f zS zR)⟩:St)=br (gE e n g b f zS zR):=by
  unfold br gE;simp only[vM,hP,awo];rfl
 have q:=VD t (ar_ e n g b f);refine TL.of ?_;have J:AL Tryz.prog asO.toArray asL ⟨20,(9,.tu [.ag [.v (.int .i64 e)],.v (.bool true)])::(8,.v (o4 e))::(3,.v (o4 e))::(6,.v (o4 e))::vu 0 (cw gAv),bF (gH n g b f zS zR)⟩ _:=C▸q;intro K A e0 a w Q D G;refine J K A e0 a w Q D λh I=>G h ?_;obtain⟨L,rfl,F⟩:=I;refine(TC.ex t ci F).mono λx s q=>?_;obtain⟨k,rfl,_,d⟩:=q;have p:bH k.h 4294967297=some (.box 34 (gS n g b f))/\bH k.h 4294967298=some (.box 42 [.sc j1 e,.sc j1 0,.nil])/\(x=.normal\/x=.ret):=by
  cases x with
  |normal=>simp only[gK,av6,awn]at d;exact⟨d.1,d.2,.inl rfl⟩
  |ret=>simp only[gK,av6,awn]at d;exact⟨d.1,d.2,.inr rfl⟩
  |_=>cases d
 refine⟨p.2.2,?_,?_⟩
 .show bc (bF k.h) _=_
  rw[dw,p.1];rfl
 .show bc (bF k.h) _=_
  rw[dw,p.2.1];rfl
