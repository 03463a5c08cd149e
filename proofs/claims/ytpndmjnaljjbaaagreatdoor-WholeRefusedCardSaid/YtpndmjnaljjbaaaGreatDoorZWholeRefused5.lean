/- part 5 -/
import Derived.Test.YtpndmjnaljjbaaaGreatDoorZWholeRefused4
set_option linter.all false
noncomputable section
open Go Go.RowKit
open IntKind (wrap)
set_option maxRecDepth 100000
open Go.Proofs.Tryz
open List (length replicate)
namespace Go.Proofs.YtpndmjnaljjbaaaGreatDoor
abbrev j1:Sc:=.i .i64
abbrev j2:Sc:=.i .u32
abbrev j3:Sc:=.sl .b
abbrev j4:Sc:=.i .u64
abbrev j5:Sc:=.pr j1 j1
abbrev j6:Sc:=.sl j1
abbrev j7:Sc:=.pr j1 .b
abbrev j8:Sc:=.sl j2
abbrev j9:Sc:=.pr j1 j7
abbrev fH:Sc:=.sl j6
abbrev j11:Sc:=.pr j1 j5
abbrev hS:Sc:=.sl j5
abbrev j13:Sc:=.pr j5 j1
abbrev ta:Sc:=.pr j1 j9
abbrev j15:Sc:=.pr j1 j11
abbrev Ha:Sc:=.sl j11
abbrev j18:Sc:=.pr .b j13
abbrev iU:Sc:=.sl ta
abbrev pS:Sc:=.sl j15
abbrev j21:Sc:=.pr .b j18
abbrev j22:Sc:=.sl iU
abbrev A1:Type:=bj
abbrev A2:Type:=Int×(Int×In)
abbrev A3:Type:=bO
abbrev A4:Type:=Int×(Int×Int)
abbrev A5:Type:=Iw
abbrev A6:Type:=Int×aX
abbrev A7:Type:=Int×Int×aX
abbrev A8:Type:=In×((Int×Int)×Int)
abbrev A9:Type:=In×aX
abbrev fB:Type:=Do (Int×A2)
abbrev oR:Type:=Do (Int×A4)
abbrev A12:Type:=Int×Int×A3
abbrev A13:Type:=Do (In×A8)
abbrev A14:Type:=Int×oR×Int×bh×A3×In×Int×Int×fB
def yF:Do CO:=[]
def ao3:Do PV:=[.h j1]
def yG:FD:=cw 134 f134 .z ao3 [] (bg lc []) false true []
def Ss:Nat->Int->dj:=mF yF yG
def aoe:CO:=cF yF yG Ss func134
def ag8 N n:Ss (N+1) n=cond (1<=n)
 (some (decide (n<=64)))
 (some false):=ci
def h_:Do CO:=[]
def z9:Nat×PV:=(2,.h j1)
def avk:Do (Nat×PV):=[(0,.h j4),z9]
def Y2:PS:=bg avk []
def Y3:Do (IR×PS):=[(.normal,bg avk [])]
def Y4:Pl:=.z
def Y5:Nat->Nat->Int×Int->FM:=jnF h_ f210 [1,1,0] Y2 Y3 Y4
def Y6:PS:=bg avk []
def Y7:Do (IR×PS):=[(.normal,bg avk [])]
def Y8:Pl:=.z
def Y9:Nat->Nat->Int×Int->FM:=jnF h_ f210 [1,0] Y6 Y7 Y8
def oS:FD:=cw 210 f210 (.n .z (.n (.join Y6 Y7 Y8) (.n (.join Y2 Y3 Y4) .z))) [.h j4] [] (bg [z9] []) false true []
def Y_:Nat->Int->eF:=mF h_ oS
def asr:CO:=cF h_ oS Y_ func210
def adB N m x n:Y5 N (m+1) (x,n)=cond (65536<=x)
 (some ((Int.fdiv x ((2:Int)^(min (Int.toNat 16) 64))),(wZ (n+16))))
 (some (x,n)):=ci
def adC N m x n:Y9 N (m+1) (x,n)=cond (4294967296<=x)
 (some ((Int.fdiv x ((2:Int)^(min (Int.toNat 32) 64))),32))
 (some (x,n)):=ci
def ag9 N x:Y_ (N+1) x=aW (Y9 N N (x,0)) λb=>
 aW (Y5 N N (b.1,b.2)) λa=>
 cond (256<=a.1)
  (aW (alK ⟨#[0,1,2,2,3,3,3,3,4,4,4,4,4,4,4,4,5,5,5,5,5,5,5,5,5,5,5,5,5,5,5,5,6,6,6,6,6,6,6,6,6,6,6,6,6,6,6,6,6,6,6,6,6,6,6,6,6,6,6,6,6,6,6,6,7,7,7,7,7,7,7,7,7,7,7,7,7,7,7,7,7,7,7,7,7,7,7,7,7,7,7,7,7,7,7,7,7,7,7,7,7,7,7,7,7,7,7,7,7,7,7,7,7,7,7,7,7,7,7,7,7,7,7,7,7,7,7,7,8,8,8,8,8,8,8,8,8,8,8,8,8,8,8,8,8,8,8,8,8,8,8,8,8,8,8,8,8,8,8,8,8,8,8,8,8,8,8,8,8,8,8,8,8,8,8,8,8,8,8,8,8,8,8,8,8,8,8,8,8,8,8,8,8,8,8,8,8,8,8,8,8,8,8,8,8,8,8,8,8,8,8,8,8,8,8,8,8,8,8,8,8,8,8,8,8,8,8,8,8,8,8,8,8,8,8,8,8,8,8,8,8,8,8,8,8,8,8,8,8,8,8,8,8,8,8,8]⟩ (wrap .u8 (Int.fdiv a.1 ((2:Int)^(min (Int.toNat 8) 64))))) λc=>
  some (wZ ((wZ (a.2+8))+(wZ c))))
  (aW (alK ⟨#[0,1,2,2,3,3,3,3,4,4,4,4,4,4,4,4,5,5,5,5,5,5,5,5,5,5,5,5,5,5,5,5,6,6,6,6,6,6,6,6,6,6,6,6,6,6,6,6,6,6,6,6,6,6,6,6,6,6,6,6,6,6,6,6,7,7,7,7,7,7,7,7,7,7,7,7,7,7,7,7,7,7,7,7,7,7,7,7,7,7,7,7,7,7,7,7,7,7,7,7,7,7,7,7,7,7,7,7,7,7,7,7,7,7,7,7,7,7,7,7,7,7,7,7,7,7,7,7,8,8,8,8,8,8,8,8,8,8,8,8,8,8,8,8,8,8,8,8,8,8,8,8,8,8,8,8,8,8,8,8,8,8,8,8,8,8,8,8,8,8,8,8,8,8,8,8,8,8,8,8,8,8,8,8,8,8,8,8,8,8,8,8,8,8,8,8,8,8,8,8,8,8,8,8,8,8,8,8,8,8,8,8,8,8,8,8,8,8,8,8,8,8,8,8,8,8,8,8,8,8,8,8,8,8,8,8,8,8,8,8,8,8,8,8,8,8,8,8,8,8,8,8,8,8,8,8]⟩ (wrap .u8 a.1)) λd=>
  some (wZ (a.2+(wZ d)))):=ci
def te:Do CO:=[asr]
def tf:FD:=cw 154 f154 .z [.h j4] [] (bg [z9] []) false true []
def ag_:Nat->Int->eF:=mF te tf
def ass:CO:=cF te tf ag_ func154
def aha N x:ag_ (N+1) x=aW (Y_ N x) λa=>
 some a:=ci
def F2:Do CO:=[aoe,ass]
def F3:FD:=cw 135 f135 .z ao3 [] (bg [z9] []) false true []
def Ju:Nat->Int->eF:=mF F2 F3
def ahb:CO:=cF F2 F3 Ju func135
def adD N n:Ju (N+1) n=aW (Ss N n) λa=>
 cond (!a)
  (some 0)
  (aW (ag_ N (wrap .u64 (wZ (n - 1)))) λb=>
  some b):=ci
def tg:Do CO:=[⟨fO,fP⟩,⟨mU,mv⟩]
def v9:Do PV:=[.h j1,.h j1,.h j1,.h .b]
def ls:Nat×PV:=(4,.h j1)
def th:FD:=cw 136 f136 .z [.ag v9,.ag v9] [] (bg [ls] []) false true []
def Jv:Nat->Int×Int×Int×In×Int×Int×Int×In->eF:=mF tg th
def aof:CO:=cF tg th Jv func136
def ahc N a c e f b d g h:Jv (N+1) (a,c,e,f,b,d,g,h)=aW (cO N (a,b)) λi=>
 aW (cO N (c,d)) λj=>
 aW (gR N [i,j]) λk=>
 some k:=ci
def pT:Do CO:=[]
def ali:Nat×PV:=(1,.h j1)
def rt:Nat×PV:=(5,.k (.ow 900))
def LT:Nat×PV:=(10,.h j1)
def afc:Nat×PV:=(11,.h j1)
def m8:Nat×PO:=(900,.arr 51 j5 true)
def Za:PS:=bg [ali,rt,(9,.h iU),LT,afc] [m8]
def Zb:Do (IR×PS):=[((.exit 0),bg [rt] [m8])]
def Zc:Pl:=.z
def xQ:Nat->Nat->Int×fB×Int×Int×A1->At (A1):=eZ pT f66 [1,1,0,1,0,0] Za Zb Zc
def ii:Do PV:=[.h j1,.h iU]
def ld:Nat×PV:=(4,.k (.ow 900))
def yH:FD:=cw 66 f66 (.n .z (.n .z (.n (.n .z (.n (.loop Za Zb Zc) .z)) .z))) [.ag ii,.h j1] [] (bg [ld] [m8]) true true [900]
def Su:Nat->Int×fB×Int->At (A1):=mF pT yH
def aog:CO:=cF pT yH Su func66
def xR N m b d c a l:xQ N (m+1) (b,d,c,a,l)=cond (a<c)
 (aW (aZ d a) λe=>
 cond e.2.2.2
  (cond (b<=e.2.2.1)
   (aW (er 16 l [(e.1,e.2.1)]) λf=>
   (xQ N m (b,d,c,(wZ (a+1)),f)))
   ((xQ N m (b,d,c,(wZ (a+1)),l))))
  ((xQ N m (b,d,c,(wZ (a+1)),l))))
 (some l):=ci
def ahd N g a b:Su (N+1) (g,a,b)=aW (xQ N N (b,a,(length a:Int),0,[])) λc=>
 some c:=ci
def Bt:Do CO:=[]
def Bu:FD:=cw 101 f101 .z ao3 [] (bg lc []) false true []
def Al:Nat->Int->dj:=mF Bt Bu
def O4:CO:=cF Bt Bu Al func101
def adE N n:Al (N+1) n=cond (1<=n)
 (some (decide (n<=64)))
 (some false):=ci
def vJ:Do CO:=[O4]
def i8:Nat×PV:=(2,.k (.pt 900 0))
def SW:Nat×PV:=(4,.k (.pt 901 0))
def arw:Nat×PV:=(13,.h j1)
def v0:Do PV:=[.h j1,.k .nil]
def afv:Nat×PO:=(902,.arr 38 j6 true)
def arp:Do (Nat×PO):=[(900,.box 83 v0),(901,.box 83 [.h j1,.k (.ow 902)]),afv]
def Sv:PS:=bg [i8,SW,(12,.h j1),arw] arp
def Sw:Do (IR×PS):=[((.exit 0),bg [i8,SW] arp)]
def Sx:Pl:=.z
def Bv:Nat->Nat->Int×Int×Int×Int×A3->At A12:=eZ vJ f137 [1,1,1,0,1,0,0] Sv Sw Sx
def So:Nat×PV:=(3,.h j1)
def i6:Do PV:=[.h j1,.h fH]
def m9:Nat×PO:=(900,.box 83 i6)
def F4:FD:=cw 137 f137 (.n .z (.n .z (.n .z (.n (.n .z (.n (.loop Sv Sw Sx) .z)) .z)))) ao3 [] (bg [i8,So] [m9]) false false []
def O5:Nat->Int->At A12:=mF vJ F4
def apM:CO:=cF vJ F4 O5 func137
def Jw N m b a c f d:Bv N (m+1) (b,a,c,f,d)=cond (a<b)
 (aW (er 24 d [[a]]) λe=>
 (Bv N m (b,(wZ (a+1)),c,f,e)))
 (some (c,f,d)):=ci
def adF N n:O5 (N+1) n=aW (Al N n) λb=>
 cond (!b)
  (some (1,0,[]))
  (aW (Bv N N (n,0,0,n,[])) λa=>
  some (0,a.2.1,a.2.2)):=ci
def pU:Do CO:=[]
def WF:Nat×PV:=(3,.k (.ow 900))
def LE:Nat×PV:=(7,.h j1)
def v4:Nat×PV:=(8,.h j1)
def gt:Nat×PO:=(900,.arr 3 j1 true)
def Zd:PS:=bg [WF,(6,.h hS),LE,v4] [gt]
def Ze:Do (IR×PS):=[((.exit 0),bg [WF] [gt])]
def Zf:Pl:=.z
def HJ:Nat->Nat->A1×Int×Int×aX->mR:=eZ pU f229 [1,1,0,1,0,0] Zd Ze Zf
def pm:Do (Nat×PV):=[(2,.k (.ow 900))]
def yI:FD:=cw 229 f229 (.n .z (.n .z (.n (.n .z (.n (.loop Zd Ze Zf) .z)) .z))) [.h hS] [] (bg pm [gt]) true true [900]
def Zg:Nat->A1->mR:=mF pU yI
def ast:CO:=cF pU yI Zg func229
def MP N m c d a b:HJ N (m+1) (c,d,a,b)=cond (a<d)
 (aW (aZ c a) λe=>
 aW (er 8 b [e.1,e.2]) λf=>
 (HJ N m (c,d,(wZ (a+1)),f)))
 (some b):=ci
def ahe N l:Zg (N+1) l=aW (HJ N N (l,(length l:Int),0,[])) λa=>
 some a:=ci
def vK:Do CO:=[]
def vL:FD:=cw 174 f174 .z ao3 [] (bg lc []) false true []
def Zh:Nat->Int->dj:=mF vK vL
def asu:CO:=cF vK vL Zh func174
def ahf N t:Zh (N+1) t=cond (t<0)
 (some true)
 (some (decide (10000<t))):=ci
def dA:Do CO:=[asu]
def amy:Nat×PV:=(0,.h j6)
def Zi:PS:=bg [amy,(1,.k (.v (.func (.func 174) #[] #[]))),LE,v4] []
def Zj:Do (IR×PS):=[((.exit 0),bg [] []),(.ret,bg [ls] [])]
def Zk:Pl:=.z
def HK:Nat->Nat->aX×Int×Int->At ((Unit)⊕(Int)):=eZ dA f128 [1,0,1,0,0] Zi Zj Zk
def ask:Do PV:=[.h j6,.k (.v (.func (.func 174) #[] #[]))]
def eQ:FD:=cw 128 f128 (.n .z (.n (.n .z (.n (.loop Zi Zj Zk) .z)) .z)) ask [] (bg [ls] []) false true []
def ahg:Nat->aX->eF:=mF dA eQ
def asv:CO:=cF dA eQ ahg aAt
def MQ N m s b a:HK N (m+1) (s,b,a)=cond (a<b)
 (aW (aZ s a) λc=>
 aW (Zh N c) λd=>
 cond d
  (some (.inr a))
  ((HK N m (s,b,(wZ (a+1))))))
 (some (.inl ())):=ci
def ahh N s:ahg (N+1) s=aW (HK N N (s,(length s:Int),0)) λa=>
 (match a with
 |.inl c=>some (-1)
 |.inr b=>some b):=ci
def eH:Do CO:=[asv]
def n7:Do (Nat×PV):=[(4,.h .b)]
def eI:FD:=cw 58 f58 .z ask [] (bg n7 []) false true []
def Zl:Nat->aX->dj:=mF eH eI
def asw:CO:=cF eH eI Zl aAT
def ahi N s:Zl (N+1) s=aW (ahg N s) λa=>
 some (decide (0<=a)):=ci
def mw:Do CO:=[]
def av8:Nat×PV:=(3,.k (.mp 900))
def alj:Nat×PV:=(9,.h j1)
def Zm:PS:=bg [amy,av8,(7,.h j6),v4,alj] [(900,.mp (.int .i64) j1 j1)]
def Zn:Do (IR×PS):=[((.exit 0),bg [amy,av8] [(900,.mp (.int .i64) j1 j1)])]
def Zo:Pl:=.z
def HL:Nat->Nat->aX×aX×Int×Int×A1->At (aX×A1):=eZ mw f175 [1,1,0,1,0,0] Zm Zn Zo
def au4:Do PV:=[.h j6]
def ti:FD:=cw 175 f175 (.n .z (.n .z (.n (.n .z (.n (.loop Zm Zn Zo) .z)) .z))) au4 [] (bg lc []) false true []
def Zp:Nat->aX->dj:=mF mw ti
def asx:CO:=cF mw ti Zp func175
def MS N m l c d b a:HL N (m+1) (l,c,d,b,a)=cond (b<d)
 (aW (aZ c b) λe=>
 (HL N m (l,c,d,(wZ (b+1)),(dO j1 a e (wZ ((Option.getD (bL j1 a e) 0)+1))))))
 (some (l,a)):=ci
def ahj N l:Zp (N+1) l=aW (HL N N (l,l,(length l:Int),0,[])) λa=>
 some (decide ((length a.2:Int)=(length a.1:Int))):=ci
def Bw:Do CO:=[asw,asx]
def By:FD:=cw 102 f102 .z au4 [] (bg lc []) false true []
def EK:Nat->aX->dj:=mF Bw By
def W9:CO:=cF Bw By EK func102
def adG N l:EK (N+1) l=cond (1000<(length l:Int))
 (some false)
 (aW (Zl N l) λa=>
 cond (!a)
  (aW (Zp N l) λb=>
  some b)
  (some false)):=ci
def hZ:Do CO:=[]
def Zq:PS:=bg [amy,So,ls] []
def Zr:Do (IR×PS):=[((.exit 0),bg [So] [])]
def Zs:Pl:=.z
def HM:Nat->Nat->aX×Int×Int->eF:=eZ hZ f103 [1,1,1,0,1,0,0] Zq Zr Zs
def k9:FD:=cw 103 f103 (.n .z (.n .z (.n .z (.n (.n .z (.n (.loop Zq Zr Zs) .z)) .z)))) au4 [] (bg [z9] []) false true []
def Sy:Nat->aX->eF:=mF hZ k9
def aoh:CO:=cF hZ k9 Sy func103
def MT N m x a i:HM N (m+1) (x,a,i)=cond (i<(length x:Int))
 (aW (aZ x i) λb=>
 (HM N m (x,(if(b<a)then b else a),(wZ (i+1)))))
 (some a):=ci
def ahk N x:Sy (N+1) x=cond ((length x:Int)<1)
 none
 (aW (aZ x 0) λa=>
 aW (HM N N (x,a,1)) λb=>
 some b):=ci
def MU:Do CO:=[O4]
def acc:Do PV:=[.h j1,.h j1]
def MV:FD:=cw 140 f140 .z acc [] (bg n7 []) false true []
def pV:Nat->Int×Int->dj:=mF MU MV
def O6:CO:=cF MU MV pV func140
def adH N n v:pV (N+1) (n,v)=aW (Al N n) λa=>
 cond a
  (cond (0<=v)
   (some (decide (v<n)))
   (some false))
  (some false):=ci
def Bz:Do CO:=[O4]
def to:Nat×PV:=(5,.h j1)
def ava:Nat×PV:=(6,.h .b)
def auf:Nat×PV:=(7,.h .b)
def BA:FD:=cw 176 f176 .z acc [] (bg [ls,to,ava,auf] []) false true []
def O7:Nat->Int×Int->At (Int×Int×In×In):=mF Bz BA
def apN:CO:=cF Bz BA O7 func176
def adI N n a:O7 (N+1) (n,a)=aW (Al N n) λd=>
 cond (!d)
  (some (0,0,false,false))
  (cond (a<0)
   (some (0,0,false,false))
   (cond ((wZ (n*(wZ (n+1))))<=a)
    (some (0,0,false,false))
    (cond (a<n)
     (some (a,0,false,true))
     (aW (IX a n) λb=>
     aW (LS a n) λc=>
     cond ((wZ ((wZ b) - 1))=c)
      (some (0,0,false,false))
      (some ((wZ ((wZ b) - 1)),c,true,true)))))):=ci
def jQ:Do CO:=[]
def aff:Do PV:=[.k (.pt 4294967296 0),.h j1,.h j1]
def jR:FD:=cw 177 f177 .z aff [(4294967296,.box 270 [.k (.ow 4294967297),.k (.mp 4294967298),.k (.mp 4294967299)]),(4294967297,.arr 3 j1 true),(4294967298,.mp (.int .i64) j1 j1),(4294967299,.mp (.int .i64) j1 j1)] (bg [ava] [(4294967298,.mp (.int .i64) j1 j1),(4294967299,.mp (.int .i64) j1 j1),(4294967296,.box 270 [.k (.ow 900),.k (.mp 4294967298),.k (.mp 4294967299)]),gt]) true true [4294967298,4294967299,4294967296,900]
def Zt:Nat->Int×Int×aX×A1×A1->At (In×A1×A1×aX):=mF jQ jR
def asy:CO:=cF jQ jR Zt func177
def ahl N u v h a b:Zt (N+1) (u,v,h,a,b)=aW (aZ h (wZ ((length h:Int) - 1))) λi=>
 aW (aZ h (wZ ((length h:Int) - 1))) λc=>
 cond (!(c=u))
  (some (false,a,b,h))
  (cond (0<(wZ ((length h:Int) - 1)))
   (aW (aZ h (wZ ((wZ ((length h:Int) - 1)) - 1))) λj=>
   aW (aZ h (wZ ((wZ ((length h:Int) - 1)) - 1))) λd=>
   cond (d=v)
    (aW (j0 h 0 (wZ ((length h:Int) - 1))) λe=>
    some (true,a,b,e))
    (cond (0<(Option.getD (bL j1 a v) 0))
     (some (false,a,b,h))
     (aW (er 8 h [v]) λf=>
     some (true,(dO j1 a v (wZ ((Option.getD (bL j1 a v) 0)+1))),b,f))))
   (cond (0<(Option.getD (bL j1 a v) 0))
    (some (false,a,b,h))
    (aW (er 8 h [v]) λg=>
    some (true,(dO j1 a v (wZ ((Option.getD (bL j1 a v) 0)+1))),b,g)))):=ci
def vM:Do CO:=[O6,apN,asy]
def m6:Nat×PO:=(901,.arr 3 j1 true)
def acz:Do (Nat×PO):=[(900,.box 270 [.k (.ow 901),.k (.mp 902),.k (.mp 903)]),m6,(902,.mp (.int .i64) j1 j1),(903,.mp (.int .i64) j1 j1)]
def Sz:PS:=bg [(0,.h j1),(5,.k (.pt 900 0)),(30,.h j6),(31,.h j1),(32,.h j1)] acz
def SA:Do (IR×PS):=[((.exit 0),bg [(5,.k (.pt 900 0))] acz),(.ret,bg n7 [])]
def SB:Pl:=.z
def iE:Nat->Nat->Int×aX×Int×Int×aX×A1×A1->At ((aX×A1×A1)⊕(In)):=eZ vM f104 [1,1,1,0,1,0,0] Sz SA SB
def F5:FD:=cw 104 f104 (.n .z (.n .z (.n .z (.n (.n .z (.n (.loop Sz SA SB) .z)) .z)))) [.h j1,.h j6] [] (bg n7 []) false true []
def O8:Nat->Int×aX->dj:=mF vM F5
def apO:CO:=cF vM F5 O8 func104
def W_ N m n e f c d h g:iE N (m+1) (n,e,f,c,d,h,g)=cond (c<f)
 (aW (aZ e c) λi=>
 aW (O7 N (n,i)) λa=>
 cond (!a.2.2.2)
  (some (.inr false))
  (cond a.2.2.1
   (aW (Zt N (a.1,a.2.1,d,h,g)) λb=>
   cond (!b.1)
    (some (.inr false))
    (cond (!a.2.2.1)
     (aW (aZ b.2.2.2 (wZ ((length b.2.2.2:Int) - 1))) λl=>
     aW (aZ b.2.2.2 (wZ ((length b.2.2.2:Int) - 1))) λj=>
     cond (!(j=a.1))
      (some (.inr false))
      (cond (!a.2.2.1)
       ((iE N m (n,e,f,(wZ (c+1)),b.2.2.2,b.2.1,(dO j1 b.2.2.1 a.1 (wZ ((Option.getD (bL j1 b.2.2.1 a.1) 0)+1))))))
       ((iE N m (n,e,f,(wZ (c+1)),b.2.2.2,b.2.1,b.2.2.1)))))
     (cond (!a.2.2.1)
      ((iE N m (n,e,f,(wZ (c+1)),b.2.2.2,b.2.1,(dO j1 b.2.2.1 a.1 (wZ ((Option.getD (bL j1 b.2.2.1 a.1) 0)+1))))))
      ((iE N m (n,e,f,(wZ (c+1)),b.2.2.2,b.2.1,b.2.2.1))))))
   (cond (!a.2.2.1)
    (aW (aZ d (wZ ((length d:Int) - 1))) λo=>
    aW (aZ d (wZ ((length d:Int) - 1))) λk=>
    cond (!(k=a.1))
     (some (.inr false))
     (cond (!a.2.2.1)
      ((iE N m (n,e,f,(wZ (c+1)),d,h,(dO j1 g a.1 (wZ ((Option.getD (bL j1 g a.1) 0)+1))))))
      ((iE N m (n,e,f,(wZ (c+1)),d,h,g)))))
    (cond (!a.2.2.1)
     ((iE N m (n,e,f,(wZ (c+1)),d,h,(dO j1 g a.1 (wZ ((Option.getD (bL j1 g a.1) 0)+1))))))
     ((iE N m (n,e,f,(wZ (c+1)),d,h,g)))))))
 (some (.inl (d,h,g))):=ci
def adJ N n l:O8 (N+1) (n,l)=aW (aZ l 0) λb=>
 aW (pV N (n,b)) λc=>
 cond (!c)
  (some false)
  (aW (aZ l 0) λd=>
  aW (aZ l 0) λe=>
  aW (iE N N (n,l,(length l:Int),0,[d],(dO j1 [] e 1),[])) λf=>
  (match f with
  |.inl a=>cond ((length a.1:Int)=1)
   (some (decide ((length a.2.2:Int)=(length a.2.1:Int))))
   (some false)
  |.inr g=>some g)):=ci
def kE:Do CO:=[O4,W9,aoh,apO]
def SC:PS:=bg [av8,(78,.h j1),(79,.h j1)] [(900,.mp (.int .i64) j1 j1)]
def SD:Do (IR×PS):=[((.exit 4),bg [] []),(.ret,bg lc [])]
def SE:Pl:=.z
def BB:Nat->Nat->Int×Int×A1->At ((Unit)⊕(In)):=eZ kE f40 [1,1,1,1,1,0,1,0,0] SC SD SE
def g9:Nat×PV:=(1,.k (.pt 900 0))
def alm:Nat×PV:=(3,.k (.mp 901))
def auw:Nat×PV:=(18,.h j1)
def SF:PS:=bg [g9,alm,ls,(16,.h fH),(17,.h j1),auw,(55,.h j6),(56,.h j1),(57,.h j1)] [m9,(901,.mp (.int .i64) j1 j1)]
def SG:Do (IR×PS):=[((.exit 2),bg [g9,alm,ls,(16,.h fH),(17,.h j1),auw] [m9,(901,.mp (.int .i64) j1 j1)]),(.ret,bg lc [])]
def SH:Pl:=.z
def vN:Nat->Nat->Int×A3×Int×Int×aX×Int×Int×Int×A3×A1->At ((Int×A3×Int×Int×Int×A3×A1)⊕(In)):=eZ kE f40 [1,1,1,1,0,1,0,0,1,1,0,0,1,1,1,1,0,0] SF SG SH
def SI:PS:=bg [g9,alm,ls,(16,.h fH),(17,.h j1),auw] [m9,(901,.mp (.int .i64) j1 j1)]
def SJ:Do (IR×PS):=[((.exit 0),bg [g9,alm] [m9,(901,.mp (.int .i64) j1 j1)]),(.ret,bg lc [])]
def SK:Pl:=(.n .z (.n .z (.n (.n (.n .z (.n .z (.n .z (.n .z (.n (.loop SF SG SH) .z))))) .z) .z)))
def BC:Nat->Nat->Int×A3×Int×Int×Int×A3×A1->At ((Int×A3×A1)⊕(In)):=eZ kE f40 [1,1,1,1,0,1,0,0] SI SJ SK
def BD:FD:=cw 40 f40 (.n .z (.n .z (.n .z (.n .z (.n (.n .z (.n (.loop SI SJ SK) .z)) (.n (.n .z (.n (.loop SC SD SE) .z)) .z)))))) [.ag i6] [] (bg lc []) false true []
def vO:Nat->Int×A3->dj:=mF kE BD
def O9:CO:=cF kE BD vO func40
def Xa N m c a b:BB N (m+1) (c,a,b)=cond (a<c)
 (cond ((Option.getD (bL j1 b a) 0)=0)
  (some (.inr false))
  ((BB N m (c,(wZ (a+1)),b))))
 (some (.inl ())):=ci
def Xb N m e g h i j k c f d a:vN N (m+1) (e,g,h,i,j,k,c,f,d,a)=cond (c<k)
 (aW (aZ j c) λb=>
 cond (b<f)
  (cond (0<(Option.getD (bL j1 a b) 0))
   (some (.inr false))
   ((vN N m (e,g,h,i,j,k,(wZ (c+1)),f,d,(dO j1 a b (wZ ((Option.getD (bL j1 a b) 0)+1)))))))
  ((vN N m (e,g,h,i,j,k,(wZ (c+1)),f,d,(dO j1 a b (wZ ((Option.getD (bL j1 a b) 0)+1)))))))
 (some (.inl (e,g,h,i,f,d,a))):=ci
def Xc N m i g h c f d e:BC N (m+1) (i,g,h,c,f,d,e)=cond (c<h)
 (aW (aZ g c) λa=>
 cond ((length a:Int)=0)
  (some (.inr false))
  (aW (aZ a 0) λj=>
  cond (j<=i)
   (some (.inr false))
   (aW (EK N a) λk=>
   cond (!k)
    (some (.inr false))
    (aW (Sy N a) λl=>
    aW (aZ a 0) λn=>
    cond (!(l=n))
     (some (.inr false))
     (aW (O8 N (f,a)) λo=>
     cond (!o)
      (some (.inr false))
      (aW (aZ a 0) λp=>
      aW (vN N N (p,g,h,c,a,(length a:Int),0,f,d,e)) λq=>
      (match q with
      |.inl b=>(BC N m (b.1,b.2.1,b.2.2.1,(wZ (b.2.2.2.1+1)),b.2.2.2.2.1,b.2.2.2.2.2.1,b.2.2.2.2.2.2))
      |.inr r=>some (.inr r))))))))
 (some (.inl (f,d,e))):=ci
def adK N f a:vO (N+1) (f,a)=aW (Al N f) λc=>
 cond (!c)
  (some false)
  (aW (BC N N ((-1),a,(length a:Int),0,f,a,[])) λd=>
  (match d with
  |.inl b=>aW (BB N N (b.1,0,b.2.2)) λe=>
   (match e with
   |.inl i=>some true
   |.inr g=>some g)
  |.inr h=>some h)):=ci
def lY:Do CO:=[]
def ao5:Do PV:=[.h j1,.k (.pt 4294967296 0)]
def t8:Do (Nat×PO):=[(4294967296,.box 83 i6)]
def arx:Nat×PV:=(3,.h .b)
def lZ:FD:=cw 139 f139 .z ao5 t8 (bg [arx] t8) true false [4294967296]
def Zu:Nat->Int×Int×A3->At (In×Int×A3):=mF lY lZ
def asz:CO:=cF lY lZ Zu func139
def ahm N v a b:Zu (N+1) (v,a,b)=cond (v<0)
 (some (true,a,b))
 (some ((decide (a<=v)),a,b)):=ci
def cC:Do CO:=[asz]
def m2:Do PV:=[.k (.pt 4294967296 0)]
def Zv:PS:=bg [amy,(1,.cl (.func 139) [] m2),LE,v4] t8
def Zw:Do (IR×PS):=[((.exit 0),bg [] t8),(.ret,bg [ls] t8)]
def Zx:Pl:=.z
def HN:Nat->Nat->aX×Int×Int×Int×A3->At ((Int×A3)⊕A12):=eZ cC f128 [1,0,1,0,0] Zv Zw Zx
def av1:Do PV:=[.h j6,.cl (.func 139) [] m2]
def dP:FD:=cw 128 f128 (.n .z (.n (.n .z (.n (.loop Zv Zw Zx) .z)) .z)) av1 t8 (bg [ls] t8) true false [4294967296]
def ahn:Nat->aX×Int×A3->At A12:=mF cC dP
def asA:CO:=cF cC dP ahn aAt
def adL N m s d a f c:HN N (m+1) (s,d,a,f,c)=cond (a<d)
 (aW (aZ s a) λe=>
 aW (Zu N (e,f,c)) λb=>
 cond b.1
  (some (.inr (a,b.2.1,b.2.2)))
  ((HN N m (s,d,(wZ (a+1)),b.2.1,b.2.2))))
 (some (.inl (f,c))):=ci
def aho N s f b:ahn (N+1) (s,f,b)=aW (HN N N (s,(length s:Int),0,f,b)) λd=>
 (match d with
 |.inl c=>some ((-1),c.1,c.2)
 |.inr a=>some (a.1,a.2.1,a.2.2)):=ci
def du:Do CO:=[asA]
def dv:FD:=cw 58 f58 .z av1 t8 (bg n7 t8) true false [4294967296]
def apP:Nat->aX×Int×A3->At (In×Int×A3):=mF du dv
def avG:CO:=cF du dv apP aAT
def amz N s f b:apP (N+1) (s,f,b)=aW (ahn N (s,f,b)) λa=>
 some ((decide (0<=a.1)),a.2.1,a.2.2):=ci
def vP:Do CO:=[O9,avG]
def vQ:FD:=cw 67 f67 .z [.ag i6,.h j6] [] (bg [ls] []) false true []
def MW:Nat->Int×A3×aX->eF:=mF vP vQ
def ahp:CO:=cF vP vQ MW func67
def ahq N f a b:MW (N+1) (f,a,b)=aW (vO N (f,a)) λc=>
 cond (!c)
  (some 1)
  (aW (apP N (b,f,a)) λd=>
  cond d.1
   (some 10)
   (some 0)):=ci
def BE:Do CO:=[O9,O6]
def ww:Nat×PV:=(6,.h j1)
def BF:FD:=cw 230 f230 .z [.ag i6,.h j1,.h j1] [] (bg [ww] []) false true []
def O_:Nat->Int×A3×Int×Int->eF:=mF BE BF
def apQ:CO:=cF BE BF O_ func230
def adM N f a u v:O_ (N+1) (f,a,u,v)=aW (vO N (f,a)) λb=>
 cond (!b)
  (some 1)
  (aW (pV N (f,u)) λc=>
  cond (!c)
   (some 10)
   (aW (pV N (f,v)) λd=>
   cond (!d)
    (some 10)
    (some 0))):=ci
def gw:Do CO:=[]
def Zy:PS:=bg [amy,ali,LE,v4] []
def Zz:Do (IR×PS):=[((.exit 0),bg [] []),(.ret,bg [ls] [])]
def ZA:Pl:=.z
def HO:Nat->Nat->aX×Int×Int×Int->At ((Unit)⊕(Int)):=eZ gw f131 [1,0,1,0,0] Zy Zz ZA
def asq:Do PV:=[.h j6,.h j1]
def jS:FD:=cw 131 f131 (.n .z (.n (.n .z (.n (.loop Zy Zz ZA) .z)) .z)) asq [] (bg [ls] []) false true []
def MX:Nat->aX×Int->eF:=mF gw jS
def ahr:CO:=cF gw jS MX func131
def MY N m s v b a:HO N (m+1) (s,v,b,a)=cond (a<b)
 (aW (aZ s a) λc=>
 cond (v=c)
  (some (.inr a))
  ((HO N m (s,v,b,(wZ (a+1))))))
 (some (.inl ())):=ci
def ahs N s v:MX (N+1) (s,v)=aW (HO N N (s,v,(length s:Int),0)) λa=>
 (match a with
 |.inl c=>some (-1)
 |.inr b=>some b):=ci
def iF:Do CO:=[ahr]
def iG:FD:=cw 193 f193 .z asq [] (bg n7 []) false true []
def Jx:Nat->aX×Int->dj:=mF iF iG
def ZB:CO:=cF iF iG Jx func193
def aht N s v:Jx (N+1) (s,v)=aW (MX N (s,v)) λa=>
 some (decide (0<=a)):=ci
def oT:Do CO:=[ZB]
def wt:Do (Nat×PO):=[(4294967296,.box 3 ao3)]
def oU:FD:=cw 192 f192 .z [.h j6,.k (.pt 4294967296 0)] wt (bg [arx] wt) true true [4294967296]
def ahu:Nat->aX×Int->At (In×Int):=mF oT oU
def asC:CO:=cF oT oU ahu func192
def ahv N l a:ahu (N+1) (l,a)=aW (Jx N (l,a)) λb=>
 some (b,a):=ci
def cG:Do CO:=[asC]
def ZC:PS:=bg [(0,.h fH),(1,.cl (.func 192) [] m2),LE,v4] wt
def ZD:Do (IR×PS):=[((.exit 0),bg [] wt),(.ret,bg [ls] wt)]
def ZE:Pl:=.z
def HP:Nat->Nat->A3×Int×Int×Int->At ((Int)⊕(Int×Int)):=eZ cG f191 [1,0,1,0,0] ZC ZD ZE
def dT:FD:=cw 191 f191 (.n .z (.n (.n .z (.n (.loop ZC ZD ZE) .z)) .z)) [.h fH,.cl (.func 192) [] m2] wt (bg [ls] wt) true true [4294967296]
def ahw:Nat->A3×Int->FM:=mF cG dT
def asD:CO:=cF cG dT ahw func191
def adN N m s b a f:HP N (m+1) (s,b,a,f)=cond (a<b)
 (aW (aZ s a) λd=>
 aW (ahu N (d,f)) λc=>
 cond c.1
  (some (.inr (a,c.2)))
  ((HP N m (s,b,(wZ (a+1)),c.2))))
 (some (.inl f)):=ci
def ahx N s f:ahw (N+1) (s,f)=aW (HP N N (s,(length s:Int),0,f)) λb=>
 (match b with
 |.inl c=>some ((-1),c)
 |.inr a=>some (a.1,a.2)):=ci
def BG:Do CO:=[asD]
def aux:Do PV:=[.ag i6,.h j1]
def BH:FD:=cw 141 f141 .z aux [] (bg [ls] []) false true []
def EL:Nat->Int×A3×Int->eF:=mF BG BH
def ahy:CO:=cF BG BH EL func141
def adO N f a v:EL (N+1) (f,a,v)=aW (ahw N (a,v)) λb=>
 some b.1:=ci
def pW:Do CO:=[W9,ahr,ZB]
def n8:Nat×PV:=(6,.k (.ow 900))
def PP:Nat×PV:=(14,.h j1)
def ZF:PS:=bg [amy,n8,(12,.h j6),arw,PP] [gt]
def ZG:Do (IR×PS):=[((.exit 0),bg [n8] [gt])]
def ZH:Pl:=.z
def HQ:Nat->Nat->aX×aX×Int×Int×aX->mR:=eZ pW f275 [1,1,1,0,1,0,0] ZF ZG ZH
def ave:Nat×PV:=(5,.h .b)
def yJ:FD:=cw 275 f275 (.n .z (.n .z (.n .z (.n (.n .z (.n (.loop ZF ZG ZH) .z)) .z)))) [.h j6,.h j6] [] (bg [ld,ave] [gt]) true true [900]
def ZI:Nat->aX×aX->At A9:=mF pW yJ
def asE:CO:=cF pW yJ ZI func275
def MZ N m l b c a d:HQ N (m+1) (l,b,c,a,d)=cond (a<c)
 (aW (aZ b a) λe=>
 aW (MX N (l,e)) λf=>
 aW (er 8 d [f]) λg=>
 (HQ N m (l,b,c,(wZ (a+1)),g)))
 (some d):=ci
def ahz N l a:ZI (N+1) (l,a)=aW (EK N l) λc=>
 cond (!c)
  (some (false,[]))
  (aW (HQ N N (l,a,(length a:Int),0,[])) λb=>
  aW (Jx N (b,(-1))) λd=>
  some ((!d),b)):=ci
def eV:Do CO:=[⟨kD,oG⟩]
def avl:Nat×PV:=(26,.h j1)
def ZJ:PS:=bg [n8,(25,.h fH),avl,(27,.h j1)] [gt]
def ZL:Do (IR×PS):=[((.exit 2),bg [n8] [gt])]
def ZM:Pl:=.z
def xS:Nat->Nat->A3×Int×Int×aX->mR:=eZ eV f120 [1,1,1,1,0,1,0,0] ZJ ZL ZM
def ZN:PS:=bg [(0,.h fH),So,(9,.h fH),LT,afc] []
def ZO:Do (IR×PS):=[((.exit 0),bg [(0,.h fH),So] [])]
def ZP:Pl:=.z
def xT:Nat->Nat->A3×Int×A3×Int×Int->At (A3×Int):=eZ eV f120 [1,1,0,1,0,0] ZN ZO ZP
def jq:FD:=cw 120 f120 (.n .z (.n .z (.n (.n .z (.n (.loop ZN ZO ZP) .z)) (.n .z (.n (.n .z (.n (.loop ZJ ZL ZM) .z)) .z))))) [.h fH] [] (bg pm [gt]) true true [900]
def M0:Nat->A3->mR:=mF eV jq
def aoi:CO:=cF eV jq M0 func120
def xU N m c d a b:xS N (m+1) (c,d,a,b)=cond (a<d)
 (aW (aZ c a) λe=>
 aW (er 8 b e) λf=>
 (xS N m (c,d,(wZ (a+1)),f)))
 (some b):=ci
def xV N m c a e d b:xT N (m+1) (c,a,e,d,b)=cond (b<d)
 (aW (aZ e b) λf=>
 cond ((wZ (a+(length f:Int)))<0)
  none
  ((xT N m (c,(wZ (a+(length f:Int))),e,d,(wZ (b+1))))))
 (some (c,a)):=ci
def SL N a:M0 (N+1) a=aW (xT N N (a,0,a,(length a:Int),0)) λb=>
 aW (e9 N b.2) λd=>
 aW (xS N N (b.1,(length b.1:Int),0,[])) λc=>
 some c:=ci
def yK:Do CO:=[aoi]
def yL:FD:=cw 276 f276 .z asq [] (bg [ld] [gt]) true true [900]
def SM:Nat->aX×Int->mR:=mF yK yL
def aoj:CO:=cF yK yL SM func276
def ahA N l a:SM (N+1) (l,a)=aW (j0 l a (length l:Int)) λb=>
 aW (j0 l 0 a) λc=>
 aW (M0 N [b,c]) λd=>
 some d:=ci
def F6:Do CO:=[asE,aoj]
def F7:FD:=cw 231 f231 .z asq [] (bg [ld,ave] [gt]) true true [900]
def Jy:Nat->aX×Int->At A9:=mF F6 F7
def apR:CO:=cF F6 F7 Jy func231
def adP N l b:Jy (N+1) (l,b)=aW (ZI N (l,[b])) λa=>
 cond (!a.1)
  (some (false,[]))
  (aW (aZ a.2 0) λe=>
  aW (aZ a.2 0) λc=>
  aW (SM N (l,c)) λd=>
  some (true,d)):=ci
def Jz:Do CO:=[O6]
def n9:Do PV:=[.h j1,.h j1,.h j1]
def JA:FD:=cw 232 f232 .z n9 [] (bg [ww] []) false true []
def JB:Nat->Int×Int×Int->eF:=mF Jz JA
def apS:CO:=cF Jz JA JB func232
def adQ N n u v:JB (N+1) (n,u,v)=cond (u=v)
 (some (-1))
 (aW (pV N (n,u)) λa=>
 cond (!a)
  (some (-1))
  (aW (pV N (n,v)) λb=>
  cond (!b)
   (some (-1))
   (some (wZ ((wZ (n*(wZ (u+1))))+v))))):=ci
def BI:Do CO:=[W9,aoh,ahr,aoj]
def BJ:FD:=cw 277 f277 .z au4 [] (bg pm [gt]) true true [900]
def Pa:Nat->aX->mR:=mF BI BJ
def apT:CO:=cF BI BJ Pa func277
def adR N l:Pa (N+1) l=aW (EK N l) λa=>
 cond (!a)
  (some [])
  (cond ((length l:Int)=0)
   (some [])
   (aW (Sy N l) λb=>
   aW (MX N (l,b)) λc=>
   aW (SM N (l,c)) λd=>
   some d)):=ci
def oV:Do CO:=[ZB,apT,⟨eK,gn⟩]
def M2:Nat×PV:=(3,.k (.pt 900 0))
def NE:Nat×PV:=(6,.k (.pt 901 0))
def anj:Nat×PV:=(7,.k (.ow 902))
def anm:Nat×PO:=(901,.box 83 v0)
def SN:PS:=bg [M2,NE,anj,(29,.h fH),(30,.h j1),(31,.h j1)] [m9,anm,afv]
def SO:Do (IR×PS):=[((.exit 2),bg [M2,NE,anj] [m9,anm,afv])]
def SQ:Pl:=.z
def BK:Nat->Nat->A3×Int×Int×Int×A3×Int×A3->At (Int×A3×Int×A3):=eZ oV f233 [1,1,1,0,1,0,0] SN SO SQ
def avm:Nat×PV:=(15,.h j1)
def SU:PS:=bg [(1,.h j6),(2,.h fH),M2,NE,anj,(13,.h fH),PP,avm] [m9,anm,afv]
def SX:Do (IR×PS):=[((.exit 0),bg [(2,.h fH),M2,NE,anj] [m9,anm,afv])]
def SY:Pl:=.z
def qS:Nat->Nat->aX×A3×A3×Int×Int×Int×A3×Int×A3->At (A3×Int×A3×Int×A3):=eZ oV f233 [1,1,0,1,0,0] SU SX SY
def ul:Nat×PV:=(6,.k (.pt 900 0))
def F8:FD:=cw 233 f233 (.n .z (.n .z (.n (.n .z (.n (.loop SU SX SY) .z)) (.n (.n .z (.n (.loop SN SO SQ) .z)) .z)))) [.ag i6,.h j6,.h fH] [] (bg [ul] [m9]) false false []
def Pb:Nat->Int×A3×aX×A3->At (Int×A3):=mF oV F8
def apU:CO:=cF oV F8 Pb func233
def JC N m c d a f b e l:BK N (m+1) (c,d,a,f,b,e,l)=cond (a<d)
 (aW (aZ c a) λg=>
 aW (Pa N g) λh=>
 aW (er 24 l [h]) λi=>
 (BK N m (c,d,(wZ (a+1)),f,b,e,i)))
 (some (f,b,e,l)):=ci
def Am N m b c e g a f d h l:qS N (m+1) (b,c,e,g,a,f,d,h,l)=cond (a<g)
 (aW (aZ e a) λi=>
 aW (Jx N (b,a)) λj=>
 cond (!j)
  (aW (er 24 l [i]) λk=>
  (qS N m (b,c,e,g,(wZ (a+1)),f,d,h,k)))
  ((qS N m (b,c,e,g,(wZ (a+1)),f,d,h,l))))
 (some (c,f,d,h,l)):=ci
def adS N f b c d:Pb (N+1) (f,b,c,d)=aW (qS N N (c,d,b,(length b:Int),0,f,b,0,[])) λa=>
 aW (BK N N (a.1,(length a.1:Int),0,a.2.1,a.2.2.1,a.2.2.2.1,a.2.2.2.2)) λe=>
 aW (bC N e.2.2.2) λg=>
 some (e.1,g):=ci
def F9:Do CO:=[apQ,ahy,apR,apS,aoi,apU]
def F_:FD:=cw 190 f190 .z [.ag i6,.h j1,.h j1] [] (bg [ul,LE] [m9]) false false []
def Pc:Nat->Int×A3×Int×Int->At A12:=mF F9 F_
def apV:CO:=cF F9 F_ Pc func190
def adT N f a u v:Pc (N+1) (f,a,u,v)=aW (O_ N (f,a,u,v)) λe=>
 cond (!(e=0))
  (some (e,f,a))
  (aW (EL N (f,a,u)) λb=>
  aW (EL N (f,a,v)) λc=>
  cond (b=c)
   (some (5,f,a))
   (aW (aZ a b) λk=>
   aW (Jy N (k,u)) λd=>
   aW (aZ a c) λl=>
   aW (Jy N (l,v)) λm=>
   aW (j0 d.2 0 1) λn=>
   aW (JB N (f,u,v)) λo=>
   aW (JB N (f,v,u)) λh=>
   aW (j0 d.2 1 (length d.2:Int)) λi=>
   aW (M0 N [n,[o],m.2,[h],i]) λj=>
   aW (Pb N (f,a,[b,c],[j])) λg=>
   some (0,g.1,g.2))):=ci
def gx:Do CO:=[ast,ahp,apV]
def aoc:Nat×PV:=(10,.k (.ow 902))
def aq5:Nat×PO:=(902,.arr 4 .b true)
def ZQ:PS:=bg [(2,.k (.v (.func (.func 190) #[] #[]))),M2,NE,aoc,(23,.h hS),(24,.h j1),(25,.h j1)] [m9,anm,aq5]
def ZR:Do (IR×PS):=[((.exit 0),bg [M2,NE,aoc] [m9,anm,aq5])]
def ZS:Pl:=.z
def HS:Nat->Nat->A1×Int×Int×Int×A3×Int×bh->At (Int×A3×Int×bh):=eZ gx f189 [1,1,1,0,1,0,0] ZQ ZR ZS
def at8:Nat×PV:=(7,.k (.ow 901))
def ami:Nat×PO:=(901,.arr 4 .b true)
def jT:FD:=cw 189 f189 (.n .z (.n .z (.n .z (.n (.n .z (.n (.loop ZQ ZR ZS) .z)) .z)))) [.ag i6,.h hS,.k (.v (.func (.func 190) #[] #[]))] [] (bg [ul,at8,v4] [m9,ami]) true false [901]
def ahB:Nat->Int×A3×A1->At (Int×Int×A3×bh):=mF gx jT
def asF:CO:=cF gx jT ahB func189
def M1 N m d e a f b g c:HS N (m+1) (d,e,a,f,b,g,c)=cond (a<e)
 (aW (aZ d a) λi=>
 aW (Pc N (f,b,i.1,i.2)) λh=>
 aW (er 1 c [(decide (h.1=0))]) λj=>
 (HS N m (d,e,(wZ (a+1)),h.2.1,h.2.2,g,j)))
 (some (f,b,g,c)):=ci
def ahC N f a l:ahB (N+1) (f,a,l)=aW (Zg N l) λd=>
 aW (MW N (f,a,d)) λc=>
 cond (!(c=0))
  (some (c,f,a,[]))
  (aW (HS N N (l,(length l:Int),0,f,a,0,[])) λb=>
  some (0,b.1,b.2.1,b.2.2.2)):=ci
def vR:Do CO:=[asF]
def m5:Nat×PV:=(4,.k (.pt 900 0))
def aln:Nat×PV:=(5,.k (.ow 901))
def vT:FD:=cw 138 f138 .z [.ag i6,.h hS] [] (bg [m5,aln,ww] [m9,ami]) true false [901]
def ZT:Nat->Int×A3×A1->At (Int×Int×A3×bh):=mF vR vT
def asG:CO:=cF vR vT ZT func138
def ahD N f b l:ZT (N+1) (f,b,l)=aW (ahB N (f,b,l)) λa=>
 some (a.1,a.2.1,a.2.2.1,a.2.2.2):=ci
def Gb:Do CO:=[apM,asG]
def Gc:FD:=cw 65 f65 .z [.h j1,.h hS] [] (bg [m5,to] [m9]) false false []
def JD:Nat->Int×A1->At A12:=mF Gb Gc
def ahE:CO:=cF Gb Gc JD func65
def adU N n l:JD (N+1) (n,l)=aW (O5 N n) λa=>
 cond (!(a.1=0))
  (some (a.1,0,[]))
  (aW (ZT N (a.2.1,a.2.2,l)) λb=>
  cond (!(b.1=0))
   (some (b.1,0,[]))
   (some (0,b.2.1,b.2.2.1))):=ci
def pX:Do CO:=[aoe,ahb,aof,aog,ahE]
def s1:Nat×PO:=(900,.box 24 ii)
def ZU:PS:=bg [g9,So,(23,.h iU),(24,.h j1),(25,.h j1)] [s1]
def ZV:Do (IR×PS):=[((.exit 0),bg [g9] [s1]),(.ret,bg lc [])]
def ZW:Pl:=.z
def xW:Nat->Nat->Int×fB×Int×Int×Int×fB->At ((Int×fB)⊕(In)):=eZ pX f64 [1,1,1,0,1,0,0] ZU ZV ZW
def yM:FD:=cw 64 f64 (.n .z (.n .z (.n .z (.n (.n .z (.n (.loop ZU ZV ZW) .z)) .z)))) [.ag ii] [] (bg lc []) false true []
def oW:Nat->Int×fB->dj:=mF pX yM
def yN:CO:=cF pX yM oW func64
def M3 N m d e f b g c:xW N (m+1) (d,e,f,b,g,c)=cond (b<f)
 (aW (aZ e b) λa=>
 cond (a.1<0)
  (some (.inr false))
  (cond (a.2.1<=a.1)
   (some (.inr false))
   (cond (g<=a.2.1)
    (some (.inr false))
    (cond (a.2.2.1<0)
     (some (.inr false))
     (cond (d<a.2.2.1)
      (some (.inr false))
      (cond (0<b)
       (aW (aZ c (wZ (b - 1))) λh=>
       aW (Jv N (h.1,h.2.1,h.2.2.1,h.2.2.2,a.1,a.2.1,a.2.2.1,a.2.2.2)) λi=>
       cond (0<=i)
        (some (.inr false))
        ((xW N m (d,e,f,(wZ (b+1)),g,c))))
       ((xW N m (d,e,f,(wZ (b+1)),g,c)))))))))
 (some (.inl (g,c))):=ci
def ahF N g a:oW (N+1) (g,a)=aW (Ss N g) λe=>
 cond (!e)
  (some false)
  (cond (400<(length a:Int))
   (some false)
   (aW (Ju N g) λf=>
   aW (xW N N (f,a,(length a:Int),0,g,a)) λh=>
   (match h with
   |.inl b=>aW (Su N (b.1,b.2,0)) λc=>
    aW (JD N (b.1,c)) λd=>
    cond (d.1=0)
     (some (decide ((length d.2.2:Int)=(wZ (b.1 - (length c:Int))))))
     (some false)
   |.inr i=>some i))):=ci
def tj:Do CO:=[]
def tl:FD:=cw 106 f106 .z ao3 [] (bg lc []) false true []
def SZ:Nat->Int->dj:=mF tj tl
def asH:CO:=cF tj tl SZ func106
def ahG N n:SZ (N+1) n=cond (0<=n)
 (some (decide (n<=1099511627776)))
 (some false):=ci
def yO:Do CO:=[yN,asH]
def arq:Do PV:=[.h j1,.h iU,.h j1,.h j1]
def yP:FD:=cw 42 f42 .z [.ag arq] [] (bg lc []) false true []
def tp:Nat->Int×fB×Int×Int->dj:=mF yO yP
def asK:CO:=cF yO yP tp func42
def ahH N s a b c:tp (N+1) (s,a,b,c)=aW (oW N (s,a)) λd=>
 cond d
  (aW (SZ N b) λe=>
  cond e
   (aW (SZ N c) λf=>
   some f)
   (some false))
  (some false):=ci
def Ge:Do CO:=[]
def Gf:FD:=cw 112 f112 .z ao3 [] (bg lc []) false true []
def An:Nat->Int->dj:=mF Ge Gf
def ahI:CO:=cF Ge Gf An func112
def adV N n:An (N+1) n=some (decide (n=(wZ (wrap .u16 n)))):=ci
def vU:Do CO:=[ahI]
def vV:FD:=cw 111 f111 .z [.ag acc] [] (bg lc []) false true []
def ZX:Nat->Int×Int->dj:=mF vU vV
def asM:CO:=cF vU vV ZX func111
def ahJ N e a:ZX (N+1) (e,a)=aW (An N e) λb=>
 cond (!b)
  (some true)
  (aW (An N a) λc=>
  some (!c)):=ci
def cD:Do CO:=[asM]
def ZY:PS:=bg [(0,.h hS),(1,.k (.v (.func (.func 111) #[] #[]))),LE,v4] []
def ZZ:Do (IR×PS):=[((.exit 0),bg [] []),(.ret,bg [ls] [])]
def Z0:Pl:=.z
def HT:Nat->Nat->A1×Int×Int->At ((Unit)⊕(Int)):=eZ cD f182 [1,0,1,0,0] ZY ZZ Z0
def at1:Do PV:=[.h hS,.k (.v (.func (.func 111) #[] #[]))]
def dQ:FD:=cw 182 f182 (.n .z (.n (.n .z (.n (.loop ZY ZZ Z0) .z)) .z)) at1 [] (bg [ls] []) false true []
def ahK:Nat->A1->eF:=mF cD dQ
def asN:CO:=cF cD dQ ahK func182
def M4 N m s b a:HT N (m+1) (s,b,a)=cond (a<b)
 (aW (aZ s a) λc=>
 aW (ZX N (c.1,c.2)) λd=>
 cond d
  (some (.inr a))
  ((HT N m (s,b,(wZ (a+1))))))
 (some (.inl ())):=ci
def ahL N s:ahK (N+1) s=aW (HT N N (s,(length s:Int),0)) λa=>
 (match a with
 |.inl c=>some (-1)
 |.inr b=>some b):=ci
def dw:Do CO:=[asN]
def dx:FD:=cw 113 f113 .z at1 [] (bg n7 []) false true []
def ahM:Nat->A1->dj:=mF dw dx
def avH:CO:=cF dw dx ahM func113
def amA N s:ahM (N+1) s=aW (ahK N s) λa=>
 some (decide (0<=a)):=ci
def BL:Do CO:=[]
def BM:FD:=cw 115 f115 .z ao3 [] (bg lc []) false true []
def Pd:Nat->Int->dj:=mF BL BM
def apW:CO:=cF BL BM Pd func115
def adW N a:Pd (N+1) a=cond (1<=a)
 (some (decide (a<=4)))
 (some false):=ci
def vW:Do CO:=[apW,ahI]
def vX:FD:=cw 114 f114 .z [.ag n9] [] (bg lc []) false true []
def Z1:Nat->Int×Int×Int->dj:=mF vW vX
def asP:CO:=cF vW vX Z1 func114
def ahN N a b c:Z1 (N+1) (a,b,c)=aW (Pd N a) λd=>
 cond (!d)
  (some true)
  (aW (An N b) λe=>
  cond (!e)
   (some true)
   (aW (An N c) λf=>
   some (!f))):=ci
def cI:Do CO:=[asP]
def Z2:PS:=bg [(0,.h Ha),(1,.k (.v (.func (.func 114) #[] #[]))),LE,v4] []
def Z3:Do (IR×PS):=[((.exit 0),bg [] []),(.ret,bg [ls] [])]
def Z4:Pl:=.z
def HU:Nat->Nat->(Do A4)×Int×Int->At ((Unit)⊕(Int)):=eZ cI f183 [1,0,1,0,0] Z2 Z3 Z4
def at2:Do PV:=[.h Ha,.k (.v (.func (.func 114) #[] #[]))]
def dX:FD:=cw 183 f183 (.n .z (.n (.n .z (.n (.loop Z2 Z3 Z4) .z)) .z)) at2 [] (bg [ls] []) false true []
def ahO:Nat->(Do A4)->eF:=mF cI dX
def asQ:CO:=cF cI dX ahO func183
def M5 N m s b a:HU N (m+1) (s,b,a)=cond (a<b)
 (aW (aZ s a) λc=>
 aW (Z1 N (c.1,c.2.1,c.2.2)) λd=>
 cond d
  (some (.inr a))
  ((HU N m (s,b,(wZ (a+1))))))
 (some (.inl ())):=ci
def ahP N s:ahO (N+1) s=aW (HU N N (s,(length s:Int),0)) λa=>
 (match a with
 |.inl c=>some (-1)
 |.inr b=>some b):=ci
def dI:Do CO:=[asQ]
def dJ:FD:=cw 116 f116 .z at2 [] (bg n7 []) false true []
def ahQ:Nat->(Do A4)->dj:=mF dI dJ
def avI:CO:=cF dI dJ ahQ func116
def amB N s:ahQ (N+1) s=aW (ahO N s) λa=>
 some (decide (0<=a)):=ci
def r7:Do CO:=[avH,avI]
def Or:Do PV:=[.h j1,.h hS,.h Ha]
def apb:Nat×PO:=(900,.box 30 Or)
def S0:PS:=bg [g9,ww] [apb]
def S2:Do (IR×PS):=[(.normal,bg [g9,ww,auf] [apb])]
def S3:Pl:=.z
def S4:Nat->Nat->Int×Int×A1×(Do A4)->At (Int×In×Int×A1×(Do A4)):=jnF r7 f51 [1,0,1,0,0] S0 S2 S3
def BN:FD:=cw 51 f51 (.n .z (.n (.n .z (.n (.n (.join S0 S2 S3) .z) .z)) .z)) [.ag Or] [] (bg lc []) false true []
def Pe:Nat->Int×A1×(Do A4)->dj:=mF r7 BN
def apX:CO:=cF r7 BN Pe func51
def Xd N m a x b c:S4 N (m+1) (a,x,b,c)=cond (a=1)
 (some (a,true,x,b,c))
 (some (a,(decide (a=2)),x,b,c)):=ci
def adX N x b c:Pe (N+1) (x,b,c)=aW (S4 N N (x,x,b,c)) λa=>
 cond a.2.1
  (cond ((length a.2.2.2.2:Int)=0)
   (cond ((length a.2.2.2.1:Int)<=60)
    (aW (ahM N a.2.2.2.1) λd=>
    some (!d))
    (some false))
   (some false))
  (cond (a.1=3)
   (cond ((length a.2.2.2.1:Int)=0)
    (cond ((length a.2.2.2.2:Int)<=60)
     (aW (ahQ N a.2.2.2.2) λe=>
     some (!e))
     (some false))
    (some false))
   (some false)):=ci
def yQ:Do CO:=[]
def yR:FD:=cw 164 f164 .z [.ag n9] [] (bg pm [gt]) true true [900]
def Z5:Nat->Int×Int×Int->mR:=mF yQ yR
def asR:CO:=cF yQ yR Z5 func164
def ahR N a b c:Z5 (N+1) (a,b,c)=cond (a=1)
 (some [b,c])
 (cond (a=2)
  (some [b])
  (cond (a=3)
   (some [b])
   (some []))):=ci
def iN:Do CO:=[asR]
def Z6:PS:=bg [WF,(24,.h Ha),(25,.h j1),avl] [gt]
def Z7:Do (IR×PS):=[((.exit 2),bg [WF] [gt])]
def Z8:Pl:=.z
def HV:Nat->Nat->(Do A4)×Int×Int×aX->mR:=eZ iN f92 [1,1,1,0,1,0,0] Z6 Z7 Z8
def WP:Nat×PV:=(3,.k (.ow 901))
def Z9:PS:=bg [g9,WP,(9,.h hS),LT,afc] [apb,m6]
def Z_:Do (IR×PS):=[((.exit 0),bg [g9,WP] [apb,m6])]
def aaa:Pl:=.z
def HW:Nat->Nat->A1×Int×Int×Int×A1×(Do A4)×aX->At (Int×A1×(Do A4)×aX):=eZ iN f92 [1,1,0,1,0,0] Z9 Z_ aaa
def qU:FD:=cw 92 f92 (.n .z (.n .z (.n (.n .z (.n (.loop Z9 Z_ aaa) .z)) (.n (.n .z (.n (.loop Z6 Z7 Z8) .z)) .z)))) [.ag Or] [] (bg pm [gt]) true true [900]
def aab:Nat->Int×A1×(Do A4)->mR:=mF iN qU
def asT:CO:=cF iN qU aab func92
def M6 N m b c a l:HV N (m+1) (b,c,a,l)=cond (a<c)
 (aW (aZ b a) λd=>
 aW (Z5 N (d.1,d.2.1,d.2.2)) λe=>
 aW (er 8 l e) λf=>
 (HV N m (b,c,(wZ (a+1)),f)))
 (some l):=ci
def M7 N m c b a x d e l:HW N (m+1) (c,b,a,x,d,e,l)=cond (a<b)
 (aW (aZ c a) λf=>
 aW (er 8 l [f.1,f.2]) λg=>
 (HW N m (c,b,(wZ (a+1)),x,d,e,g)))
 (some (x,d,e,l)):=ci
def ahS N x a c:aab (N+1) (x,a,c)=aW (HW N N (a,(length a:Int),0,x,a,c,[])) λb=>
 aW (HV N N (b.2.2.1,(length b.2.2.1:Int),0,b.2.2.2)) λd=>
 some d:=ci
def mJ:Do CO:=[]
def t9:Do (Nat×PO):=[(4294967296,.box 24 ii)]
def mK:FD:=cw 93 f93 .z ao5 t9 (bg [arx] t9) true false [4294967296]
def ahT:Nat->Int×Int×fB->At (In×Int×fB):=mF mJ mK
def asU:CO:=cF mJ mK ahT func93
def ahU N v a b:ahT (N+1) (v,a,b)=some ((decide (a<=v)),a,b):=ci
def cJ:Do CO:=[asU]
def aac:PS:=bg [amy,(1,.cl (.func 93) [] m2),LE,v4] t9
def aad:Do (IR×PS):=[((.exit 0),bg [] t9),(.ret,bg [ls] t9)]
def aae:Pl:=.z
def HX:Nat->Nat->aX×Int×Int×Int×fB->At ((Int×fB)⊕(Int×Int×fB)):=eZ cJ f128 [1,0,1,0,0] aac aad aae
def awa:Do PV:=[.h j6,.cl (.func 93) [] m2]
def dY:FD:=cw 128 f128 (.n .z (.n (.n .z (.n (.loop aac aad aae) .z)) .z)) awa t9 (bg [ls] t9) true false [4294967296]
def ahV:Nat->aX×Int×fB->At (Int×Int×fB):=mF cJ dY
def asV:CO:=cF cJ dY ahV aAt
def M8 N m s d a f c:HX N (m+1) (s,d,a,f,c)=cond (a<d)
 (aW (aZ s a) λe=>
 aW (ahT N (e,f,c)) λb=>
 cond b.1
  (some (.inr (a,b.2.1,b.2.2)))
  ((HX N m (s,d,(wZ (a+1)),b.2.1,b.2.2))))
 (some (.inl (f,c))):=ci
def ahW N s f b:ahV (N+1) (s,f,b)=aW (HX N N (s,(length s:Int),0,f,b)) λd=>
 (match d with
 |.inl c=>some ((-1),c.1,c.2)
 |.inr a=>some (a.1,a.2.1,a.2.2)):=ci
def dK:Do CO:=[asV]
def dL:FD:=cw 58 f58 .z awa t9 (bg n7 t9) true false [4294967296]
def aaf:Nat->aX×Int×fB->At (In×Int×fB):=mF dK dL
def asX:CO:=cF dK dL aaf aAT
def ahX N s f b:aaf (N+1) (s,f,b)=aW (ahV N (s,f,b)) λa=>
 some ((decide (0<=a.1)),a.2.1,a.2.2):=ci
def BO:Do CO:=[]
def BP:FD:=cw 149 f149 .z ao3 [] (bg lc []) false true []
def JE:Nat->Int->dj:=mF BO BP
def apY:CO:=cF BO BP JE func149
def adY N n:JE (N+1) n=cond (0<=n)
 (some (decide (n<65536)))
 (some false):=ci
def Gg:Do CO:=[apY]
def Gh:FD:=cw 77 f77 .z [.ag acc] [] (bg [(2,.h j2),arx] []) false true []
def Pf:Nat->Int×Int->At (Int×In):=mF Gg Gh
def apZ:CO:=cF Gg Gh Pf func77
def adZ N e a:Pf (N+1) (e,a)=aW (JE N e) λb=>
 cond (!b)
  (some (0,false))
  (aW (JE N a) λc=>
  cond (!c)
   (some (0,false))
   (some ((OB .or .u32 (wrap .u32 ((wrap .u32 (if(a<e)then a else e))*((2:Int)^(min (Int.toNat 16) 32)))) (wrap .u32 (if(a>e)then a else e))),true))):=ci
def vY:Do CO:=[]
def vZ:FD:=cw 243 f243 .z ao3 [] (bg [z9] []) false true []
def S5:Nat->Int->eF:=mF vY vZ
def aok:CO:=cF vY vZ S5 func243
def S6 N bits:S5 (N+1) bits=cond (bits<1)
 (some 0)
 (cond (16<bits)
  (some 0)
  (aW (IX (wZ ((wZ (32+bits)) - 1)) bits) λa=>
  some (wZ a))):=ci
def BQ:Do CO:=[]
def BS:FD:=cw 304 f304 .z ao3 [] (bg lc []) false true []
def Pg:Nat->Int->dj:=mF BQ BS
def ahY:CO:=cF BQ BS Pg func304
def EM N a:Pg (N+1) a=cond (1<=a)
 (some (decide (a<=100)))
 (some false):=ci
def yS:Do CO:=[ahY]
def yT:FD:=cw 305 f305 .z acc [] (bg [ls] []) false true []
def Ph:Nat->Int×Int->eF:=mF yS yT
def ap0:CO:=cF yS yT Ph func305
def ad0 N n block:Ph (N+1) (n,block)=cond (n<0)
 (some 0)
 (cond (1000<n)
  (some 0)
  (aW (Pg N block) λa=>
  cond (!a)
   (some 0)
   (aW (IX (wZ ((wZ (n+block)) - 1)) block) λb=>
   some (wZ b)))):=ci
def BT:Do CO:=[]
def afr:Do PV:=[.h j1,.h j1,.h hS]
def BU:FD:=cw 89 f89 .z [.ag afr] [] (bg lc []) false true []
def JF:Nat->Int×Int×A1->dj:=mF BT BU
def ap1:CO:=cF BT BU JF func89
def EN N p p2 p3:JF (N+1) (p,p2,p3)=cond (1<=p)
 (cond (p<=100)
  (cond (1<=p2)
   (cond (p2<=8)
    (some (decide ((length p3:Int)<=4000)))
    (some false))
   (some false))
  (some false))
 (some false):=ci
def v8:Do CO:=[]
def v_:FD:=cw 144 f144 .z acc [] (bg n7 []) false true []
def S7:Nat->Int×Int->dj:=mF v8 v_
def aol:CO:=cF v8 v_ S7 func144
def ahZ N n a:S7 (N+1) (n,a)=cond (1<=n)
 (cond (n<=1000)
  (cond (1<=a)
   (some (decide (a<=100)))
   (some false))
  (some false))
 (some false):=ci
def BV:Do CO:=[aol]
def z0:Do PV:=[.h pS,.h j1,.h j3]
def at4:Do (Nat×PO):=[(900,.box 95 z0)]
def BW:FD:=cw 73 f73 .z acc [] (bg [m5,to] at4) false false []
def Pj:Nat->Int×Int->At (Int×oR×Int×bh):=mF BV BW
def ap2:CO:=cF BV BW Pj func73
def ad1 N n a:Pj (N+1) (n,a)=aW (S7 N (n,a)) λb=>
 cond (!b)
  (some ((1:Int),[],(0:Int),[]))
  (aW (oD n (1:Nat)) λc=>
  some ((0:Int),[((0:Int),n,(-(1:Int)),(0:Int))],a,(replicate c false))):=ci
def BX:Do CO:=[ap2]
def i9:Do PV:=[.h pS,.h j1,.h j3,.h fH,.h .b,.h j1,.h j1]
def aft:Nat×PO:=(900,.box 97 i9)
def BY:FD:=cw 28 f28 .z n9 [] (bg [ul,LE] [aft]) false false []
def Pk:Nat->Int×Int×Int->At (Int×oR×Int×bh×A3×In×Int×Int):=mF BX BY
def ap3:CO:=cF BX BY Pk func28
def ad2 N n d c:Pk (N+1) (n,d,c)=cond (c<(1:Int))
 (some ((1:Int),[],(0:Int),[],[],false,(0:Int),(0:Int)))
 (cond ((8:Int)<c)
  (some ((1:Int),[],(0:Int),[],[],false,(0:Int),(0:Int)))
  (aW (Pj N (n,d)) λb=>
  cond (!(b.1=(0:Int)))
   (some (b.1,[],(0:Int),[],[],false,(0:Int),(0:Int)))
   (aW (oD c (24:Nat)) λa=>
   aW (aZ (replicate a ([]:aX)) (0:Int)) λf=>
   aW (aZ (replicate a ([]:aX)) (0:Int)) λe=>
   cond (nH e)
    (aW (aZ (replicate a ([]:aX)) (0:Int)) λg=>
    aW (aZ (replicate a ([]:aX)) (0:Int)) λh=>
    aW (aZ (replicate a ([]:aX)) (0:Int)) λi=>
    some ((0:Int),b.2.1,b.2.2.1,b.2.2.2,(List.set (replicate a ([]:aX)) (Int.toNat (0:Int)) ([]++[(0:Int)])),false,(0:Int),(0:Int)))
    none))):=ci
def r8:Do CO:=[aol]
def S8:PS:=bg [g9,(25,.h pS),avl,(27,.h j1)] at4
def S9:Do (IR×PS):=[((.exit 0),bg [] []),(.ret,bg lc [])]
def S_:Pl:=.z
def BZ:Nat->Nat->oR×Int×Int×oR×Int×bh->At ((Unit)⊕(In)):=eZ r8 f165 [1,1,0,1,0,0] S8 S9 S_
def B0:FD:=cw 165 f165 (.n .z (.n .z (.n (.n .z (.n (.loop S8 S9 S_) .z)) .z))) [.ag z0] [] (bg lc []) false true []
def JG:Nat->oR×Int×bh->dj:=mF r8 B0
def ah0:CO:=cF r8 B0 JG func165
def JH N m c d b w f e:BZ N (m+1) (c,d,b,w,f,e)=cond (b<d)
 (aW (aZ c b) λa=>
 cond (a.1<0)
  (some (.inr false))
  (cond (a.2.1<=a.1)
   (some (.inr false))
   (cond ((length e:Int)<a.2.1)
    (some (.inr false))
    (cond (a.2.2.1<(-1))
     (some (.inr false))
     (cond (b<=a.2.2.1)
      (some (.inr false))
      (cond (a.2.2.2<0)
       (some (.inr false))
       (cond (2<a.2.2.2)
        (some (.inr false))
        ((BZ N m (c,d,(wZ (b+1)),w,f,e))))))))))
 (some (.inl ())):=ci
def ad3 N w a b:JG (N+1) (w,a,b)=aW (S7 N ((length b:Int),a)) λc=>
 cond (!c)
  (some false)
  (cond ((length w:Int)=0)
   (some false)
   (cond (2000<(length w:Int))
    (some false)
    (aW (BZ N N (w,(length w:Int),0,w,a,b)) λd=>
    (match d with
    |.inl f=>some true
    |.inr e=>some e)))):=ci
def wa:Do CO:=[]
def wb:FD:=cw 166 f166 .z ao3 [] (bg lc []) false true []
def Ta:Nat->Int->dj:=mF wa wb
def asY:CO:=cF wa wb Ta func166
def ah1 N n:Ta (N+1) n=cond (0<=n)
 (some (decide (n<=100000)))
 (some false):=ci
def B1:Do CO:=[ah0]
def ars:Do PV:=[.ag z0,.h j1]
def B2:FD:=cw 268 f268 .z ars [] (bg [ls] []) false true []
def EO:Nat->oR×Int×bh×Int->eF:=mF B1 B2
def Xe:CO:=cF B1 B2 EO func268
def ad4 N w a b i:EO (N+1) (w,a,b,i)=aW (JG N (w,a,b)) λc=>
 cond (!c)
  (some 1)
  (cond (i<0)
   (some 6)
   (cond ((length w:Int)<=i)
    (some 6)
    (some 0))):=ci
def B3:Do CO:=[]
def B4:FD:=cw 269 f269 .z [.ag [.h j1,.h j1,.h j1,.h j1]] [] (bg [z9] []) false true []
def Ao:Nat->Int×Int×Int×Int->eF:=mF B3 B4
def Xf:CO:=cF B3 B4 Ao func269
def ad5 N t a b c:Ao (N+1) (t,a,b,c)=some (wZ (a - t)):=ci
def B5:Do CO:=[Xe,Xf]
def B6:FD:=cw 219 f219 .z ars [] (bg n7 []) false true []
def JI:Nat->oR×Int×bh×Int->dj:=mF B5 B6
def ah2:CO:=cF B5 B6 JI func219
def ad6 N w b c i:JI (N+1) (w,b,c,i)=aW (EO N (w,b,c,i)) λd=>
 cond (d=0)
  (aW (aZ w i) λa=>
  aW (Ao N (a.1,a.2.1,a.2.2.1,a.2.2.2)) λe=>
  some (decide (b<e)))
  (some false):=ci
def B7:Do CO:=[ah2]
def B8:FD:=cw 167 f167 .z ars [] (bg n7 []) false true []
def Pm:Nat->oR×Int×bh×Int->dj:=mF B7 B8
def ap4:CO:=cF B7 B8 Pm func167
def ad7 N w b a t:Pm (N+1) (w,b,a,t)=cond (0<=t)
 (cond (t<(length w:Int))
  (aW (aZ w t) λc=>
  cond (c.2.2.2=0)
   (aW (JI N (w,b,a,t)) λd=>
   cond d
    (some true)
    (aW (aZ w t) λe=>
    aW (aZ a e.1) λf=>
    some (!f)))
   (some false))
  (some false))
 (some false):=ci
def mX:Do CO:=[ah0,asY,ap4]
def ary:Nat×PV:=(45,.h j1)
def avn:Nat×PV:=(46,.h j1)
def Tb:PS:=bg [g9,alm,(38,.h fH),(39,.h j1),(40,.h j1),(44,.h j6),ary,avn] [aft,(901,.mp (.int .i64) j1 j1)]
def Tc:Do (IR×PS):=[((.exit 2),bg [g9,alm,(38,.h fH),(39,.h j1),(40,.h j1)] [aft,(901,.mp (.int .i64) j1 j1)]),(.ret,bg lc [])]
def Td:Pl:=.z
def B9:Nat->Nat->A3×Int×Int×aX×Int×Int×oR×Int×bh×A3×In×Int×Int×A1->At ((A3×Int×Int×oR×Int×bh×A3×In×Int×Int×A1)⊕(In)):=eZ mX f95 [1,1,1,0,1,0,0,1,1,0,0,1,1,0,0] Tb Tc Td
def Te:PS:=bg [g9,alm,(38,.h fH),(39,.h j1),(40,.h j1)] [aft,(901,.mp (.int .i64) j1 j1)]
def Tf:Do (IR×PS):=[((.exit 0),bg [] []),(.ret,bg lc [])]
def Tg:Pl:=(.n .z (.n .z (.n (.n (.n .z (.n .z (.n (.loop Tb Tc Td) .z))) .z) .z)))
def B_:Nat->Nat->A3×Int×Int×oR×Int×bh×A3×In×Int×Int×A1->At ((Unit)⊕(In)):=eZ mX f95 [1,1,1,0,1,0,0] Te Tf Tg
def Ca:FD:=cw 95 f95 (.n .z (.n .z (.n .z (.n (.n .z (.n (.loop Te Tf Tg) .z)) .z)))) [.ag i9] [] (bg lc []) false true []
def Pn:Nat->oR×Int×bh×A3×In×Int×Int->dj:=mF mX Ca
def ap5:CO:=cF mX Ca Pn func95
def JJ N m k l n o p f c d e g h i j a:B9 N (m+1) (k,l,n,o,p,f,c,d,e,g,h,i,j,a)=cond (f<p)
 (aW (aZ o f) λb=>
 cond (1<(Option.getD (bL j1 (dO j1 a b (wZ ((Option.getD (bL j1 a b) 0)+1))) b) 0))
  (some (.inr false))
  (aW (Pm N (c,d,e,b)) λq=>
  cond (!q)
   (some (.inr false))
   ((B9 N m (k,l,n,o,p,(wZ (f+1)),c,d,e,g,h,i,j,(dO j1 a b (wZ ((Option.getD (bL j1 a b) 0)+1))))))))
 (some (.inl (k,l,n,c,d,e,g,h,i,j,a))):=ci
def JK N m d e a c f g h i j k l:B_ N (m+1) (d,e,a,c,f,g,h,i,j,k,l)=cond (a<e)
 (aW (aZ d a) λn=>
 aW (B9 N N (d,e,a,n,(length n:Int),0,c,f,g,h,i,j,k,l)) λo=>
 (match o with
 |.inl b=>(B_ N m (b.1,b.2.1,(wZ (b.2.2.1+1)),b.2.2.2))
 |.inr p=>some (.inr p)))
 (some (.inl ())):=ci
def ad8 N c b d a g e f:Pn (N+1) (c,b,d,a,g,e,f)=aW (JG N (c,b,d)) λh=>
 cond (!h)
  (some false)
  (cond ((length a:Int)=0)
   (some false)
   (cond (8<(length a:Int))
    (some false)
    (aW (Ta N e) λi=>
    cond (!i)
     (some false)
     (aW (Ta N f) λj=>
     cond (!j)
      (some false)
      (aW (B_ N N (a,(length a:Int),0,c,b,d,a,g,e,f,[])) λk=>
      (match k with
      |.inl m=>some true
      |.inr l=>some l)))))):=ci
def iV:Do CO:=[]
def iW:FD:=cw 264 f264 .z [.h fH] [] (bg pm [(900,.arr 38 j6 true)]) true false [900]
def aag:Nat->A3->At (A3):=mF iV iW
def asZ:CO:=cF iV iW aag func264
def ah3 N s:aag (N+1) s=cond (rO s)
 (dem λc=>
 cond c
  (some [])
  (aW (er 24 [] s) λa=>
  some a))
 (aW (er 24 [] s) λb=>
 some b):=ci
def fb:Do CO:=[]
def av2:Do PV:=[.k (.pt 4294967296 0),.h j1]
def io:Nat×PO:=(4294967296,.box 348 [.h pS,.h j1,.h j3,.k (.ow 4294967297),.h .b,.h j1,.h j1,.h j1,.h j1,.h j1,.h .b])
def ST:Nat×PO:=(4294967297,.arr 38 j6 true)
def fc:FD:=cw 265 f265 .z av2 [io,ST] (bg [ls] [ST,io]) true false [4294967297,4294967296]
def Th:Nat->Int×oR×Int×bh×In×Int×Int×Int×Int×Int×In×A3->At (Int×A3×oR×Int×bh×In×Int×Int×Int×Int×Int×In):=mF fb fc
def as0:CO:=cF fb fc Th func265
def ah4 N n s b c d e f g i j a h:Th (N+1) (n,s,b,c,d,e,f,g,i,j,a,h)=aW (LS n (length h:Int)) λk=>
 aW (LS (wZ (k+(length h:Int))) (length h:Int)) λl=>
 some (l,h,s,b,c,d,e,f,g,i,j,a):=ci
def fu:Do CO:=[]
def fv:FD:=cw 266 f266 .z aff [io,ST] (bg [ava] [ST,io]) true false [4294967297,4294967296]
def Gi:Nat->Int×Int×oR×Int×bh×In×Int×Int×Int×Int×Int×In×A3->At (In×A3×oR×Int×bh×In×Int×Int×Int×Int×Int×In):=mF fu fv
def as1:CO:=cF fu fv Gi func266
def JL N p v s c d e f g i k l b h:Gi (N+1) (p,v,s,c,d,e,f,g,i,k,l,b,h)=aW (aZ h p) λr=>
 aW (aZ h p) λa=>
 aW (aZ h v) λw=>
 aW (aZ h v) λj=>
 cond (0<=(wZ ((length a:Int) - 1)))
  (aW (aZ a (wZ ((length a:Int) - 1))) λn=>
  aW (Rv a 0 (wZ ((length a:Int) - 1)) (wZ ((length a:Int) - 1))) λo=>
  cond ((wZ ((length a:Int) - 1))=(wZ ((length a:Int) - 1)))
   (aW (aZ h p) λx=>
   aW (aZ h p) λy=>
   some (true,(List.set h (Int.toNat p) o),s,c,d,e,f,g,i,p,n,b))
   none)
  (cond (0<(length j:Int))
   (aW (aZ j 0) λq=>
   aW (j0 j 1 (length j:Int)) λm=>
   aW (aZ h v) λt=>
   aW (aZ h v) λu=>
   some (true,(List.set h (Int.toNat v) m),s,c,d,e,f,g,i,v,q,b))
   (some (false,h,s,c,d,e,f,g,i,k,l,b))):=ci
def fC:Do CO:=[]
def fD:FD:=cw 311 f311 .z [.h pS] [] (bg pm [(900,.arr 197 j15 true)]) true true [900]
def Ti:Nat->oR->At (oR):=mF fC fD
def aom:CO:=cF fC fD Ti func311
def ah5 N s:Ti (N+1) s=cond (rO s)
 (dem λc=>
 cond c
  (some [])
  (aW (er 32 [] s) λa=>
  some a))
 (aW (er 32 [] s) λb=>
 some b):=ci
def Gj:Do CO:=[Xe,Xf,aom]
def Gk:FD:=cw 295 f295 .z ars [] (bg [m5,to,ww,LE] at4) false false []
def Po:Nat->oR×Int×bh×Int->At (Int×Int×Int×oR×Int×bh):=mF Gj Gk
def ap6:CO:=cF Gj Gk Po func295
def ad9 N w b c i:Po (N+1) (w,b,c,i)=aW (EO N (w,b,c,i)) λf=>
 cond (!(f=0))
  (some (0,0,f,w,b,c))
  (aW (aZ w i) λa=>
  aW (Ao N (a.1,a.2.1,a.2.2.1,a.2.2.2)) λh=>
  cond (h<=b)
   (some (0,0,5,w,b,c))
   (cond (0<a.2.2.2)
    (some (0,0,5,w,b,c))
    (cond (2000<(wZ ((length w:Int)+2)))
     (some (0,0,2,w,b,c))
     (aW (Ao N (a.1,a.2.1,a.2.2.1,a.2.2.2)) λg=>
     aW (Ti N w) λj=>
     aW (er 32 j [(a.1,(wZ (a.1+(wZ (Int.tdiv g 2)))),i,0),((wZ (a.1+(wZ (Int.tdiv g 2)))),a.2.1,i,0)]) λd=>
     aW (aZ d i) λk=>
     aW (aZ d i) λe=>
     some ((length w:Int),(wZ ((length w:Int)+1)),0,(List.set d (Int.toNat i) (e.1,e.2.1,e.2.2.1,2)),b,c))))):=ci
def kF:Do CO:=[]
def kG:FD:=cw 296 f296 .z au4 [] (bg [(2,.t j1)] []) false false []
def aah:Nat->aX->mR:=mF kF kG
def as2:CO:=cF kF kG aah func296
def ah6 N s:aah (N+1) s=aW (Rv s 0 (length s:Int) (length s:Int)) λa=>
 cond ((length s:Int)=(length s:Int))
  (some a)
  none:=ci
def iX:Do CO:=[]
def Ok:Nat×PO:=(900,.arr 4 .b true)
def iY:FD:=cw 312 f312 .z [.h j3] [] (bg pm [Ok]) true true [900]
def aai:Nat->bh->At (bh):=mF iX iY
def as3:CO:=cF iX iY aai func312
def ah7 N s:aai (N+1) s=cond (rO s)
 (dem λc=>
 cond c
  (some [])
  (aW (er 1 [] s) λa=>
  some a))
 (aW (er 1 [] s) λb=>
 some b):=ci
def my:Do CO:=[]
def adc:Nat×PV:=(0,.k (.ow 4294967296))
def acl:Do (Nat×PO):=[(4294967296,.arr 197 j15 true)]
def aaj:PS:=bg [adc,ali] acl
def aak:Do (IR×PS):=[((.exit 0),bg [] acl),(.ret,bg n7 acl)]
def aal:Pl:=.z
def HY:Nat->Nat->Int×oR->At ((oR)⊕(In×oR)):=eZ my f313 [1,0,0,0] aaj aak aal
def tv:FD:=cw 313 f313 (.n .z (.n (.n (.loop aaj aak aal) .z) .z)) [.k (.ow 4294967296),.h j1] acl (bg n7 acl) true true [4294967296]
def ah8:Nat->Int×oR->At (In×oR):=mF my tv
def as4:CO:=cF my tv ah8 func313
def xX N m a c:HY N (m+1) (a,c)=cond (!(a=(-1)))
 (aW (aZ c a) λh=>
 aW (aZ c a) λe=>
 cond (e.2.2.2=0)
  (some (.inr (false,c)))
  (aW (aZ c a) λd=>
  aW (aZ c a) λb=>
  aW (aZ (List.set c (Int.toNat a) (b.1,b.2.1,b.2.2.1,(wZ (d.2.2.2 - 1)))) a) λf=>
  cond (0<f.2.2.2)
   (some (.inr (false,(List.set c (Int.toNat a) (b.1,b.2.1,b.2.2.1,(wZ (d.2.2.2 - 1)))))))
   (aW (aZ (List.set c (Int.toNat a) (b.1,b.2.1,b.2.2.1,(wZ (d.2.2.2 - 1)))) a) λg=>
   (HY N m (g.2.2.1,(List.set c (Int.toNat a) (b.1,b.2.1,b.2.2.1,(wZ (d.2.2.2 - 1)))))))))
 (some (.inl c)):=ci
def ah9 N b a:ah8 (N+1) (b,a)=aW (HY N N (b,a)) λd=>
 (match d with
 |.inl e=>some (true,e)
 |.inr c=>some (c.1,c.2)):=ci
def EP:Do CO:=[Xe,Xf,aom,as3,as4]
def au3:Nat×PO:=(904,.arr 4 .b true)
def v5:Do (Nat×PO):=[(900,.box 95 [.k (.ow 903),.h j1,.k (.ow 904)]),(901,.box 95 [.k .nil,.h j1,.k .nil]),(902,.box 197 [.h j1,.h j1,.h j1,.h j1]),(903,.arr 197 j15 true),au3]
def Tj:PS:=bg [i8,SW,(8,.k (.pt 902 0)),alj] v5
def Tl:Do (IR×PS):=[((.exit 0),bg [i8,SW,(8,.k (.pt 902 0))] v5)]
def Tm:Pl:=.z
def Cb:Nat->Nat->Int×Int×Int×Int×Int×Int×Int×oR×bh->At (Int×Int×Int×Int×Int×Int×oR×bh):=eZ EP f297 [1,1,1,1,1,0,1,0,0] Tj Tl Tm
def M9:FD:=cw 297 f297 (.n .z (.n .z (.n .z (.n .z (.n .z (.n (.n .z (.n (.loop Tj Tl Tm) .z)) .z)))))) ars [] (bg [m5,ave,ww] at4) false false []
def Pp:Nat->oR×Int×bh×Int->At (In×Int×oR×Int×bh):=mF EP M9
def ap7:CO:=cF EP M9 Pp func297
def JM N m k w e t b c d f a:Cb N (m+1) (k,w,e,t,b,c,d,f,a)=cond (k<b)
 (aW (aZ a k) λg=>
 aW (aZ a k) λh=>
 (Cb N m ((wZ (k+1)),w,e,t,b,c,d,f,(List.set a (Int.toNat k) true))))
 (some (w,e,t,b,c,d,f,a)):=ci
def ad_ N w b c i:Pp (N+1) (w,b,c,i)=aW (EO N (w,b,c,i)) λe=>
 cond (!(e=0))
  (some (false,e,w,b,c))
  (aW (aZ w i) λa=>
  aW (Ao N (a.1,a.2.1,a.2.2.1,a.2.2.2)) λg=>
  cond (b<g)
   (some (false,5,w,b,c))
   (cond (0<a.2.2.2)
    (some (false,5,w,b,c))
    (aW (aZ c a.1) λh=>
    cond h
     (some (false,5,w,b,c))
     (aW (Ti N w) λj=>
     aW (aai N c) λk=>
     aW (Cb N N (a.1,b,0,a.1,a.2.1,a.2.2.1,a.2.2.2,j,k)) λd=>
     aW (ah8 N (d.2.2.2.2.1,d.2.2.2.2.2.2.1)) λf=>
     some (f.1,0,f.2,d.1,d.2.2.2.2.2.2.2))))):=ci
def fQ:Do CO:=[ah2,ap6,as2,ap7]
def fR:FD:=cw 267 f267 .z av2 [io,ST] (bg [ls] [ST,io]) true false [4294967297,4294967296]
def Tn:Nat->Int×oR×Int×bh×In×Int×Int×Int×Int×Int×In×A3->At (Int×A3×oR×Int×bh×In×Int×Int×Int×Int×Int×In):=mF fQ fR
def as5:CO:=cF fQ fR Tn func267
def To N p s j k l d e f g c i h:Tn (N+1) (p,s,j,k,l,d,e,f,g,c,i,h)=aW (JI N (s,j,k,c)) λm=>
 cond m
  (aW (Po N (s,j,k,c)) λa=>
  cond (a.2.2.1=0)
   (aW (aZ h p) λr=>
   aW (aZ h p) λn=>
   aW (aah N n) λo=>
   aW (er 8 o [a.2.1,a.1]) λq=>
   aW (aZ h p) λt=>
   aW (aZ h p) λu=>
   some (a.2.2.1,(List.set h (Int.toNat p) q),a.2.2.2.1,a.2.2.2.2.1,a.2.2.2.2.2,l,d,e,f,g,c,true))
   (some (a.2.2.1,h,a.2.2.2.1,a.2.2.2.2.1,a.2.2.2.2.2,l,d,e,f,g,c,i)))
  (aW (Pp N (s,j,k,c)) λb=>
  cond l
   (some (b.2.1,h,b.2.2.1,b.2.2.2.1,b.2.2.2.2,true,d,e,f,g,c,i))
   (some (b.2.1,h,b.2.2.1,b.2.2.2.1,b.2.2.2.2,b.1,d,e,f,g,c,i))):=ci
def Gl:Do CO:=[ap5,asZ,as0,as1,as5]
def ac4:Nat×PV:=(7,.k (.pt 901 0))
def Gm:FD:=cw 217 f217 .z [.ag i9,.h j1,.h j1] [] (bg [ul,ac4,v4] [aft,(901,.box 256 v9)]) false false []
def ER:Nat->oR×Int×bh×A3×In×Int×Int×Int×Int->At (Int×oR×Int×bh×A3×In×Int×Int×Int×Int×Int×In):=mF Gl Gm
def ah_:CO:=cF Gl Gm ER func217
def aea N c f g h i e j p v:ER (N+1) (c,f,g,h,i,e,j,p,v)=aW (Pn N (c,f,g,h,i,e,j)) λl=>
 cond (!l)
  (some (1,c,f,g,h,i,e,j,0,0,0,false))
  (cond (e=100000)
   (some (2,c,f,g,h,i,e,j,0,0,0,false))
   (aW (aag N h) λm=>
   aW (Th N (p,c,f,g,i,e,j,0,(-1),(-1),false,m)) λb=>
   aW (Th N (v,b.2.2.1,b.2.2.2.1,b.2.2.2.2.1,b.2.2.2.2.2.1,b.2.2.2.2.2.2.1,b.2.2.2.2.2.2.2.1,b.2.2.2.2.2.2.2.2.1,b.2.2.2.2.2.2.2.2.2.1,b.2.2.2.2.2.2.2.2.2.2.1,b.2.2.2.2.2.2.2.2.2.2.2,b.2.1)) λd=>
   aW (Gi N (b.1,d.1,d.2.2.1,d.2.2.2.1,d.2.2.2.2.1,d.2.2.2.2.2.1,(wZ (d.2.2.2.2.2.2.1+1)),d.2.2.2.2.2.2.2.1,b.1,d.2.2.2.2.2.2.2.2.2.1,d.2.2.2.2.2.2.2.2.2.2.1,d.2.2.2.2.2.2.2.2.2.2.2,d.2.1)) λa=>
   cond a.1
    (aW (Tn N (b.1,a.2.2.1,a.2.2.2.1,a.2.2.2.2.1,a.2.2.2.2.2.1,a.2.2.2.2.2.2.1,a.2.2.2.2.2.2.2.1,a.2.2.2.2.2.2.2.2.1,a.2.2.2.2.2.2.2.2.2.1,a.2.2.2.2.2.2.2.2.2.2.1,a.2.2.2.2.2.2.2.2.2.2.2,a.2.1)) λk=>
    cond (!(k.1=0))
     (some (k.1,c,f,g,h,i,e,j,0,0,0,false))
     (some (0,k.2.2.1,k.2.2.2.1,k.2.2.2.2.1,k.2.1,k.2.2.2.2.2)))
    (cond (a.2.2.2.2.2.2.2.1=100000)
     (some (2,c,f,g,h,i,e,j,0,0,0,false))
     (some (0,a.2.2.1,a.2.2.2.1,a.2.2.2.2.1,a.2.1,a.2.2.2.2.2.1,a.2.2.2.2.2.2.1,(wZ (a.2.2.2.2.2.2.2.1+1)),a.2.2.2.2.2.2.2.2.1,a.2.2.2.2.2.2.2.2.2.1,a.2.2.2.2.2.2.2.2.2.2.1,a.2.2.2.2.2.2.2.2.2.2.2))))):=ci
def ia:Do CO:=[ah_]
def alp:Nat×PO:=(900,.arr 256 ta true)
def ip:Do (Nat×PO):=[(4294967296,.box 252 [.h pS,.h j1,.h j3,.h fH,.h .b,.h j1,.h j1,.k (.ow 900)]),alp]
def ib:FD:=cw 162 f162 .z aff [(4294967296,.box 252 [.h pS,.h j1,.h j3,.h fH,.h .b,.h j1,.h j1,.k .nil])] (bg [ww] ip) true false [4294967296,900]
def as6:Nat->Int×Int×oR×Int×bh×A3×In×Int×Int->At A14:=mF ia ib
def as7:CO:=cF ia ib as6 func162
def ic:Do CO:=[ah_]
def act:Do (Nat×PO):=[(4294967296,.box 252 [.h pS,.h j1,.h j3,.h fH,.h .b,.h j1,.h j1,.k (.ow 4294967297)]),(4294967297,.arr 256 ta true)]
def aua:Nat×PO:=(901,.arr 256 ta true)
def ie:FD:=cw 162 f162 .z aff act (bg [ww] [(4294967296,.box 252 [.h pS,.h j1,.h j3,.h fH,.h .b,.h j1,.h j1,.k (.ow 901)]),aua]) true false [4294967296,901]
def Tp:Nat->Int×Int×oR×Int×bh×A3×In×Int×Int×fB->At A14:=mF ic ie
def aon:CO:=cF ic ie Tp func162
def aia N p v g b c d e f i h:Tp (N+1) (p,v,g,b,c,d,e,f,i,h)=aW (ER N (g,b,c,d,e,f,i,p,v)) λa=>
 cond (a.1=0)
  (aW (er 32 h [(a.2.2.2.2.2.2.2.2.1,a.2.2.2.2.2.2.2.2.2.1,a.2.2.2.2.2.2.2.2.2.2.1,a.2.2.2.2.2.2.2.2.2.2.2)]) λj=>
  some (a.1,a.2.1,a.2.2.1,a.2.2.2.1,a.2.2.2.2.1,a.2.2.2.2.2.1,a.2.2.2.2.2.2.1,a.2.2.2.2.2.2.2.1,j))
  (some (a.1,g,b,c,d,e,f,i,h)):=ci
def wc:Do CO:=[]
def Tq:PS:=bg [z9,(6,.h fH),LE,v4] []
def Ts:Do (IR×PS):=[((.exit 0),bg [z9] [])]
def Tt:Pl:=.z
def Cc:Nat->Nat->Int×A3×Int×Int->eF:=eZ wc f218 [1,0,1,0,0] Tq Ts Tt
def Gn:FD:=cw 218 f218 (.n .z (.n (.n .z (.n (.loop Tq Ts Tt) .z)) .z)) [.ag i9] [] (bg [z9] []) false true []
def Pq:Nat->oR×Int×bh×A3×In×Int×Int->eF:=mF wc Gn
def ap8:CO:=cF wc Gn Pq func218
def JN N m n b c a:Cc N (m+1) (n,b,c,a)=cond (a<c)
 (aW (aZ b a) λd=>
 (Cc N m ((wZ (n+(length d:Int))),b,c,(wZ (a+1)))))
 (some n):=ci
def aeb N c b d a e f g:Pq (N+1) (c,b,d,a,e,f,g)=aW (Cc N N (0,a,(length a:Int),0)) λh=>
 some h:=ci
def ec:Do CO:=[ap8,aon]
def wl:Nat×PV:=(0,.k (.pt 4294967296 0))
def aam:PS:=bg [wl,So,arw,PP] ip
def aan:Do (IR×PS):=[((.exit 2),bg [wl,So] ip),(.ret,bg [z9] ip)]
def aao:Pl:=.z
def r9:Nat->Nat->Int×Int×Int×oR×Int×bh×A3×In×Int×Int×fB->At (A14⊕A14):=eZ ec f163 [1,1,0,0,0,0,1,0,0] aam aan aao
def aap:PS:=bg [wl,So] [(4294967296,.box 252 [.h pS,.h j1,.h j3,.h fH,.h .b,.h j1,.h j1,.k (.ow 907)]),(907,.arr 256 ta true)]
def aaq:Do (IR×PS):=[(.ret,bg [z9] ip)]
def aar:Pl:=(.n (.n (.n .z (.n (.loop aam aan aao) .z)) .z) .z)
def HZ:Nat->Nat->Int×oR×Int×bh×A3×In×Int×Int×fB->At A14:=eZ ec f163 [1,1,0,0] aap aaq aar
def gL:FD:=cw 163 f163 (.n .z (.n .z (.n (.loop aap aaq aar) .z))) m2 act (bg [z9] ip) true false [4294967296,900]
def aib:Nat->oR×Int×bh×A3×In×Int×Int×fB->At A14:=mF ec gL
def as8:CO:=cF ec gL aib func163
def qV N m r j h g b c d a e f i:r9 N (m+1) (r,j,h,g,b,c,d,a,e,f,i)=cond (h<j)
 (cond a
  (some (.inr (0,g,b,c,d,a,e,f,i)))
  (aW (Pq N (g,b,c,d,a,e,f)) λl=>
  cond (l=0)
   (some (.inr (4,g,b,c,d,a,e,f,i)))
   (aW (Tp N (h,(wZ ((wZ (h+1))+r)),g,b,c,d,a,e,f,i)) λk=>
   cond (!(k.1=0))
    (some (.inr k))
    ((r9 N m (r,j,(wZ (h+1)),k.2))))))
 (some (.inl (r,g,b,c,d,a,e,f,i))):=ci
def xY N m r g b c a d e f h:HZ N (m+1) (r,g,b,c,a,d,e,f,h)=aW (r9 N N (r,(length a:Int),0,g,b,c,a,d,e,f,h)) λj=>
 (match j with
 |.inl i=>(HZ N m ((wZ (i.1+1)),i.2))
 |.inr k=>some k):=ci
def aic N g a b c d e f h:aib (N+1) (g,a,b,c,d,e,f,h)=aW (HZ N N (0,g,a,b,c,d,e,f,h)) λi=>
 some i:=ci
def pY:Do CO:=[ap3,as7,aon,as8]
def ada:Nat×PV:=(8,.k (.pt 900 0))
def z2:Do (Nat×PO):=[(900,.box 97 [.k .nil,.h j1,.k .nil,.k .nil,.h .b,.h j1,.h j1]),(901,.box 252 [.h pS,.h j1,.h j3,.h fH,.h .b,.h j1,.h j1,.k (.ow 902)]),(902,.arr 256 ta true)]
def aas:PS:=bg [ada,(13,.k (.pt 901 0)),(31,.h hS),(32,.h j1),(33,.h j1)] z2
def apc:Nat×PV:=(9,.k (.ow 901))
def aat:Do (IR×PS):=[((.exit 0),bg [ada,(13,.k (.pt 901 0))] z2),(.ret,bg [ada,apc,LT] [aft,aua])]
def aau:Pl:=.z
def Cd:Nat->Nat->A1×Int×Int×Int×In×Int×Int×oR×Int×bh×A3×In×Int×Int×fB->At ((Int×In×Int×Int×oR×Int×bh×A3×In×Int×Int×fB)⊕A14):=eZ pY f90 [1,1,1,1,0,1,0,0] aas aat aau
def yU:FD:=cw 90 f90 (.n .z (.n .z (.n .z (.n .z (.n (.n .z (.n (.loop aas aat aau) .z)) .z))))) [.h j1,.h j1,.h j1,.h hS] [] (bg [ada,apc,LT] [aft,aua]) true false [901]
def Tu:Nat->Int×Int×Int×A1->At A14:=mF pY yU
def as9:CO:=cF pY yU Tu func90
def ES N m o p h i j k l g b c d a e f n:Cd N (m+1) (o,p,h,i,j,k,l,g,b,c,d,a,e,f,n)=cond (h<p)
 (aW (aZ o h) λr=>
 cond a
  (some (.inl (i,j,k,l,g,b,c,d,a,e,f,n)))
  (aW (Tp N (r.1,r.2,g,b,c,d,a,e,f,n)) λq=>
  cond (!(q.1=0))
   (some (.inr q))
   ((Cd N m (o,p,(wZ (h+1)),i,j,k,l,q.2)))))
 (some (.inl (i,j,k,l,g,b,c,d,a,e,f,n))):=ci
def aid N n c d b:Tu (N+1) (n,c,d,b)=aW (Pk N (n,c,d)) λa=>
 cond (!(a.1=0))
  (some (a.1,[],0,[],[],false,0,0,[]))
  (aW (Cd N N (b,(length b:Int),0,0,false,0,0,a.2.1,a.2.2.1,a.2.2.2.1,a.2.2.2.2.1,a.2.2.2.2.2.1,a.2.2.2.2.2.2.1,a.2.2.2.2.2.2.2,[])) λe=>
  (match e with
  |.inl g=>aW (aib N g.2.2.2.2) λf=>
   some f
  |.inr h=>some h)):=ci
def nQ:Do CO:=[]
def aav:PS:=bg [i8,aln,(9,.h iU),LT,afc] [aft,(901,.arr 191 j5 true)]
def aaw:Do (IR×PS):=[((.exit 0),bg [rt] [(900,.arr 191 j5 true)])]
def aax:Pl:=.z
def r_:Nat->Nat->fB×Int×Int×oR×Int×bh×A3×In×Int×Int×A1->At (A1):=eZ nQ f91 [1,1,0,1,0,0] aav aaw aax
def we:FD:=cw 91 f91 (.n .z (.n .z (.n (.n .z (.n (.loop aav aaw aax) .z)) .z))) [.ag i9,.h iU] [] (bg [ld] [(900,.arr 191 j5 true)]) true true [900]
def aay:Nat->oR×Int×bh×A3×In×Int×Int×fB->At (A1):=mF nQ we
def as_:CO:=cF nQ we aay func91
def M_ N m e d a c f g h i j k b:r_ N (m+1) (e,d,a,c,f,g,h,i,j,k,b)=cond (a<d)
 (aW (aZ e a) λl=>
 cond l.2.2.2
  ((r_ N m (e,d,(wZ (a+1)),c,f,g,h,i,j,k,b)))
  (cond (l.2.2.1<0)
   ((r_ N m (e,d,(wZ (a+1)),c,f,g,h,i,j,k,b)))
   (cond ((length c:Int)<=l.2.2.1)
    ((r_ N m (e,d,(wZ (a+1)),c,f,g,h,i,j,k,b)))
    (aW (aZ c l.2.2.1) λn=>
    aW (er 16 b [(n.1,n.2.1)]) λo=>
    (r_ N m (e,d,(wZ (a+1)),c,f,g,h,i,j,k,o))))))
 (some b):=ci
def aie N c a b d e f g l:aay (N+1) (c,a,b,d,e,f,g,l)=aW (r_ N N (l,(length l:Int),0,c,a,b,d,e,f,g,[])) λh=>
 some h:=ci
def mY:Do CO:=[ap1,as9,as_]
def m7:Nat×PV:=(8,.k (.ow 900))
def ard:Nat×PO:=(903,.arr 3 j1 true)
def Tv:PS:=bg [m7,(10,.k (.ow 903)),(12,.k (.pt 901 0)),(44,.k (.ow 902)),ary,avn,(54,.h j1),(55,.h j1)] [alp,ard,(901,.box 191 acc),(902,.arr 191 j5 true)]
def arz:Nat×PV:=(10,.k (.ow 901))
def Tw:Do (IR×PS):=[((.exit 2),bg [m7,arz,(44,.k (.ow 902)),ary,avn] [alp,m6,(902,.arr 191 j5 true)])]
def Tx:Pl:=.z
def Ce:Nat->Nat->Int×Int×Int×Int×fB×aX×Int×Int×A1->At (Int×Int×fB×aX×A1):=eZ mY f33 [1,1,1,1,1,1,0,1,0,0,1,1,0,0,1,1,0,0] Tv Tw Tx
def amx:Nat×PO:=(902,.arr 3 j1 true)
def Ty:PS:=bg [m7,aoc,(44,.k (.ow 901)),ary,avn] [alp,amx,(901,.arr 191 j5 true)]
def Tz:Do (IR×PS):=[((.exit 0),bg [m7,arz] [alp,m6])]
def TB:Pl:=(.n .z (.n .z (.n (.n (.n .z (.n .z (.n (.loop Tv Tw Tx) .z))) .z) .z)))
def Cf:Nat->Nat->Int×Int×fB×aX×A1->At (fB×aX):=eZ mY f33 [1,1,1,1,1,1,0,1,0,0] Ty Tz TB
def Cg:FD:=cw 33 f33 (.n .z (.n .z (.n .z (.n .z (.n .z (.n .z (.n (.n .z (.n (.loop Ty Tz TB) .z)) .z))))))) [.h j1,.ag afr] [] (bg [ld,to,ww] [gt]) true true [900]
def kH:Nat->Int×Int×Int×A1->At A7:=mF mY Cg
def Xg:CO:=cF mY Cg kH func33
def JO N m c d e v55 l a s f b:Ce N (m+1) (c,d,e,v55,l,a,s,f,b)=cond (v55<e)
 (aW (er 8 a [(wZ (s+v55))]) λg=>
 (Ce N m (c,d,e,(wZ (v55+1)),l,g,s,f,b)))
 (some (c,d,l,a,b)):=ci
def JP N m f a l e c:Cf N (m+1) (f,a,l,e,c)=cond (a<f)
 (aW (aZ c a) λg=>
 aW (aZ c a) λd=>
 aW (Ce N N (f,a,(wZ (d.2 - d.1)),0,l,e,d.1,d.2,c)) λb=>
 (Cf N m (b.1,(wZ (b.2.1+1)),b.2.2.1,b.2.2.2.1,b.2.2.2.2)))
 (some (l,e)):=ci
def ET N n p p2 p3:kH (N+1) (n,p,p2,p3)=cond (n<0)
 (some (0,1,[]))
 (cond (1000<n)
  (some (0,1,[]))
  (aW (JF N (p,p2,p3)) λd=>
  cond (!d)
   (some (0,1,[]))
   (cond (n=0)
    (some (0,0,[]))
    (aW (Tu N (n,p,p2,p3)) λa=>
    cond (!(a.1=0))
     (some (0,a.1,[]))
     (aW (aay N a.2) λb=>
     aW (Cf N N ((length b:Int),0,a.2.2.2.2.2.2.2.2,[],b)) λc=>
     some ((length c.1:Int),0,c.2)))))):=ci
def Gp:Do CO:=[]
def Gq:FD:=cw 307 f307 .z [.h j8,.h j1,.h j1] [] (bg [(6,.h j8)] []) false false []
def JQ:Nat->aX×Int×Int->mR:=mF Gp Gq
def ap9:CO:=cF Gp Gq JQ func307
def aec N l i a:JQ (N+1) (l,i,a)=aW (j0 l (wZ (i*a)) (if((wZ ((wZ (i+1))*a))<(length l:Int))then(wZ ((wZ (i+1))*a))else(length l:Int))) λb=>
 some b:=ci
def yV:Do CO:=[]
def yW:FD:=cw 285 f285 .z [.h j2,.h j2] [] (bg [(4,.h j2)] []) false true []
def Pr:Nat->Int×Int->eF:=mF yV yW
def aif:CO:=cF yV yW Pr func285
def Na N a b:Pr (N+1) (a,b)=some (wrap .u32 (a+b)):=ci
def fZ:Do CO:=[aif]
def jp:Nat×PO:=(900,.arr 69 j2 true)
def aaz:PS:=bg [(1,.k (.v (.func (.func 285) #[] #[]))),n8,(7,.h j2),(13,.h j8),PP,avm] [jp]
def aaA:Do (IR×PS):=[((.exit 0),bg [n8,(7,.h j2)] [jp])]
def aaB:Pl:=.z
def H2:Nat->Nat->Int×aX×Int×Int×aX->At A6:=eZ fZ f306 [1,1,1,0,1,0,0] aaz aaA aaB
def jr:FD:=cw 306 f306 (.n .z (.n .z (.n .z (.n (.n .z (.n (.loop aaz aaA aaB) .z)) .z)))) [.h j8,.k (.v (.func (.func 285) #[] #[]))] [] (bg [ld,(5,.h j2)] [jp]) true true [900]
def Nb:Nat->aX->At A6:=mF fZ jr
def ata:CO:=cF fZ jr Nb func306
def Nc N m all c d a b:H2 N (m+1) (all,c,d,a,b)=cond (a<d)
 (aW (aZ c a) λe=>
 aW (aZ b a) λg=>
 aW (aZ b a) λh=>
 aW (Pr N (all,e)) λf=>
 (H2 N m (f,c,d,(wZ (a+1)),(List.set b (Int.toNat a) all))))
 (some (all,b)):=ci
def aih N l:Nb (N+1) l=aW (oD (length l:Int) (4:Nat)) λb=>
 aW (H2 N N ((0:Int),l,(length l:Int),(0:Int),(replicate b (0:Int)))) λa=>
 some (a.1,a.2):=ci
def dZ:Do CO:=[ahY,ap0,Xg,ap9,ata,aif]
def afw:Nat×PV:=(0,.h j8)
def z3:Nat×PV:=(3,.k (.v (.func (.func 285) #[] #[])))
def avq:Nat×PV:=(17,.k (.ow 901))
def avr:Nat×PV:=(19,.h j1)
def avs:Nat×PV:=(76,.k (.ow 902))
def ac0:Nat×PO:=(901,.arr 69 j2 true)
def aaC:PS:=bg [afw,ali,z3,m7,(9,.h j2),LT,avq,avr,avs,(77,.h j1),(78,.h j1),(91,.k (.ow 903)),(92,.h j1),(93,.h j1)] [jp,ac0,amx,(903,.arr 69 j2 true)]
def aaD:Do (IR×PS):=[((.exit 4),bg [afw,ali,z3,m7,(9,.h j2),LT,avq,avs,(77,.h j1),(78,.h j1)] [jp,ac0,amx])]
def aaE:Pl:=.z
def Ch:Nat->Nat->aX×Int×Int×Int×Int×Int×Int×Int×Int×aX×aX×aX×aX->At (aX×Int×Int×Int×Int×Int×aX×aX×aX):=eZ dZ f284 [1,1,1,1,1,1,1,1,1,0,1,0,0,1,1,0,0,1,1,1,0,0] aaC aaD aaE
def aaF:PS:=bg [afw,ali,z3,m7,(9,.h j2),LT,avq,avs,(77,.h j1),(78,.h j1)] [jp,ac0,amx]
def aaG:Do (IR×PS):=[((.exit 2),bg [m7,(9,.h j2),LT] [jp])]
def aaH:Pl:=(.n .z (.n .z (.n (.n (.n .z (.n .z (.n .z (.n (.loop aaC aaD aaE) .z)))) .z) .z)))
def H3:Nat->Nat->aX×Int×Int×Int×Int×Int×aX×aX×aX->At A7:=eZ dZ f284 [1,1,1,1,1,1,1,1,1,0,1,0,0] aaF aaG aaH
def asc:Nat×PV:=(13,.k (.ow 900))
def avt:Nat×PV:=(14,.k (.ow 901))
def aaI:PS:=bg [afw,ali,z3,LT,asc,avt,(48,.k (.ow 900)),(49,.h j1),(50,.h j1)] [gt,ac0]
def aaJ:Do (IR×PS):=[((.exit 0),bg [afw,ali,z3,LT,asc,avt] [gt,ac0])]
def aaK:Pl:=.z
def H4:Nat->Nat->aX×Int×Int×Int×Int×aX×aX->At (aX×Int×Int×aX×aX):=eZ dZ f284 [1,1,1,1,1,1,0,1,0,0] aaI aaJ aaK
def iZ:FD:=cw 284 f284 (.n .z (.n .z (.n .z (.n .z (.n .z (.n .z (.n (.n .z (.n (.loop aaI aaJ aaK) .z)) (.n .z (.n .z (.n (.n .z (.n (.loop aaF aaG aaH) .z)) .z)))))))))) [.h j8,.h j1,.ag afr,.k (.v (.func (.func 285) #[] #[]))] [] (bg [m7,(9,.h j2),LT,afc] [jp]) true true [900]
def aii:Nat->aX×Int×Int×Int×A1->aoU:=mF dZ iZ
def atb:CO:=cF dZ iZ aii func284
def Nd N m l a all e i g h j v93 c b f d:Ch N (m+1) (l,a,all,e,i,g,h,j,v93,c,b,f,d)=cond (v93<j)
 (aW (aZ d v93) λp=>
 aW (aZ d v93) λk=>
 aW (aZ b i) λq=>
 aW (aZ b i) λn=>
 aW (Pr N (n,k)) λo=>
 aW (aZ c (wZ ((wZ (i*a))+v93))) λr=>
 aW (aZ c (wZ ((wZ (i*a))+v93))) λs=>
 (Ch N m (l,a,all,e,i,g,h,j,(wZ (v93+1)),(List.set c (Int.toNat (wZ ((wZ (i*a))+v93))) o),b,f,d)))
 (some (l,a,all,e,g,h,c,b,f)):=ci
def Nf N m l d all f g b e h c:H3 N (m+1) (l,d,all,f,g,b,e,h,c)=cond (b<g)
 (aW (aZ c b) λn=>
 aW (aZ c b) λi=>
 aW (JQ N (l,i,d)) λk=>
 aW (Nb N k) λj=>
 aW (Ch N N (l,d,all,f,i,g,b,(length j.2:Int),0,e,h,c,j.2)) λa=>
 (H3 N m (a.1,a.2.1,a.2.2.1,a.2.2.2.1,a.2.2.2.2.1,(wZ (a.2.2.2.2.2.1+1)),a.2.2.2.2.2.2.1,a.2.2.2.2.2.2.2.1,a.2.2.2.2.2.2.2.2)))
 (some (all,f,e)):=ci
def Ng N m l d f g c b a:H4 N (m+1) (l,d,f,g,c,b,a)=cond (c<g)
 (aW (aZ b c) λj=>
 aW (aZ b c) λe=>
 aW (JQ N (l,e,d)) λh=>
 aW (Nb N h) λi=>
 aW (aZ a e) λk=>
 aW (aZ a e) λn=>
 (H4 N m (l,d,f,g,(wZ (c+1)),b,(List.set a (Int.toNat e) i.1))))
 (some (l,d,f,b,a)):=ci
def TD N l c p p2 p3:aii (N+1) (l,c,p,p2,p3)=aW (Pg N c) λg=>
 cond (!g)
  (some ((0:Int),(0:Int),(1:Int),[]))
  (cond ((1000:Int)<(length l:Int))
   (some ((0:Int),(0:Int),(1:Int),[]))
   (aW (Ph N ((length l:Int),c)) λe=>
   aW (kH N (e,p,p2,p3)) λb=>
   cond (!(b.2.1=(0:Int)))
    (some ((0:Int),(0:Int),b.2.1,[]))
    (aW (oD e (4:Nat)) λh=>
    aW (H4 N N (l,c,b.1,(length b.2.2:Int),(0:Int),b.2.2,(replicate h (0:Int)))) λa=>
    aW (Nb N a.2.2.2.2) λf=>
    aW (oD (length a.1:Int) (4:Nat)) λi=>
    aW (H3 N N (a.1,a.2.1,f.1,a.2.2.1,(length a.2.2.2.1:Int),(0:Int),(replicate i (0:Int)),f.2,a.2.2.2.1)) λd=>
    some (d.1,(wZ ((2:Int)*d.2.1)),(0:Int),d.2.2)))):=ci
def Gr:Do CO:=[atb]
def Gs:FD:=cw 244 f244 .z [.h j8,.h j1,.ag afr] [] (bg [n8,(7,.h j2),v4,alj] [jp]) true true [900]
def JR:Nat->aX×Int×Int×Int×A1->aoU:=mF Gr Gs
def aij:CO:=cF Gr Gs JR func244
def Nh N l b p p2 p3:JR (N+1) (l,b,p,p2,p3)=aW (aii N (l,b,p,p2,p3)) λa=>
 some (a.1,a.2.1,a.2.2.1,a.2.2.2):=ci
def yX:Do CO:=[aok]
def yY:FD:=cw 308 f308 .z acc [] (bg n7 []) false true []
def aik:Nat->Int×Int->dj:=mF yX yY
def atc:CO:=cF yX yY aik func308
def ail N a bits:aik (N+1) (a,bits)=cond (0<=a)
 (aW (S5 N bits) λb=>
 some (decide (a<b)))
 (some false):=ci
def yZ:Do CO:=[atc]
def y0:FD:=cw 286 f286 .z [.h j2,.h j1,.h j1] [] (bg [(6,.h j2)] []) false true []
def TE:Nat->Int×Int×Int->eF:=mF yZ y0
def atd:CO:=cF yZ y0 TE func286
def aim N b a bits:TE (N+1) (b,a,bits)=aW (aik N (a,bits)) λc=>
 cond (!c)
  (some 0)
  (aW (afN .u32 b (wrap .u64 (wZ (a*bits)))) λd=>
  aW (Wm .u32 1 (wrap .u64 bits)) λe=>
  some (OB .and .u32 d (wrap .u32 (e - 1)))):=ci
def nR:Do CO:=[atd]
def alo:Nat×PV:=(9,.k (.ow 900))
def aod:Nat×PV:=(13,.k (.ow 901))
def TF:PS:=bg [afw,z9,So,alo,aod,(63,.h j6),(64,.h j1),(65,.h j1)] [gt,m6]
def TG:Do (IR×PS):=[((.exit 4),bg [asc] [gt])]
def TH:Pl:=.z
def Ci:Nat->Nat->aX×Int×Int×aX×Int×Int×aX×aX->mR:=eZ nR f245 [1,1,1,1,1,0,1,0,0] TF TG TH
def TI:PS:=bg [afw,(1,.h j6),z9,So,alo,(44,.h j1),ary] [gt]
def TJ:Do (IR×PS):=[((.exit 2),bg [afw,(1,.h j6),z9,So,alo] [gt])]
def TM:Pl:=.z
def Cj:Nat->Nat->aX×aX×Int×Int×Int×Int×aX->At (aX×aX×Int×Int×aX):=eZ nR f245 [1,1,1,0,1,0,0] TI TJ TM
def TN:PS:=bg [afw,(1,.h j6),z9,So,alo,(22,.h j6),(23,.h j1),(24,.h j1)] [gt]
def TO:Do (IR×PS):=[((.exit 0),bg [afw,(1,.h j6),z9,So,alo] [gt])]
def TP:Pl:=.z
def Ck:Nat->Nat->aX×aX×Int×Int×aX×Int×Int×aX->At (aX×aX×Int×Int×aX):=eZ nR f245 [1,1,0,1,0,0] TN TO TP
def JS:FD:=cw 245 f245 (.n .z (.n .z (.n (.n .z (.n (.loop TN TO TP) .z)) (.n (.n .z (.n (.loop TI TJ TM) .z)) (.n .z (.n (.n .z (.n (.loop TF TG TH) .z)) .z)))))) [.h j8,.h j6,.h j1,.h j1] [] (bg [m7] [gt]) true true [900]
def Ps:Nat->aX×aX×Int×Int->mR:=mF nR JS
def ap_:CO:=cF nR JS Ps func245
def JT N m e f bits g h d a c:Ci N (m+1) (e,f,bits,g,h,d,a,c)=cond (d<h)
 (aW (aZ g d) λj=>
 aW (aZ e j) λk=>
 aW (TE N (k,f,bits)) λb=>
 aW (aZ a b) λp=>
 aW (aZ a b) λi=>
 aW (aZ c i) λq=>
 aW (aZ c i) λr=>
 aW (aZ a b) λs=>
 aW (aZ a b) λl=>
 aW (aZ a b) λn=>
 aW (aZ a b) λo=>
 (Ci N m (e,f,bits,g,h,(wZ (d+1)),(List.set a (Int.toNat b) (wZ (l+1))),(List.set c (Int.toNat i) j))))
 (some c):=ci
def JU N m c d e bits f a b:Cj N (m+1) (c,d,e,bits,f,a,b)=cond (a<f)
 (aW (aZ b (wZ (a+1))) λh=>
 aW (aZ b (wZ (a+1))) λg=>
 aW (aZ b a) λi=>
 aW (aZ b a) λz4=>
 aW (aZ b (wZ (a+1))) λj=>
 aW (aZ b (wZ (a+1))) λk=>
 (Cj N m (c,d,e,bits,f,(wZ (a+1)),(List.set b (Int.toNat (wZ (a+1))) (wZ (g+z4))))))
 (some (c,d,e,bits,b)):=ci
def JV N m c f d bits g h e a:Ck N (m+1) (c,f,d,bits,g,h,e,a)=cond (e<h)
 (aW (aZ g e) λi=>
 aW (aZ c i) λj=>
 aW (TE N (j,d,bits)) λb=>
 aW (aZ a (wrap .u32 (b+1))) λl=>
 aW (aZ a (wrap .u32 (b+1))) λk=>
 aW (aZ a (wrap .u32 (b+1))) λn=>
 aW (aZ a (wrap .u32 (b+1))) λo=>
 (Ck N m (c,f,d,bits,g,h,(wZ (e+1)),(List.set a (Int.toNat (wrap .u32 (b+1))) (wZ (k+1))))))
 (some (c,f,d,bits,a)):=ci
def aed N d c e bits:Ps (N+1) (d,c,e,bits)=aW (Wm .i64 (1:Int) (wrap .u64 bits)) λf=>
 aW (oD (wZ (f+(1:Int))) (8:Nat)) λg=>
 aW (Ck N N (d,c,e,bits,c,(length c:Int),(0:Int),(replicate g (0:Int)))) λb=>
 aW (Cj N N (b.1,b.2.1,b.2.2.1,b.2.2.2.1,(wZ ((length b.2.2.2.2:Int) - (1:Int))),(0:Int),b.2.2.2.2)) λa=>
 aW (oD (length a.2.1:Int) (8:Nat)) λh=>
 aW (Ci N N (a.1,a.2.2.1,a.2.2.2.1,a.2.1,(length a.2.1:Int),(0:Int),a.2.2.2.2,(replicate h (0:Int)))) λi=>
 some i:=ci
def mZ:Do CO:=[aok,aij,ap_]
def asd:Nat×PV:=(16,.k (.ow 900))
def TQ:PS:=bg [afw,ali,afc,PP,asd,ary,avn] [gt]
def TS:Do (IR×PS):=[((.exit 2),bg [afc,PP,asd] [gt])]
def TT:Pl:=.z
def Co:Nat->Nat->aX×Int×Int×Int×Int×Int×aX->At A7:=eZ mZ f195 [1,1,1,1,1,1,1,0,1,0,0] TQ TS TT
def TU:PS:=bg [afw,ali,afc,PP,asd,(36,.h j1),(37,.h j1)] [gt]
def TV:Do (IR×PS):=[((.exit 0),bg [afw,ali,afc,PP,asd] [gt])]
def TW:Pl:=.z
def Cp:Nat->Nat->aX×Int×Int×Int×Int×Int×aX->At (aX×Int×Int×Int×aX):=eZ mZ f195 [1,1,1,1,1,1,0,1,0,0] TU TV TW
def Cq:FD:=cw 195 f195 (.n .z (.n .z (.n .z (.n .z (.n .z (.n .z (.n (.n .z (.n (.loop TU TV TW) .z)) (.n (.n .z (.n (.loop TQ TS TT) .z)) .z)))))))) [.h j8,.h j1,.h j1,.ag afr] [] (bg [m7,alj,LT] [gt]) true true [900]
def JW:Nat->aX×Int×Int×Int×Int×A1->At A7:=mF mZ Cq
def aqa:CO:=cF mZ Cq JW func195
def JX N m b bits d e f a c:Co N (m+1) (b,bits,d,e,f,a,c)=cond (a<f)
 (aW (Ps N (b,c,a,bits)) λg=>
 (Co N m (b,bits,d,e,f,(wZ (a+1)),g)))
 (some (d,e,c)):=ci
def JY N m b bits d e f a c:Cp N (m+1) (b,bits,d,e,f,a,c)=cond (a<f)
 (aW (er 8 c [a]) λg=>
 (Cp N m (b,bits,d,e,f,(wZ (a+1)),g)))
 (some (b,bits,d,e,c)):=ci
def Ni N b bits e p p2 p3:JW (N+1) (b,bits,e,p,p2,p3)=aW (S5 N bits) λf=>
 cond (f=0)
  (some (0,1,[]))
  (aW (JR N (b,e,p,p2,p3)) λc=>
  cond (!(c.2.2.1=0))
   (some (0,c.2.2.1,[]))
   (aW (Cp N N (b,bits,f,c.2.1,(length b:Int),0,[])) λa=>
   aW (Co N N (a.1,a.2.1,a.2.2.1,a.2.2.2.1,a.2.2.1,0,a.2.2.2.2)) λd=>
   some ((wZ (d.2.1*d.1)),0,d.2.2))):=ci
def sa:Do CO:=[]
def TY:PS:=bg [amy,ali,(5,.k (.mp 900)),(9,.h j6),LT,afc] [(900,.mp (.int .i64) j1 j1)]
def TZ:Do (IR×PS):=[((.exit 0),bg [amy,ali] []),(.ret,bg n7 [])]
def T0:Pl:=.z
def Cr:Nat->Nat->aX×Int×aX×Int×Int×A1->At ((aX×Int)⊕(In)):=eZ sa f246 [1,1,0,1,0,0] TY TZ T0
def Cs:FD:=cw 246 f246 (.n .z (.n .z (.n (.n .z (.n (.loop TY TZ T0) .z)) .z))) asq [] (bg n7 []) false true []
def Pt:Nat->aX×Int->dj:=mF sa Cs
def aqb:CO:=cF sa Cs Pt func246
def JZ N m d n f e c b:Cr N (m+1) (d,n,f,e,c,b)=cond (c<e)
 (aW (aZ f c) λa=>
 cond (a<0)
  (some (.inr false))
  (cond (n<=a)
   (some (.inr false))
   (cond (1<(Option.getD (bL j1 (dO j1 b a (wZ ((Option.getD (bL j1 b a) 0)+1))) a) 0))
    (some (.inr false))
    ((Cr N m (d,n,f,e,(wZ (c+1)),(dO j1 b a (wZ ((Option.getD (bL j1 b a) 0)+1)))))))))
 (some (.inl (d,n))):=ci
def aee N a n:Pt (N+1) (a,n)=aW (Cr N N (a,n,a,(length a:Int),0,[])) λc=>
 (match c with
 |.inl b=>some (decide ((length b.1:Int)=b.2))
 |.inr d=>some d):=ci
def nS:Do CO:=[aqb]
def aaL:PS:=bg [afw,n8,(14,.h j6),avm,(16,.h j1)] [jp]
def aaM:Do (IR×PS):=[((.exit 0),bg [n8] [jp])]
def aaN:Pl:=.z
def H5:Nat->Nat->aX×aX×Int×Int×aX->mR:=eZ nS f196 [1,1,1,0,1,0,0] aaL aaM aaN
def wg:FD:=cw 196 f196 (.n .z (.n .z (.n .z (.n (.n .z (.n (.loop aaL aaM aaN) .z)) .z)))) [.h j8,.h j6] [] (bg [ld,ave] [jp]) true true [900]
def aaO:Nat->aX×aX->At A9:=mF nS wg
def ate:CO:=cF nS wg aaO func196
def Nj N m b c d a l:H5 N (m+1) (b,c,d,a,l)=cond (a<d)
 (aW (aZ c a) λe=>
 aW (aZ b e) λf=>
 aW (er 4 l [f]) λg=>
 (H5 N m (b,c,d,(wZ (a+1)),g)))
 (some l):=ci
def ain N b a:aaO (N+1) (b,a)=aW (Pt N (a,(length b:Int))) λc=>
 cond (!c)
  (some (false,[]))
  (aW (H5 N N (b,a,(length a:Int),0,[])) λd=>
  some (true,d)):=ci
def nT:Do CO:=[]
def aaP:PS:=bg [afw,WF,(9,.h j8),LT,afc] [Ok]
def aaQ:Do (IR×PS):=[((.exit 0),bg [WF] [Ok])]
def aaR:Pl:=.z
def Ct:Nat->Nat->aX×aX×Int×Int×bh->At (bh):=eZ nT f198 [1,1,0,1,0,0] aaP aaQ aaR
def wh:FD:=cw 198 f198 (.n .z (.n .z (.n (.n .z (.n (.loop aaP aaQ aaR) .z)) .z))) [.h j8] [] (bg pm [Ok]) true true [900]
def aaS:Nat->aX->At (bh):=mF nT wh
def atf:CO:=cF nT wh aaS func198
def Nk N m b d c a l:Ct N (m+1) (b,d,c,a,l)=cond (a<c)
 (aW (aZ d a) λe=>
 cond (a=0)
  (aW (aZ l a) λg=>
  aW (aZ l a) λh=>
  (Ct N m (b,d,c,(wZ (a+1)),(List.set l (Int.toNat a) true))))
  (aW (aZ b (wZ (a - 1))) λf=>
  aW (aZ l a) λi=>
  aW (aZ l a) λj=>
  (Ct N m (b,d,c,(wZ (a+1)),(List.set l (Int.toNat a) (!(f=e)))))))
 (some l):=ci
def aio N a:aaS (N+1) a=aW (oD (length a:Int) (1:Nat)) λb=>
 aW (Ct N N (a,a,(length a:Int),(0:Int),(replicate b false))) λc=>
 some c:=ci
def sb:Do CO:=[]
def T1:PS:=bg [(1,.h .b),rt,(11,.h j3),(12,.h j1),arw] [jp]
def T2:Do (IR×PS):=[((.exit 0),bg [rt] [jp])]
def T3:Pl:=.z
def wi:Nat->Nat->In×bh×Int×Int×aX->mR:=eZ sb f248 [1,1,0,1,0,0] T1 T2 T3
def Cu:FD:=cw 248 f248 (.n .z (.n .z (.n (.n .z (.n (.loop T1 T2 T3) .z)) .z))) [.h j3,.h .b] [] (bg [ld] [jp]) true true [900]
def Pu:Nat->bh×In->mR:=mF sb Cu
def aqc:CO:=cF sb Cu Pu func248
def J0 N m b c d a l:wi N (m+1) (b,c,d,a,l)=cond (a<d)
 (aW (aZ c a) λe=>
 cond (!(e==b))
  (aW (aZ l a) λf=>
  aW (aZ l a) λg=>
  (wi N m (b,c,d,(wZ (a+1)),(List.set l (Int.toNat a) 1))))
  ((wi N m (b,c,d,(wZ (a+1)),l))))
 (some l):=ci
def aef N a b:Pu (N+1) (a,b)=aW (oD (length a:Int) (4:Nat)) λc=>
 aW (wi N N (b,a,(length a:Int),(0:Int),(replicate c (0:Int)))) λd=>
 some d:=ci
def pZ:Do CO:=[aij,Xg]
def avu:Nat×PV:=(15,.k (.ow 901))
def aaT:PS:=bg [afw,alo,afc,PP,avu,(43,.k (.ow 902)),(44,.h j1),ary] [jp,m6,amx]
def ab7:Nat×PV:=(15,.k (.ow 900))
def aaU:Do (IR×PS):=[((.exit 0),bg [afc,PP,ab7] [gt])]
def aaV:Pl:=.z
def Cv:Nat->Nat->aX×Int×Int×Int×Int×aX×aX×aX->At A7:=eZ pZ f247 [1,1,1,1,1,1,0,1,0,0] aaT aaU aaV
def y5:FD:=cw 247 f247 (.n .z (.n .z (.n .z (.n .z (.n .z (.n .z (.n (.n .z (.n (.loop aaT aaU aaV) .z)) .z))))))) [.h j8,.h j1,.ag afr] [] (bg [n8,LE,v4] [gt]) true true [900]
def aip:Nat->aX×Int×Int×Int×A1->At A7:=mF pZ y5
def atg:CO:=cF pZ y5 aip func247
def Nl N m d n e f a b l c:Cv N (m+1) (d,n,e,f,a,b,l,c)=cond (a<f)
 (aW (aZ c a) λj=>
 aW (aZ c a) λg=>
 aW (aZ d g) λi=>
 cond (i=1)
  (aW (aZ b g) λk=>
  aW (aZ b g) λh=>
  aW (aZ l h) λo=>
  aW (aZ l h) λp=>
  (Cv N m (d,n,e,f,(wZ (a+1)),b,(List.set l (Int.toNat h) g),c)))
  ((Cv N m (d,n,e,f,(wZ (a+1)),b,l,c))))
 (some (n,e,l)):=ci
def aiq N c d p p2 p3:aip (N+1) (c,d,p,p2,p3)=aW (JR N (c,d,p,p2,p3)) λa=>
 cond (!(a.2.2.1=(0:Int)))
  (some ((0:Int),a.2.2.1,[]))
  (aW (kH N ((length c:Int),p,p2,p3)) λb=>
  cond (!(b.2.1=(0:Int)))
   (some ((0:Int),b.2.1,[]))
   (aW (oD a.1 (8:Nat)) λe=>
   aW (Cv N N (c,a.2.1,b.1,(length b.2.2:Int),(0:Int),a.2.2.2,(replicate e (0:Int)),b.2.2)) λz4=>
   some ((wZ (z4.1+z4.2.1)),(0:Int),z4.2.2))):=ci
def Cw:Do CO:=[aqc,atg]
def Cx:FD:=cw 197 f197 .z [.h j3,.h j1,.ag afr] [] (bg [n8,LE,v4] [gt]) true true [900]
def Pv:Nat->bh×Int×Int×Int×A1->At A7:=mF Cw Cx
def aqd:CO:=cF Cw Cx Pv func197
def aeg N c b p p2 p3:Pv (N+1) (c,b,p,p2,p3)=aW (Pu N (c,false)) λd=>
 aW (aip N (d,b,p,p2,p3)) λa=>
 some (a.1,a.2.1,a.2.2):=ci
def kJ:Do CO:=[aqa,ate,atf,aqd]
def avv:Nat×PV:=(11,.k (.ow 900))
def ase:Nat×PV:=(15,.k (.ow 902))
def avw:Nat×PV:=(16,.k (.ow 903))
def avx:Nat×PV:=(55,.k (.ow 901))
def auh:Nat×PO:=(902,.arr 69 j2 true)
def aaW:PS:=bg [alj,avv,aod,PP,ase,avw,(17,.h j1),auw,avr,avx,(56,.h j1),(57,.h j1)] [jp,m6,auh,ard]
def aaX:Do (IR×PS):=[(.normal,bg [alj,avv,aod,PP,ase,avw,auw,avr,avx,(56,.h j1),(57,.h j1)] [jp,m6,auh,ard])]
def aaY:Pl:=.z
def Px:Nat->Nat->Int×Int×Int×Int×Int×Int×Int×aX×aX×aX×aX->At (Int×Int×Int×Int×Int×Int×aX×aX×aX×aX):=jnF kJ f150 [1,1,1,1,1,1,1,1,0,1,0,0,1,1,0,0,1,1,0] aaW aaX aaY
def aaZ:PS:=bg [alj,avv,aod,PP,ase,avw,avx,(56,.h j1),(57,.h j1)] [jp,m6,auh,ard]
def aa0:Do (IR×PS):=[((.exit 0),bg [alj,PP,ab7,(16,.k (.ow 901))] [jp,m6])]
def aa1:Pl:=(.n .z (.n .z (.n (.n (.n .z (.n .z (.n (.join aaW aaX aaY) .z))) .z) .z)))
def H7:Nat->Nat->Int×Int×Int×Int×aX×aX×aX×aX->alu:=eZ kJ f150 [1,1,1,1,1,1,1,1,0,1,0,0] aaZ aa0 aa1
def up:Do PV:=[.h j1,.h j1,.h j1,.h j1,.h hS]
def wj:FD:=cw 150 f150 (.n .z (.n .z (.n .z (.n .z (.n .z (.n .z (.n .z (.n .z (.n (.n .z (.n (.loop aaZ aa0 aa1) .z)) .z))))))))) [.h j8,.ag up] [] (bg [ld,aln,ww,LE] [jp,m6]) true true [900,901]
def air:Nat->aX×Int×Int×Int×Int×A1->alu:=mF kJ wj
def ath:CO:=cF kJ wj air func150
def aeh N m n f i b j g h d a c e:Px N (m+1) (n,f,i,b,j,g,h,d,a,c,e)=cond ((wZ (i+1))<(length a:Int))
 (aW (aZ a (wZ (i+1))) λl=>
 aW (aZ a (wZ (i+1))) λk=>
 some (n,f,b,k,g,h,d,a,c,e))
 (some (n,f,b,j,g,h,d,a,c,e)):=ci
def Nn N m n g h b e c d f:H7 N (m+1) (n,g,h,b,e,c,d,f)=cond (b<h)
 (aW (aZ c b) λo=>
 aW (aZ c b) λi=>
 aW (Px N N (n,g,b,i,(length e:Int),h,b,e,c,d,f)) λa=>
 aW (aZ a.2.2.2.2.2.2.1 a.2.2.1) λp=>
 aW (aZ a.2.2.2.2.2.2.1 a.2.2.1) λj=>
 aW (er 4 a.2.2.2.2.2.2.2.2.1 [j]) λk=>
 aW (er 8 a.2.2.2.2.2.2.2.2.2 [(wZ (a.2.2.2.1 - a.2.2.1))]) λl=>
 (H7 N m (a.1,a.2.1,a.2.2.2.2.1,(wZ (a.2.2.2.2.2.1+1)),a.2.2.2.2.2.2.1,a.2.2.2.2.2.2.2.1,k,l)))
 (some (n,g,d,f)):=ci
def T4 N c w d e f g:air (N+1) (c,w,d,e,f,g)=aW (JW N (c,w,d,e,f,g)) λb=>
 cond (!(b.2.1=0))
  (some (0,b.2.1,[],[]))
  (aW (aaO N (c,b.2.2)) λh=>
  aW (aaS N h.2) λi=>
  aW (Pv N (i,d,e,f,g)) λa=>
  cond (!(a.2.1=0))
   (some (0,a.2.1,[],[]))
   (aW (H7 N N (b.1,a.1,(length a.2.2:Int),0,h.2,a.2.2,[],[])) λz5=>
   some ((wZ (z5.1+z5.2.1)),0,z5.2.2.1,z5.2.2.2))):=ci
def Cy:Do CO:=[ath]
def Cz:FD:=cw 78 f78 .z [.h j8,.ag up] [] (bg [ld,to,ww] [jp]) true true [900]
def EU:Nat->aX×Int×Int×Int×Int×A1->At A7:=mF Cy Cz
def aqe:CO:=cF Cy Cz EU func78
def No N b w c d e f:EU (N+1) (b,w,c,d,e,f)=aW (air N (b,w,c,d,e,f)) λa=>
 some (a.1,a.2.1,a.2.2.1):=ci
def CA:Do CO:=[]
def CB:FD:=cw 79 f79 .z [.h j2] [] (bg [i8] [(900,.box 51 acc)]) false true []
def Py:Nat->Int->FM:=mF CA CB
def aqf:CO:=cF CA CB Py func79
def aei N a:Py (N+1) a=some ((wZ (Int.fdiv a ((2:Int)^(min (Int.toNat 16) 32)))),(wZ (wrap .u16 a))):=ci
def lB:Do CO:=[apZ,aqe,aqf]
def aa2:PS:=bg [arw,PP,avu,(48,.k (.ow 900)),(49,.h j1),(50,.h j1)] [(901,.arr 51 j5 true),jp]
def aa3:Do (IR×PS):=[((.exit 2),bg [arw,PP,ab7] [m8])]
def aa4:Pl:=.z
def H8:Nat->Nat->Int×Int×Int×Int×A1×aX->At (Int×Int×A1):=eZ lB f30 [1,1,1,1,1,0,1,0,0] aa2 aa3 aa4
def aa5:PS:=bg [M2,at8,(18,.h hS),avr,(20,.h j1)] [(900,.box 35 up),ac0]
def aa6:Do (IR×PS):=[((.exit 0),bg [M2,at8] [(900,.box 35 up),ac0]),(.ret,bg [(4,.k .nil),to,ww] [])]
def aa7:Pl:=.z
def CC:Nat->Nat->A1×Int×Int×Int×Int×Int×Int×A1×aX->At ((Int×Int×Int×Int×A1×aX)⊕(Int×Int)):=eZ lB f30 [1,1,0,1,0,0] aa5 aa6 aa7
def y6:FD:=cw 30 f30 (.n .z (.n .z (.n (.n .z (.n (.loop aa5 aa6 aa7) .z)) (.n .z (.n .z (.n (.n .z (.n (.loop aa2 aa3 aa4) .z)) .z)))))) [.h hS,.ag up] [] (bg [ld,to,ww] [m8]) true true [900]
def Gt:Nat->A1×Int×Int×Int×Int×A1->At (Int×Int×A1):=mF lB y6
def ati:CO:=cF lB y6 Gt func30
def Np N m n e d a c b:H8 N (m+1) (n,e,d,a,c,b)=cond (a<d)
 (aW (aZ b a) λi=>
 aW (aZ b a) λg=>
 aW (Py N g) λf=>
 aW (er 16 c [(f.1,f.2)]) λh=>
 (H8 N m (n,e,d,(wZ (a+1)),h,b)))
 (some (n,e,c)):=ci
def Nq N m c d a w e f g h b:CC N (m+1) (c,d,a,w,e,f,g,h,b)=cond (a<d)
 (aW (aZ c a) λi=>
 aW (Pf N (i.1,i.2)) λj=>
 cond (!j.2)
  (some (.inr (0,10)))
  (cond (!(i.1=i.2))
   (aW (er 4 b [j.1]) λk=>
   (CC N m (c,d,(wZ (a+1)),w,e,f,g,h,k)))
   ((CC N m (c,d,(wZ (a+1)),w,e,f,g,h,b)))))
 (some (.inl (w,e,f,g,h,b))):=ci
def ais N l w d e f g:Gt (N+1) (l,w,d,e,f,g)=aW (CC N N (l,(length l:Int),0,w,d,e,f,g,[])) λi=>
 (match i with
 |.inl a=>aW (EU N (a.2.2.2.2.2,a.1,a.2.1,a.2.2.1,a.2.2.2.1,a.2.2.2.2.1)) λb=>
  aW (H8 N N (b.1,b.2.1,(length b.2.2:Int),0,[],b.2.2)) λc=>
  some (c.1,c.2.1,c.2.2)
 |.inr h=>some (h.1,h.2,[])):=ci
def p6:Do CO:=[yN]
def aa8:PS:=bg [WF,(10,.h iU),afc,(12,.h j1)] [m8]
def aa9:Do (IR×PS):=[((.exit 0),bg [WF] [m8])]
def aa_:Pl:=.z
def H9:Nat->Nat->fB×Int×Int×A1->At (A1):=eZ p6 f26 [1,1,1,0,1,0,0] aa8 aa9 aa_
def y7:FD:=cw 26 f26 (.n .z (.n .z (.n .z (.n (.n .z (.n (.loop aa8 aa9 aa_) .z)) .z)))) [.ag ii] [] (bg pm [m8]) true true [900]
def Nr:Nat->Int×fB->At (A1):=mF p6 y7
def ait:CO:=cF p6 y7 Nr func26
def Ns N m b c a l:H9 N (m+1) (b,c,a,l)=cond (a<c)
 (aW (aZ b a) λd=>
 aW (er 16 l [(d.1,d.2.1)]) λe=>
 (H9 N m (b,c,(wZ (a+1)),e)))
 (some l):=ci
def aiu N g a:Nr (N+1) (g,a)=aW (oW N (g,a)) λb=>
 cond (!b)
  (some [])
  (aW (H9 N N (a,(length a:Int),0,[])) λc=>
  some c):=ci
def oX:Do CO:=[]
def aou:Do PV:=[.k (.mp 4294967297)]
def kw:Do (Nat×PO):=[(4294967296,.box 236 aou),(4294967297,.mp (.tuple ⟨[]⟩) j5 j1)]
def oY:FD:=cw 158 f158 .z [.ag acc,.k (.pt 4294967296 0)] kw (bg [arx] [(4294967297,.mp (.tuple ⟨[]⟩) j5 j1),(4294967296,.box 236 aou)]) true true [4294967297,4294967296]
def T5:Nat->Int×Int×A5->At (In×A5):=mF oX oY
def aoo:CO:=cF oX oY T5 func158
def aiv N x a h:T5 (N+1) (x,a,h)=some ((decide ((Option.getD (bL j5 h (x,a)) 0)=0)),h):=ci
def bV:Do CO:=[aoo]
def aiw:PS:=bg [(0,.h hS),(1,.cl (.func 158) [] m2),LE,v4] kw
def aix:Do (IR×PS):=[((.exit 0),bg [] kw),(.ret,bg [ls] kw)]
def aiy:Pl:=.z
def Pz:Nat->Nat->A1×Int×Int×A5->At ((A5)⊕(Int×A5)):=eZ bV f182 [1,0,1,0,0] aiw aix aiy
def c_:FD:=cw 182 f182 (.n .z (.n (.n .z (.n (.loop aiw aix aiy) .z)) .z)) [.h hS,.cl (.func 158) [] m2] kw (bg [ls] kw) true true [4294967296,4294967297]
def aqg:Nat->A1×A5->At (Int×A5):=mF bV c_
def avJ:CO:=cF bV c_ aqg func182
def T6 N m s c a b:Pz N (m+1) (s,c,a,b)=cond (a<c)
 (aW (aZ s a) λe=>
 aW (T5 N (e.1,e.2,b)) λd=>
 cond d.1
  (some (.inr (a,d.2)))
  ((Pz N m (s,c,(wZ (a+1)),d.2))))
 (some (.inl b)):=ci
def amC N s h:aqg (N+1) (s,h)=aW (Pz N N (s,(length s:Int),0,h)) λb=>
 (match b with
 |.inl c=>some ((-1),c)
 |.inr a=>some (a.1,a.2)):=ci
def bT:Do CO:=[avJ,aoo]
def at5:Nat×PO:=(4294967297,.box 236 [.k (.mp 4294967298)])
def nl:Do (Nat×PO):=[(4294967296,.arr 51 j5 true),at5,(4294967298,.mp (.tuple ⟨[]⟩) j5 j1)]
def aiz:PS:=bg [adc,(1,.cl (.func 158) [] [.k (.pt 4294967297 0)]),to,ww] nl
def aiA:Do (IR×PS):=[((.exit 0),bg [adc,to] nl)]
def aiB:Pl:=.z
def J1:Nat->Nat->Int×Int×A1×A5->At (Int×A1×A5):=eZ bT f157 [1,1,1,0,1,0,0] aiz aiA aiB
def cV:FD:=cw 157 f157 (.n .z (.n .z (.n .z (.n (.n .z (.n (.loop aiz aiA aiB) .z)) .z)))) [.k (.ow 4294967296),.cl (.func 158) [] [.k (.pt 4294967297 0)]] nl (bg [ld] [m8,(4294967298,.mp (.tuple ⟨[]⟩) j5 j1),at5]) true true [900,4294967298,4294967297]
def amD:Nat->A1×A5->At (A1×A5):=mF bT cV
def avK:CO:=cF bT cV amD func157
def aiC N m i j s b:J1 N (m+1) (i,j,s,b)=cond (j<(length s:Int))
 (aW (aZ s j) λd=>
 aW (aZ s j) λa=>
 aW (T5 N (a.1,a.2,b)) λc=>
 cond (!c.1)
  (aW (aZ s i) λe=>
  aW (aZ s i) λf=>
  (J1 N m ((wZ (i+1)),(wZ (j+1)),(List.set s (Int.toNat i) (a.1,a.2)),c.2)))
  ((J1 N m (i,(wZ (j+1)),s,c.2))))
 (some (i,s,b)):=ci
def amE N s h:amD (N+1) (s,h)=aW (aqg N (s,h)) λb=>
 cond (b.1=(-1))
  (some (s,b.2))
  (aW (J1 N N (b.1,(wZ (b.1+1)),s,b.2)) λa=>
  cond (((true && true) && true) && (!(nH a.2.1)))
   (aW (j0 a.2.1 a.1 (length a.2.1:Int)) λe=>
   aW (adj a.2.1 a.1 ((length a.2.1:Int) - a.1) (0,0)) λc=>
   aW (j0 c 0 a.1) λd=>
   some (d,a.2.2))
   none):=ci
def sd:Do CO:=[yN,ait,avK]
def awl:Nat×PO:=(901,.box 236 [.k (.mp 902)])
def T7:PS:=bg [i8,NE,(13,.h hS),PP,avm] [s1,awl,(902,.mp (.tuple ⟨[]⟩) j5 j1)]
def T8:Do (IR×PS):=[((.exit 0),bg [i8,NE] [s1,awl,(902,.mp (.tuple ⟨[]⟩) j5 j1)]),(.ret,bg [(4,.k .nil),to] [])]
def T9:Pl:=.z
def CD:Nat->Nat->A1×Int×Int×Int×fB×A5->At ((Int×fB×A5)⊕(Int)):=eZ sd f87 [1,1,1,0,1,0,0] T7 T8 T9
def au0:Do PV:=[.ag ii,.h hS]
def CE:FD:=cw 87 f87 (.n .z (.n .z (.n .z (.n (.n .z (.n (.loop T7 T8 T9) .z)) .z)))) au0 [] (bg [ld,to] [m8]) true true [900]
def EW:Nat->Int×fB×A1->At (Int×A1):=mF sd CE
def aiD:CO:=cF sd CE EW func87
def J2 N m e f c g d b:CD N (m+1) (e,f,c,g,d,b)=cond (c<f)
 (aW (aZ e c) λa=>
 cond ((if(a.2<a.1)then a.2 else a.1)<0)
  (some (.inr 10))
  (cond (g<=(if(a.2>a.1)then a.2 else a.1))
   (some (.inr 10))
   (aW (Wz (dO j5 b ((if(a.2<a.1)then a.2 else a.1),(if(a.2>a.1)then a.2 else a.1)) (Option.getD (bL j5 b ((if(a.2<a.1)then a.2 else a.1),(if(a.2>a.1)then a.2 else a.1))) 0)) (((OO j5 b ((if(a.2<a.1)then a.2 else a.1),(if(a.2>a.1)then a.2 else a.1))):Nat):Int) (wZ ((Option.getD (bL j5 b ((if(a.2<a.1)then a.2 else a.1),(if(a.2>a.1)then a.2 else a.1))) 0)+1))) λh=>
   (CD N m (e,f,(wZ (c+1)),g,d,h)))))
 (some (.inl (g,d,b))):=ci
def aej N g a l:EW (N+1) (g,a,l)=aW (oW N (g,a)) λc=>
 cond (!c)
  (some (1,[]))
  (aW (CD N N (l,(length l:Int),0,g,a,[])) λd=>
  (match d with
  |.inl b=>aW (Nr N (b.1,b.2.1)) λe=>
   aW (amD N (e,b.2.2)) λf=>
   some (0,f.1)
  |.inr h=>some (h,[]))):=ci
def se:Do CO:=[yN,ait,⟨dH,eY⟩]
def awn:Nat×PV:=(6,.k (.mp 901))
def aoz:Nat×PO:=(902,.arr 51 j5 true)
def T_:PS:=bg [i8,awn,(9,.k (.ow 902)),(26,.h hS),(27,.h j1),(28,.h j1)] [s1,(901,.mp (.tuple ⟨[]⟩) j5 j1),aoz]
def Ua:Do (IR×PS):=[((.exit 2),bg [alo] [m8]),(.ret,bg [(4,.k .nil),to] [])]
def Ub:Pl:=.z
def qW:Nat->Nat->A1×Int×Int×Int×fB×A5×A1->At ((A1)⊕(Int)):=eZ se f80 [1,1,1,1,1,0,1,0,0] T_ Ua Ub
def Uc:PS:=bg [(1,.h hS),i8,awn,(17,.k (.ow 902)),auw,avr] [s1,(901,.mp (.tuple ⟨[]⟩) j5 j1),aoz]
def Ud:Do (IR×PS):=[((.exit 0),bg [(1,.h hS),i8,awn] [s1,(901,.mp (.tuple ⟨[]⟩) j5 j1)])]
def Ue:Pl:=.z
def CF:Nat->Nat->A1×Int×Int×Int×fB×A5×A1->At (A1×Int×fB×A5):=eZ se f80 [1,1,1,0,1,0,0] Uc Ud Ue
def J3:FD:=cw 80 f80 (.n .z (.n .z (.n .z (.n (.n .z (.n (.loop Uc Ud Ue) .z)) (.n .z (.n (.n .z (.n (.loop T_ Ua Ub) .z)) .z)))))) au0 [] (bg [ld,to] [m8]) true true [900]
def EX:Nat->Int×fB×A1->At (Int×A1):=mF se J3
def aiE:CO:=cF se J3 EX func80
def J4 N m e f b g h d c:qW N (m+1) (e,f,b,g,h,d,c)=cond (b<f)
 (aW (aZ e b) λa=>
 cond ((if(a.2<a.1)then a.2 else a.1)<0)
  (some (.inr 10))
  (cond (g<=(if(a.2>a.1)then a.2 else a.1))
   (some (.inr 10))
   (cond ((if(a.2<a.1)then a.2 else a.1)<(if(a.2>a.1)then a.2 else a.1))
    (cond ((Option.getD (bL j5 d ((if(a.2<a.1)then a.2 else a.1),(if(a.2>a.1)then a.2 else a.1))) 0)=0)
     (aW (er 16 c [((if(a.2<a.1)then a.2 else a.1),(if(a.2>a.1)then a.2 else a.1))]) λi=>
     (qW N m (e,f,(wZ (b+1)),g,h,(dO j5 d ((if(a.2<a.1)then a.2 else a.1),(if(a.2>a.1)then a.2 else a.1)) 1),i)))
     ((qW N m (e,f,(wZ (b+1)),g,h,d,c))))
    ((qW N m (e,f,(wZ (b+1)),g,h,d,c))))))
 (some (.inl c)):=ci
def J5 N m l e a g c d b:CF N (m+1) (l,e,a,g,c,d,b)=cond (a<e)
 (aW (aZ b a) λh=>
 aW (aZ b a) λf=>
 (CF N m (l,e,(wZ (a+1)),g,c,(dO j5 d (f.1,f.2) 1),b)))
 (some (l,g,c,d)):=ci
def aek N g b l:EX (N+1) (g,b,l)=aW (oW N (g,b)) λd=>
 cond (!d)
  (some (1,[]))
  (aW (Nr N (g,b)) λc=>
  aW (CF N N (l,(length c:Int),0,g,b,[],c)) λa=>
  aW (qW N N (a.1,(length a.1:Int),0,a.2.1,a.2.2.1,a.2.2.2,[])) λe=>
  (match e with
  |.inl h=>aW (cy N h) λf=>
   some (0,f)
  |.inr i=>some (i,[]))):=ci
def CG:Do CO:=[yN]
def CH:FD:=cw 94 f94 .z [.ag ii] [] (bg [z9] []) false true []
def PA:Nat->Int×fB->eF:=mF CG CH
def aqh:CO:=cF CG CH PA func94
def ael N g a:PA (N+1) (g,a)=aW (oW N (g,a)) λb=>
 cond (!b)
  (some 0)
  (some (wZ (400 - (length a:Int)))):=ci
def y8:Do CO:=[yN,apX,asT,asX,ati,aiD,aiE,aqh]
def y9:FD:=cw 34 f34 .z [.ag ii,.ag Or,.ag up] [] (bg [ul,LE,v4] [apb]) false false []
def tw:Nat->Int×fB×Int×A1×(Do A4)×Int×Int×Int×Int×A1->At (Int×Int×Int×A1×(Do A4)):=mF y8 y9
def atj:CO:=cF y8 y9 tw func34
def Uf N g e x c d w h i j k:tw (N+1) (g,e,x,c,d,w,h,i,j,k)=aW (oW N (g,e)) λm=>
 cond (!m)
  (some (0,1,0,[],[]))
  (aW (Pe N (x,c,d)) λn=>
  cond (!n)
   (some (0,1,0,[],[]))
   (aW (aab N (x,c,d)) λo=>
   aW (aaf N (o,g,e)) λa=>
   cond a.1
    (some (0,10,0,[],[]))
    (cond (x=3)
     (some (0,0,x,[],d))
     (aW (Gt N (c,w,h,i,j,k)) λb=>
     cond (!(b.2.1=0))
      (some (0,b.2.1,0,[],[]))
      (cond (x=2)
       (aW (EW N (a.2.1,a.2.2,b.2.2)) λl=>
       some (b.1,l.1,x,l.2,[]))
       (aW (EX N (a.2.1,a.2.2,b.2.2)) λf=>
       aW (PA N (a.2.1,a.2.2)) λp=>
       cond (p<(length f.2:Int))
        (some (0,2,0,[],[]))
        (some (b.1,f.1,x,f.2,[])))))))):=ci
def Gu:Do CO:=[]
def Gv:FD:=cw 81 f81 .z [.ag ii,.h j1] [] (bg n7 []) false true []
def Xh:Nat->Int×fB×Int->dj:=mF Gu Gv
def aqi:CO:=cF Gu Gv Xh func81
def aem N g a more:Xh (N+1) (g,a,more)=some (decide ((wZ ((length a:Int)+more))<=400)):=ci
def wm:Do CO:=[yN,aog,ahE]
def wq:FD:=cw 23 f23 .z [.ag ii,.h j1] [] (bg [m5,to] [m9]) false false []
def Ug:Nat->Int×fB×Int->At A12:=mF wm wq
def aop:CO:=cF wm wq Ug func23
def aiF N g a c:Ug (N+1) (g,a,c)=aW (oW N (g,a)) λd=>
 cond (!d)
  (some (1,0,[]))
  (aW (Su N (g,a,c)) λe=>
  aW (JD N (g,e)) λb=>
  some (b.1,b.2.1,b.2.2)):=ci
def si:Do CO:=[]
def Uh:PS:=bg [(0,.h j1),(13,.h hS),PP,avm] []
def Ui:Do (IR×PS):=[((.exit 0),bg [] []),(.ret,bg [ls] [])]
def Uj:Pl:=.z
def CI:Nat->Nat->Int×A1×Int×Int->At ((Unit)⊕(Int)):=eZ si f69 [1,1,0,1,0,0] Uh Ui Uj
def CJ:FD:=cw 69 f69 (.n .z (.n .z (.n (.n .z (.n (.loop Uh Ui Uj) .z)) .z))) [.h j1,.h hS] [] (bg [ls] []) false true []
def J6:Nat->Int×A1->eF:=mF si CJ
def aiG:CO:=cF si CJ J6 func69
def Xi N m n c d b:CI N (m+1) (n,c,d,b)=cond (b<d)
 (aW (aZ c b) λa=>
 cond ((if(a.2<a.1)then a.2 else a.1)<0)
  (some (.inr 10))
  (cond (n<=(if(a.2>a.1)then a.2 else a.1))
   (some (.inr 10))
   ((CI N m (n,c,d,(wZ (b+1)))))))
 (some (.inl ())):=ci
def aen N n l:J6 (N+1) (n,l)=cond (n<1)
 (some 1)
 (cond (64<n)
  (some 1)
  (aW (CI N N (n,l,(length l:Int),0)) λa=>
  (match a with
  |.inl c=>some 0
  |.inr b=>some b))):=ci
def Nt:Do CO:=[O6,O9,ahy]
def Nu:FD:=cw 68 f68 .z aux [] (bg [ls] []) false true []
def J7:Nat->Int×A3×Int->eF:=mF Nt Nu
def aiH:CO:=cF Nt Nu J7 func68
def aeo N f a v:J7 (N+1) (f,a,v)=aW (pV N (f,v)) λb=>
 cond (!b)
  (some (-1))
  (aW (vO N (f,a)) λc=>
  cond (!c)
   (some (-1))
   (aW (EL N (f,a,v)) λd=>
   some d)):=ci
def wu:Do CO:=[ahp,aiH]
def wx:FD:=cw 200 f200 .z aux [] (bg [ls,to] []) false true []
def Uk:Nat->Int×A3×Int->FM:=mF wu wx
def atk:CO:=cF wu wx Uk func200
def aiI N f a v:Uk (N+1) (f,a,v)=aW (MW N (f,a,[v])) λb=>
 cond (!(b=0))
  (some (0,b))
  (aW (J7 N (f,a,v)) λc=>
  aW (aZ a c) λd=>
  aW (aZ d 0) λe=>
  some (e,0)):=ci
def mz:Do CO:=[O9,aiG,atk]
def aba:PS:=bg [i8,at8,(24,.h hS),(25,.h j1),avl] [m9,(901,.arr 51 j5 true)]
def aww:Nat×PV:=(7,.k (.ow 900))
def abb:Do (IR×PS):=[((.exit 0),bg [aww] [m8])]
def abc:Pl:=.z
def H_:Nat->Nat->A1×Int×Int×Int×A3×A1->At (A1):=eZ mz f152 [1,1,1,1,0,1,0,0] aba abb abc
def tA:FD:=cw 152 f152 (.n .z (.n .z (.n .z (.n .z (.n (.n .z (.n (.loop aba abb abc) .z)) .z))))) [.ag i6,.h hS] [] (bg [ld,to] [m8]) true true [900]
def abd:Nat->Int×A3×A1->At (Int×A1):=mF mz tA
def atl:CO:=cF mz tA abd func152
def aep N m d e b f a c:H_ N (m+1) (d,e,b,f,a,c)=cond (b<e)
 (aW (aZ d b) λg=>
 aW (Uk N (f,a,g.1)) λh=>
 aW (Uk N (f,a,g.2)) λi=>
 aW (er 16 c [(h.1,i.1)]) λj=>
 (H_ N m (d,e,(wZ (b+1)),f,a,j)))
 (some c):=ci
def aiJ N f a l:abd (N+1) (f,a,l)=aW (vO N (f,a)) λc=>
 cond (!c)
  (some (1,[]))
  (aW (J6 N (f,l)) λb=>
  cond (!(b=0))
   (some (b,[]))
   (aW (H_ N N (l,(length l:Int),0,f,a,[])) λd=>
   some (0,d))):=ci
def sj:Do CO:=[]
def Ul:PS:=bg [WF,v4,alj] [gt]
def Um:Do (IR×PS):=[((.exit 0),bg [WF] [gt])]
def Un:Pl:=.z
def CL:Nat->Nat->Int×Int×aX->mR:=eZ sj f70 [1,1,0,1,0,0] Ul Um Un
def CM:FD:=cw 70 f70 (.n .z (.n .z (.n (.n .z (.n (.loop Ul Um Un) .z)) .z))) ao3 [] (bg pm [gt]) true true [900]
def J8:Nat->Int->mR:=mF sj CM
def aiK:CO:=cF sj CM J8 func70
def Xj N m b a s:CL N (m+1) (b,a,s)=cond (a<b)
 (aW (aZ s a) λc=>
 aW (aZ s a) λd=>
 (CL N m (b,(wZ (a+1)),(List.set s (Int.toNat a) a))))
 (some s):=ci
def aeq N n:J8 (N+1) n=aW (oD n (8:Nat)) λa=>
 aW (CL N N ((length (replicate a (0:Int)):Int),(0:Int),(replicate a (0:Int)))) λb=>
 some b:=ci
def iH:Do CO:=[]
def lm:Nat×PO:=(4294967296,.arr 3 j1 true)
def abe:PS:=bg [adc,ali] [lm]
def abf:Do (IR×PS):=[((.exit 0),bg [ali] [lm])]
def abg:Pl:=.z
def Ia:Nat->Nat->Int×aX->At A6:=eZ iH f72 [1,0,0,0] abe abf abg
def l3:FD:=cw 72 f72 (.n .z (.n (.n (.loop abe abf abg) .z) .z)) [.k (.ow 4294967296),.h j1] [lm] (bg [ls] [lm]) true true [4294967296]
def Nv:Nat->Int×aX->At A6:=mF iH l3
def aoq:CO:=cF iH l3 Nv func72
def aer N m v s:Ia N (m+1) (v,s)=aW (aZ s v) λe=>
 aW (aZ s v) λd=>
 cond (!(d=v))
  (aW (aZ s v) λf=>
  aW (aZ s v) λb=>
  aW (aZ s b) λg=>
  aW (aZ s b) λa=>
  aW (aZ s v) λh=>
  aW (aZ s v) λi=>
  aW (aZ (List.set s (Int.toNat v) a) v) λj=>
  aW (aZ (List.set s (Int.toNat v) a) v) λc=>
  (Ia N m (c,(List.set s (Int.toNat v) a))))
  (some (v,s)):=ci
def aiL N v s:Nv (N+1) (v,s)=aW (Ia N N (v,s)) λa=>
 some (a.1,a.2):=ci
def mL:Do CO:=[aoq]
def mM:FD:=cw 143 f143 .z [.k (.ow 4294967296),.h j1,.h j1] [lm] (bg [ava] [lm]) true true [4294967296]
def abh:Nat->Int×Int×aX->At A9:=mF mL mM
def atm:CO:=cF mL mM abh func143
def aiM N u v s:abh (N+1) (u,v,s)=aW (Nv N (u,s)) λb=>
 aW (Nv N (v,b.2)) λa=>
 aW (aZ a.2 (if(a.1>b.1)then a.1 else b.1)) λc=>
 aW (aZ a.2 (if(a.1>b.1)then a.1 else b.1)) λd=>
 some ((!(b.1=a.1)),(List.set a.2 (Int.toNat (if(a.1>b.1)then a.1 else b.1)) (if(a.1<b.1)then a.1 else b.1))):=ci
def eE:Do CO:=[atm]
def abi:PS:=bg [(1,.cl (.func 143) [.k (.ow 4294967296)] []),rt,(8,.h hS),alj,LT] [lm,Ok]
def abj:Do (IR×PS):=[((.exit 0),bg [rt] [Ok,lm])]
def abk:Pl:=.z
def Ib:Nat->Nat->A1×Int×Int×aX×bh->At (bh×aX):=eZ eE f142 [1,1,0,1,0,0] abi abj abk
def fE:FD:=cw 142 f142 (.n .z (.n .z (.n (.n .z (.n (.loop abi abj abk) .z)) .z))) [.h hS,.cl (.func 143) [.k (.ow 4294967296)] []] [lm] (bg [ld] [Ok,lm]) true true [900,4294967296]
def aiN:Nat->A1×aX->At (bh×aX):=mF eE fE
def atn:CO:=cF eE fE aiN func142
def aes N m d e a b c:Ib N (m+1) (d,e,a,b,c)=cond (a<e)
 (aW (aZ d a) λf=>
 aW (abh N (f.1,f.2,b)) λg=>
 aW (er 1 c [g.1]) λh=>
 (Ib N m (d,e,(wZ (a+1)),g.2,h)))
 (some (c,b)):=ci
def aiO N l a:aiN (N+1) (l,a)=aW (Ib N N (l,(length l:Int),0,a,[])) λb=>
 some (b.1,b.2):=ci
def l4:Do CO:=[atn]
def l5:FD:=cw 71 f71 .z [.k (.ow 4294967296),.h hS] [lm] (bg [ld] [Ok,lm]) true true [900,4294967296]
def Uo:Nat->A1×aX->At (bh×aX):=mF l4 l5
def aor:CO:=cF l4 l5 Uo func71
def aiP N l s:Uo (N+1) (l,s)=aW (aiN N (l,s)) λa=>
 some (a.1,a.2):=ci
def y_:Do CO:=[atl,aiK,aor]
def za:FD:=cw 82 f82 .z [.ag i6,.h hS] [] (bg [ld,to] [Ok]) true true [900]
def PB:Nat->Int×A3×A1->At (Int×bh):=mF y_ za
def aqj:CO:=cF y_ za PB func82
def aet N f b l:PB (N+1) (f,b,l)=aW (abd N (f,b,l)) λa=>
 cond (!(a.1=0))
  (some (a.1,[]))
  (aW (J8 N f) λc=>
  aW (Uo N (a.2,c)) λd=>
  some (0,d.1)):=ci
def gh:Do CO:=[]
def an5:Do (Nat×PO):=[(900,.arr 131 ta true)]
def gi:FD:=cw 83 f83 .z [.h iU] [] (bg pm an5) true true [900]
def abl:Nat->fB->At (fB):=mF gh gi
def ato:CO:=cF gh gi abl func83
def aiQ N s:abl (N+1) s=cond (rO s)
 (dem λc=>
 cond c
  (some [])
  (aW (er 32 [] s) λa=>
  some a))
 (aW (er 32 [] s) λb=>
 some b):=ci
def Ap:Do CO:=[aiE,aqi,aop,aqj,ato,⟨eb,fq⟩]
def awx:Nat×PO:=(901,.box 24 v0)
def au1:Nat×PO:=(903,.arr 4 .b true)
def Up:PS:=bg [i8,SW,anj,(11,.k (.ow 903)),(13,.k (.ow 904)),(46,.k (.ow 902)),(47,.h j1),(48,.h j1)] [s1,awx,aoz,au1,(904,.arr 131 ta true)]
def Uq:Do (IR×PS):=[((.exit 0),bg [i8,SW,anj,(13,.k (.ow 903))] [s1,awx,aoz,(903,.arr 131 ta true)])]
def Ur:Pl:=.z
def CN:Nat->Nat->Int×Int×Int×fB×Int×A1×bh×fB->At (Int×fB×Int×A1×fB):=eZ Ap f31 [1,1,1,1,1,1,1,0,1,0,0] Up Uq Ur
def J9:FD:=cw 31 f31 (.n .z (.n .z (.n .z (.n .z (.n .z (.n .z (.n .z (.n (.n .z (.n (.loop Up Uq Ur) .z)) .z)))))))) au0 [] (bg [m5,to,ww] [s1]) false false []
def p_:Nat->Int×fB×A1->At (Int×Int×Int×fB):=mF Ap J9
def aqk:CO:=cF Ap J9 p_ func31
def J_ N m h a g d f b c e:CN N (m+1) (h,a,g,d,f,b,c,e)=cond (a<h)
 (aW (aZ b a) λl=>
 aW (aZ b a) λi=>
 aW (aZ c a) λn=>
 aW (aZ c a) λj=>
 aW (er 32 e [(i.1,i.2,0,j)]) λk=>
 (CN N m (h,(wZ (a+1)),g,d,f,b,c,k)))
 (some (g,d,f,b,e)):=ci
def aeu N g a l:p_ (N+1) (g,a,l)=aW (EX N (g,a,l)) λb=>
 cond (!(b.1=0))
  (some (0,b.1,g,a))
  (aW (Xh N (g,a,(length b.2:Int))) λe=>
  cond (!e)
   (some (0,2,g,a))
   (aW (Ug N (g,a,0)) λd=>
   aW (PB N (d.2.1,d.2.2,b.2)) λf=>
   aW (abl N a) λh=>
   aW (CN N N ((length b.2:Int),0,g,a,0,b.2,f.2,h)) λc=>
   aW (cP N c.2.2.2.2) λi=>
   some ((length c.2.2.2.1:Int),0,c.1,i))):=ci
def bN:Do CO:=[aof]
def aui:Nat×PV:=(2,.k (.v (.func (.func 136) #[] #[])))
def aiR:PS:=bg [(0,.h iU),aui,m5,v4,alj,LT] [(900,.box 131 v9)]
def aiS:Do (IR×PS):=[((.exit 0),bg [(0,.h iU),aui,m5,v4,alj] [(900,.box 131 v9)])]
def aiT:Pl:=.z
def Ka:Nat->Nat->fB×Int×Int×Int×Int×Int×Int×In->At (fB×Int×Int×Int×Int×Int×In):=eZ bN f291 [1,1,1,0,0,0] aiR aiS aiT
def cH:FD:=cw 291 f291 (.n .z (.n .z (.n .z (.n (.n (.loop aiR aiS aiT) .z) .z)))) [.h iU,.ag v9,.k (.v (.func (.func 136) #[] #[]))] [] (bg [ww,auf] []) false true []
def amF:Nat->fB×Int×Int×Int×In->At (Int×In):=mF bN cH
def avL:CO:=cF bN cH amF func291
def Kb N m x n i j a b c d:Ka N (m+1) (x,n,i,j,a,b,c,d)=cond (i<j)
 (aW (aZ x (wZ (Int.fdiv (wrap .u64 (wZ (i+j))) ((2:Int)^(min (Int.toNat 1) 64))))) λe=>
 aW (Jv N (e.1,e.2.1,e.2.2.1,e.2.2.2,a,b,c,d)) λf=>
 cond (f<0)
  ((Ka N m (x,n,(wZ ((wZ (Int.fdiv (wrap .u64 (wZ (i+j))) ((2:Int)^(min (Int.toNat 1) 64))))+1)),j,a,b,c,d)))
  ((Ka N m (x,n,i,(wZ (Int.fdiv (wrap .u64 (wZ (i+j))) ((2:Int)^(min (Int.toNat 1) 64)))),a,b,c,d))))
 (some (x,n,i,a,b,c,d)):=ci
def amG N x c d e f:amF (N+1) (x,c,d,e,f)=aW (Ka N N (x,(length x:Int),0,(length x:Int),c,d,e,f)) λa=>
 cond (a.2.2.1<a.2.1)
  (aW (aZ a.1 a.2.2.1) λb=>
  aW (Jv N (b.1,b.2.1,b.2.2.1,b.2.2.2,a.2.2.2.1,a.2.2.2.2.1,a.2.2.2.2.2.1,a.2.2.2.2.2.2)) λg=>
  some (a.2.2.1,(decide (g=0))))
  (some (a.2.2.1,false)):=ci
def zb:Do CO:=[avL]
def apl:Do PV:=[.ag ii,.h j1,.h j1]
def zc:FD:=cw 262 f262 .z apl [] (bg [ww,auf] []) false true []
def aiU:Nat->Int×fB×Int×Int->At (Int×In):=mF zb zc
def atp:CO:=cF zb zc aiU func262
def aiV N g a u v:aiU (N+1) (g,a,u,v)=aW (amF N (a,(if(v<u)then v else u),(if(v>u)then v else u),0,false)) λb=>
 some (b.1,b.2):=ci
def CP:Do CO:=[yN,atp]
def CQ:FD:=cw 212 f212 .z apl [] (bg [ww] []) false true []
def PC:Nat->Int×fB×Int×Int->eF:=mF CP CQ
def aql:CO:=cF CP CQ PC func212
def aev N g a u v:PC (N+1) (g,a,u,v)=aW (oW N (g,a)) λc=>
 cond (!c)
  (some (-1))
  (aW (aiU N (g,a,u,v)) λb=>
  cond (!b.2)
   (some (-1))
   (some b.1)):=ci
def zd:Do CO:=[yN,aql]
def zf:FD:=cw 159 f159 .z apl [] (bg [ww,LE] []) false true []
def Kc:Nat->Int×fB×Int×Int->FM:=mF zd zf
def aos:CO:=cF zd zf Kc func159
def Us N g a u v:Kc (N+1) (g,a,u,v)=aW (oW N (g,a)) λc=>
 cond (!c)
  (some (0,1))
  (cond ((if(v<u)then v else u)<0)
   (some (0,10))
   (cond (g<=(if(v>u)then v else u))
    (some (0,10))
    (aW (PC N (g,a,u,v)) λb=>
    cond (b<0)
     (some (0,6))
     (some (b,0))))):=ci
def dD:Do CO:=[⟨gv,ke⟩]
def abm:PS:=bg [n8,(25,.h j22),avl,(27,.h j1)] an5
def abn:Do (IR×PS):=[((.exit 2),bg [n8] an5)]
def abo:Pl:=.z
def Ic:Nat->Nat->(Do fB)×Int×Int×fB->At (fB):=eZ dD f160 [1,1,1,1,0,1,0,0] abm abn abo
def abp:PS:=bg [(0,.h j22),So,(9,.h j22),LT,afc] []
def abq:Do (IR×PS):=[((.exit 0),bg [(0,.h j22),So] [])]
def abr:Pl:=.z
def Ie:Nat->Nat->(Do fB)×Int×(Do fB)×Int×Int->At ((Do fB)×Int):=eZ dD f160 [1,1,0,1,0,0] abp abq abr
def fS:FD:=cw 160 f160 (.n .z (.n .z (.n (.n .z (.n (.loop abp abq abr) .z)) (.n .z (.n (.n .z (.n (.loop abm abn abo) .z)) .z))))) [.h j22] [] (bg pm an5) true true [900]
def abt:Nat->(Do fB)->At (fB):=mF dD fS
def atq:CO:=cF dD fS abt func160
def EY N m c d a b:Ic N (m+1) (c,d,a,b)=cond (a<d)
 (aW (aZ c a) λe=>
 aW (er 32 b e) λf=>
 (Ic N m (c,d,(wZ (a+1)),f)))
 (some b):=ci
def EZ N m c a e d b:Ie N (m+1) (c,a,e,d,b)=cond (b<d)
 (aW (aZ e b) λf=>
 cond ((wZ (a+(length f:Int)))<0)
  none
  ((Ie N m (c,(wZ (a+(length f:Int))),e,d,(wZ (b+1))))))
 (some (c,a)):=ci
def aiW N a:abt (N+1) a=aW (Ie N N (a,0,a,(length a:Int),0)) λb=>
 aW (eS N b.2) λd=>
 aW (Ic N N (b.1,(length b.1:Int),0,[])) λc=>
 some c:=ci
def jU:Do CO:=[]
def jV:FD:=cw 125 f125 .z au4 [] (bg pm [gt]) true true [900]
def abu:Nat->aX->mR:=mF jU jV
def atr:CO:=cF jU jV abu func125
def aiX N s:abu (N+1) s=cond (rO s)
 (dem λc=>
 cond c
  (some [])
  (aW (er 8 [] s) λa=>
  some a))
 (aW (er 8 [] s) λb=>
 some b):=ci
def l6:Do CO:=[]
def l7:FD:=cw 293 f293 .z [.h j1,.fp i6] [] (bg [arx] []) false true []
def Ut:Nat->Int×Int×A3->dj:=mF l6 l7
def aot:CO:=cF l6 l7 Ut func293
def aiY N t a b:Ut (N+1) (t,a,b)=some (decide (a<=t)):=ci
def cE:Do CO:=[aot]
def abv:PS:=bg [amy,(1,.cl (.func 293) [] [.fp i6]),LE,v4] []
def abw:Do (IR×PS):=[((.exit 0),bg [] []),(.ret,bg [ls] [])]
def abx:Pl:=.z
def Ig:Nat->Nat->aX×Int×A3×Int×Int->At ((Unit)⊕(Int)):=eZ cE f128 [1,0,1,0,0] abv abw abx
def dR:FD:=cw 128 f128 (.n .z (.n (.n .z (.n (.loop abv abw abx) .z)) .z)) [.h j6,.cl (.func 293) [] [.fp i6]] [] (bg [ls] []) false true []
def aiZ:Nat->aX×Int×A3->eF:=mF cE dR
def ats:CO:=cF cE dR aiZ aAt
def Nw N m s f b c a:Ig N (m+1) (s,f,b,c,a)=cond (a<c)
 (aW (aZ s a) λd=>
 aW (Ut N (d,f,b)) λe=>
 cond e
  (some (.inr a))
  ((Ig N m (s,f,b,c,(wZ (a+1))))))
 (some (.inl ())):=ci
def ai0 N s f a:aiZ (N+1) (s,f,a)=aW (Ig N N (s,f,a,(length s:Int),0)) λb=>
 (match b with
 |.inl d=>some (-1)
 |.inr c=>some c):=ci
def cj:Do CO:=[ats,aot]
def ai1:PS:=bg [adc,(1,.cl (.func 293) [] [.fp i6]),to,ww] [lm]
def ai2:Do (IR×PS):=[((.exit 0),bg [adc,to] [lm])]
def ai3:Pl:=.z
def Kd:Nat->Nat->Int×A3×Int×Int×aX->At A6:=eZ cj f292 [1,1,1,0,1,0,0] ai1 ai2 ai3
def dy:FD:=cw 292 f292 (.n .z (.n .z (.n .z (.n (.n .z (.n (.loop ai1 ai2 ai3) .z)) .z)))) [.k (.ow 4294967296),.cl (.func 293) [] [.fp i6]] [lm] (bg [ld] [gt]) true true [900]
def amH:Nat->Int×A3×aX->mR:=mF cj dy
def avM:CO:=cF cj dy amH func292
def ai4 N m a b i j s:Kd N (m+1) (a,b,i,j,s)=cond (j<(length s:Int))
 (aW (aZ s j) λe=>
 aW (aZ s j) λc=>
 aW (Ut N (c,a,b)) λd=>
 cond (!d)
  (aW (aZ s i) λf=>
  aW (aZ s i) λg=>
  (Kd N m (a,b,(wZ (i+1)),(wZ (j+1)),(List.set s (Int.toNat i) c))))
  ((Kd N m (a,b,i,(wZ (j+1)),s))))
 (some (i,s)):=ci
def amI N b c s:amH (N+1) (b,c,s)=aW (aiZ N (s,b,c)) λd=>
 cond (d=(-1))
  (some s)
  (aW (Kd N N (b,c,d,(wZ (d+1)),s)) λa=>
  cond (((true && true) && true) && (!(nH a.2)))
   (aW (j0 a.2 a.1 (length a.2:Int)) λg=>
   aW (adj a.2 a.1 ((length a.2:Int) - a.1) 0) λe=>
   aW (j0 e 0 a.1) λf=>
   some f)
   none):=ci
def qX:Do CO:=[ahp,aiH,atr,avM,⟨jo,mW⟩]
def qY:FD:=cw 263 f263 .z aux [] (bg [ld,to] [gt]) true true [900]
def Uu:Nat->Int×A3×Int->At A6:=mF qX qY
def att:CO:=cF qX qY Uu func263
def ai5 N f a v:Uu (N+1) (f,a,v)=aW (MW N (f,a,[v])) λb=>
 cond (!(b=0))
  (some (b,[]))
  (aW (J7 N (f,a,v)) λc=>
  aW (aZ a c) λd=>
  aW (abu N d) λe=>
  aW (amH N (f,a,e)) λg=>
  aW (ei N g) λh=>
  some (0,h)):=ci
def CR:Do CO:=[aos,aop,att,ZB,⟨fO,fP⟩,⟨mU,mv⟩]
def CS:FD:=cw 214 f214 .z [.ag ii,.h j1,.h j1,.h j1] [] (bg [m7,alj] [gt]) true true [900]
def Ke:Nat->Int×fB×Int×Int×Int->At A6:=mF CR CS
def aqm:CO:=cF CR CS Ke func214
def Nx N g e u v f:Ke (N+1) (g,e,u,v,f)=aW (Kc N (g,e,u,v)) λb=>
 cond (b.2=1)
  (some (b.2,[]))
  (cond (b.2=10)
   (some (b.2,[]))
   (aW (Ug N (g,e,f)) λc=>
   aW (Uu N (c.2.1,c.2.2,u)) λa=>
   aW (Uu N (c.2.1,c.2.2,v)) λd=>
   aW (Jx N (a.2,v)) λk=>
   cond k
    (some (5,[]))
    (aW (cO N ((length a.2:Int),(length d.2:Int))) λl=>
    aW (aZ a.2 0) λn=>
    aW (aZ a.2 0) λm=>
    aW (aZ d.2 0) λo=>
    aW (aZ d.2 0) λh=>
    aW (cO N (m,h)) λi=>
    aW (gR N [l,i]) λj=>
    cond (j<0)
     (some (0,a.2))
     (some (0,d.2))))):=ci
def jW:Do CO:=[]
def jX:FD:=cw 215 f215 .z [.ag v9,.k (.pt 4294967296 0)] [(4294967296,.box 199 aou),(4294967297,.mp (.int .i64) j1 j1)] (bg [So] [(4294967297,.mp (.int .i64) j1 j1),(4294967296,.box 199 aou)]) true true [4294967297,4294967296]
def aby:Nat->Int×Int×Int×In×A1->At (Int×A1):=mF jW jX
def atu:CO:=cF jW jX aby func215
def Uv N t a b c h:aby (N+1) (t,a,b,c,h)=some ((wZ ((Option.getD (bL j1 h t) 0)+(Option.getD (bL j1 h a) 0))),h):=ci
def fw:Do CO:=[]
def g8:Nat×PO:=(4294967296,.box 248 [.h j1,.k (.ow 4294967297),.h .b,.h .b,.h j1,.h j1,.h j1,.h j1])
def m4:Nat×PO:=(4294967297,.arr 131 ta true)
def fx:FD:=cw 216 f216 .z [.k (.pt 4294967296 0),.pe 4294967297 4 0] [g8,m4] (bg [] [g8,m4]) true true [4294967296,4294967297]
def Uw:Nat->Int×Int×In×In×Int×Int×Int×Int×fB->At (Int×In×In×Int×Int×Int×Int×fB):=mF fw fx
def atv:CO:=cF fw fx Uw func216
def ai6 N t s d e f g h a b:Uw (N+1) (t,s,d,e,f,g,h,a,b)=aW (aZ b t) λi=>
 aW (aZ b t) λc=>
 some (s,d,e,f,g,(wZ (h+1)),a,(List.set b (Int.toNat t) (c.1,c.2.1,(if((wZ (i.2.2.1+1))<a)then(wZ (i.2.2.1+1))else a),c.2.2.2))):=ci
def dp:Do CO:=[aqm,atu,atv]
def av4:Do PV:=[.k (.pt 900 0)]
def aqx:Nat×PO:=(900,.box 199 [.k (.mp 902)])
def abz:PS:=bg [wl,(14,.cl (.func 215) [] av4),(86,.k (.ow 901)),(87,.h j1),(88,.h j1)] [g8,aqx,(901,.qr 308 4294967297 4),m4,(902,.mp (.int .i64) j1 j1)]
def abA:Do (IR×PS):=[((.exit 5),bg [] [g8,m4]),(.ret,bg [(8,.h .b)] [g8,m4])]
def abB:Pl:=.z
def xZ:Nat->Nat->Int×Int×Int×In×In×Int×Int×Int×Int×aX×fB×A1->At ((Int×In×In×Int×Int×Int×Int×fB)⊕(In×Int×In×In×Int×Int×Int×Int×fB)):=eZ dp f161 [1,1,1,1,1,1,1,0,1,0,0] abz abA abB
def awy:Nat×PO:=(900,.box 199 [.k (.mp 901)])
def abC:PS:=bg [wl,So,(14,.cl (.func 215) [] av4),ase,(47,.h j1),(48,.h j1)] [g8,awy,(902,.qr 308 4294967297 4),m4,(901,.mp (.int .i64) j1 j1)]
def abD:Do (IR×PS):=[((.exit 2),bg [wl,(14,.cl (.func 215) [] av4),avu] [g8,aqx,(901,.qr 308 4294967297 4),m4,(902,.mp (.int .i64) j1 j1)])]
def abE:Pl:=.z
def sn:Nat->Nat->Int×Int×Int×Int×In×In×Int×Int×Int×Int×aX×fB×A1->At (Int×In×In×Int×Int×Int×Int×aX×fB×A1):=eZ dp f161 [1,1,1,1,1,1,0,1,0,0] abC abD abE
def abF:PS:=bg [wl,So,(11,.k (.pt 900 0)),(32,.k (.ow 901)),(33,.h j1),(34,.h j1)] [g8,aqx,m6,m4,(902,.mp (.int .i64) j1 j1)]
def abG:Do (IR×PS):=[((.exit 0),bg [wl,So,(11,.k (.pt 900 0))] [g8,awy,m4,(901,.mp (.int .i64) j1 j1)])]
def abH:Pl:=.z
def Ih:Nat->Nat->Int×Int×Int×Int×In×In×Int×Int×Int×Int×aX×fB×A1->At (Int×Int×In×In×Int×Int×Int×Int×fB×A1):=eZ dp f161 [1,1,1,0,1,0,0] abF abG abH
def gZ:FD:=cw 161 f161 (.n .z (.n .z (.n .z (.n (.n .z (.n (.loop abF abG abH) .z)) (.n .z (.n .z (.n (.n .z (.n (.loop abC abD abE) .z)) (.n (.n .z (.n (.loop abz abA abB) .z)) .z)))))))) [.k (.pt 4294967296 0),.h j1,.h j1,.h j1] [g8,m4] (bg [(8,.h .b)] [m4,g8]) true true [4294967297,4294967296]
def abI:Nat->Int×Int×Int×Int×In×In×Int×Int×Int×Int×fB->At (In×fB×Int×In×In×Int×Int×Int×Int):=mF dp gZ
def atw:CO:=cF dp gZ abI func161
def Ny N m o e s f k l n g h i a q:xZ N (m+1) (o,e,s,f,k,l,n,g,h,i,a,q)=cond (e<o)
 (aW (aZ i e) λu=>
 aW (aZ i e) λc=>
 aW (aZ a c) λp=>
 aW (aby N (p.1,p.2.1,p.2.2.1,p.2.2.2,q)) λj=>
 cond (j.1=0)
  ((xZ N m (o,(wZ (e+1)),s,f,k,l,n,g,h,i,a,j.2)))
  (cond (j.1=2)
   (aW (Uw N (c,s,f,k,l,n,g,h,a)) λd=>
   (xZ N m (o,(wZ (e+1)),d.1,d.2.1,d.2.2.1,d.2.2.2.1,d.2.2.2.2.1,d.2.2.2.2.2.1,d.2.2.2.2.2.2.1,i,d.2.2.2.2.2.2.2,j.2)))
   (cond (j.1=1)
    (aW (aZ a c) λb=>
    aW (aZ (List.set a (Int.toNat c) (b.1,b.2.1,b.2.2.1,true)) c) λr=>
    aW (aZ (List.set a (Int.toNat c) (b.1,b.2.1,b.2.2.1,true)) c) λt=>
    some (.inr (true,s,f,true,r.1,t.2.1,g,h,(List.set a (Int.toNat c) (b.1,b.2.1,b.2.2.1,true)))))
    ((xZ N m (o,(wZ (e+1)),s,f,k,l,n,g,h,i,a,j.2))))))
 (some (.inl (s,f,k,l,n,g,h,a))):=ci
def Nz N m k l a s e f g h i j d b n:sn N (m+1) (k,l,a,s,e,f,g,h,i,j,d,b,n)=cond (a<l)
 (aW (aZ b a) λu=>
 aW (aZ b a) λq=>
 cond (!(q.2.2.1=k))
  ((sn N m (k,l,(wZ (a+1)),s,e,f,g,h,i,j,d,b,n)))
  (aW (aZ b a) λr=>
  cond (!r.2.2.2)
   (aW (er 8 d [a]) λt=>
   (sn N m (k,l,(wZ (a+1)),s,e,f,g,h,i,j,t,b,n)))
   (aW (aZ b a) λo=>
   aW (aby N (o.1,o.2.1,o.2.2.1,o.2.2.2,n)) λp=>
   cond (p.1=2)
    (aW (Uw N (a,s,e,f,g,h,i,j,b)) λc=>
    (sn N m (k,l,(wZ (a+1)),c.1,c.2.1,c.2.2.1,c.2.2.2.1,c.2.2.2.2.1,c.2.2.2.2.2.1,c.2.2.2.2.2.2.1,d,c.2.2.2.2.2.2.2,p.2)))
    ((sn N m (k,l,(wZ (a+1)),s,e,f,g,h,i,j,d,b,p.2))))))
 (some (s,e,f,g,h,i,j,d,b,n)):=ci
def NA N m i j a s c d e f g h b k l:Ih N (m+1) (i,j,a,s,c,d,e,f,g,h,b,k,l)=cond (a<j)
 (aW (aZ b a) λo=>
 aW (aZ b a) λn=>
 (Ih N m (i,j,(wZ (a+1)),s,c,d,e,f,g,h,b,k,(dO j1 l n 1))))
 (some (i,s,c,d,e,f,g,h,k,l)):=ci
def ai7 N u v d s e f g i j k h:abI (N+1) (u,v,d,s,e,f,g,i,j,k,h)=aW (Ke N (s,h,u,v,d)) λl=>
 aW (Ih N N (d,(length l.2:Int),0,s,e,f,g,i,j,k,l.2,h,[])) λa=>
 aW (sn N N (a.1,(length a.2.2.2.2.2.2.2.2.1:Int),0,a.2.1,a.2.2.1,a.2.2.2.1,a.2.2.2.2.1,a.2.2.2.2.2.1,a.2.2.2.2.2.2.1,a.2.2.2.2.2.2.2.1,[],a.2.2.2.2.2.2.2.2.1,a.2.2.2.2.2.2.2.2.2)) λm=>
 aW (xZ N N ((length m.2.2.2.2.2.2.2.1:Int),0,m)) λn=>
 (match n with
 |.inl c=>some (false,c.2.2.2.2.2.2.2,c.1,c.2.1,c.2.2.1,c.2.2.2.1,c.2.2.2.2.1,c.2.2.2.2.2.1,c.2.2.2.2.2.2.1)
 |.inr b=>some (b.1,b.2.2.2.2.2.2.2.2,b.2.1,b.2.2.1,b.2.2.2.1,b.2.2.2.2.1,b.2.2.2.2.2.1,b.2.2.2.2.2.2.1,b.2.2.2.2.2.2.2.1)):=ci
def wy:Do CO:=[aos,atq,ahb,atw]
def awz:Nat×PO:=(900,.box 24 v0)
def aj4:Nat×PO:=(901,.box 181 [.h .b,.h .b,.h j1,.h j1,.h j1])
def Ux:PS:=bg [ul,ac4,(11,.k (.pt 902 0)),(12,.k (.pt 903 0)),arw] [awz,aj4,(902,.box 131 v9),(903,.box 248 [.h j1,.k (.ow 904),.h .b,.h .b,.h j1,.h j1,.h j1,.h j1]),(904,.arr 131 ta true)]
def Uy:Do (IR×PS):=[((.exit 0),bg [ul,ac4,(12,.k (.pt 902 0))] [awz,aj4,(902,.box 248 [.h j1,.k (.ow 903),.h .b,.h .b,.h j1,.h j1,.h j1,.h j1]),(903,.arr 131 ta true)])]
def Uz:Pl:=.z
def CU:Nat->Nat->Int×Int×In×In×Int×Int×Int×Int×Int×Int×In×Int×In×In×Int×Int×Int×Int×fB->At (Int×In×In×Int×Int×Int×Int×In×In×Int×Int×Int×Int×fB):=eZ wy f88 [1,1,1,1,1,0,1,0,0] Ux Uy Uz
def Gw:FD:=cw 88 f88 (.n .z (.n .z (.n .z (.n .z (.n .z (.n (.n .z (.n (.loop Ux Uy Uz) .z)) .z)))))) apl [] (bg [ul,ac4,v4] [s1,aj4]) false false []
def PE:Nat->Int×fB×Int×Int->At (Int×Int×fB×In×In×Int×Int×Int):=mF wy Gw
def aqn:CO:=cF wy Gw PE func88
def Xk N m o b c d e f g t q u r s h i j k l n p:CU N (m+1) (o,b,c,d,e,f,g,t,q,u,r,s,h,i,j,k,l,n,p)=cond r
 (cond (0<=o)
  (aW (abI N (t,q,o,s,h,i,j,k,l,n,p)) λa=>
  cond (!a.1)
   ((CU N m ((wZ (o - 1)),b,c,d,e,f,g,t,q,u,r,a.2.2.1,a.2.2.2.1,a.2.2.2.2.1,a.2.2.2.2.2.1,a.2.2.2.2.2.2.1,a.2.2.2.2.2.2.2.1,a.2.2.2.2.2.2.2.2,a.2.1)))
   (some (b,c,d,e,f,g,a.2.2.1,a.2.2.2.1,a.2.2.2.2.1,a.2.2.2.2.2.1,a.2.2.2.2.2.2.1,a.2.2.2.2.2.2.2.1,a.2.2.2.2.2.2.2.2,a.2.1)))
  (some (b,c,d,e,f,g,s,h,i,j,k,l,n,p)))
 (some (b,c,d,e,f,g,s,h,i,j,k,l,n,p)):=ci
def aew N g a u v:PE (N+1) (g,a,u,v)=aW (Kc N (g,a,u,v)) λd=>
 cond (!(d.2=0))
  (some (d.2,g,a,false,false,0,0,0))
  (aW (aZ a d.1) λc=>
  aW (j0 a 0 d.1) λe=>
  aW (j0 a (wZ (d.1+1)) (length a:Int)) λf=>
  aW (abt N [e,f]) λh=>
  aW (Ju N g) λi=>
  aW (CU N N (c.2.2.1,0,false,false,0,0,0,c.1,c.2.1,c.2.2.1,c.2.2.2,g,c.2.2.2,false,0,0,0,i,h)) λb=>
  some (0,b.2.2.2.2.2.2.1,b.2.2.2.2.2.2.2.2.2.2.2.2.2,b.2.2.2.2.2.2.2.1,b.2.2.2.2.2.2.2.2.1,b.2.2.2.2.2.2.2.2.2.1,b.2.2.2.2.2.2.2.2.2.2.1,b.2.2.2.2.2.2.2.2.2.2.2.1)):=ci
def so:Do CO:=[aiD,aqn]
def UA:PS:=bg [i8,SW,(9,.k (.ow 904)),(10,.k (.pt 902 0)),(27,.k (.ow 903)),(28,.h j1),(29,.h j1)] [s1,awx,(904,.arr 181 j21 true),(902,.box 24 ii),(903,.arr 51 j5 true)]
def UB:Do (IR×PS):=[((.exit 0),bg [m5,apc,(10,.k (.pt 902 0))] [awz,(901,.arr 181 j21 true),(902,.box 24 ii)]),(.ret,bg [m5,(5,.k .nil),ww] [s1])]
def UC:Pl:=.z
def CW:Nat->Nat->Int×Int×Int×fB×Int×A13×Int×fB×A1->At ((Int×A13×Int×fB)⊕(Int×Int×fB)):=eZ so f32 [1,1,1,1,1,0,1,0,0] UA UB UC
def CX:FD:=cw 32 f32 (.n .z (.n .z (.n .z (.n .z (.n .z (.n (.n .z (.n (.loop UA UB UC) .z)) .z)))))) au0 [] (bg [m5,aln,ww] [s1,(901,.arr 181 j21 true)]) true false [901]
def wz:Nat->Int×fB×A1->At (Int×Int×fB×A13):=mF so CX
def aqo:CO:=cF so CX wz func32
def Kf N m h b g f i all d e c:CW N (m+1) (h,b,g,f,i,all,d,e,c)=cond (b<h)
 (aW (aZ c b) λl=>
 aW (aZ c b) λj=>
 aW (PE N (d,e,j.1,j.2)) λa=>
 cond (!(a.1=0))
  (some (.inr (a.1,g,f)))
  (aW (er 32 all [(a.2.2.2.1,a.2.2.2.2.1,(a.2.2.2.2.2.1,a.2.2.2.2.2.2.1),a.2.2.2.2.2.2.2)]) λk=>
  (CW N m (h,(wZ (b+1)),g,f,i,k,a.2.1,a.2.2.1,c))))
 (some (.inl (i,all,d,e))):=ci
def aex N g a l:wz (N+1) (g,a,l)=aW (EW N (g,a,l)) λb=>
 cond (!(b.1=0))
  (some (b.1,g,a,[]))
  (aW (CW N N ((length b.2:Int),0,g,a,0,[],g,a,b.2)) λe=>
  (match e with
  |.inl c=>some (0,c.2.2.1,c.2.2.2,c.2.1)
  |.inr d=>some (d.1,d.2.1,d.2.2,[]))):=ci
def nU:Do CO:=[aiG,aiK,aor,aoq]
def abJ:PS:=bg [aww,(21,.h j1),(22,.h j1)] [gt]
def abK:Do (IR×PS):=[((.exit 0),bg [aww] [gt])]
def abL:Pl:=.z
def Ii:Nat->Nat->Int×Int×aX->mR:=eZ nU f25 [1,1,1,1,0,1,0,0] abJ abK abL
def wA:FD:=cw 25 f25 (.n .z (.n .z (.n .z (.n .z (.n (.n .z (.n (.loop abJ abK abL) .z)) .z))))) [.h j1,.h hS] [] (bg [ld,to] [gt]) true true [900]
def abM:Nat->Int×A1->At A6:=mF nU wA
def atx:CO:=cF nU wA abM func25
def aey N m c a s:Ii N (m+1) (c,a,s)=cond (a<c)
 (aW (Nv N (a,s)) λb=>
 aW (aZ b.2 a) λd=>
 aW (aZ b.2 a) λe=>
 (Ii N m (c,(wZ (a+1)),(List.set b.2 (Int.toNat a) b.1))))
 (some s):=ci
def ai8 N n l:abM (N+1) (n,l)=aW (J6 N (n,l)) λa=>
 cond (!(a=0))
  (some (a,[]))
  (aW (J8 N n) λc=>
  aW (Uo N (l,c)) λb=>
  aW (Ii N N ((length b.2:Int),0,b.2)) λd=>
  some (0,d)):=ci
def UD:Do CO:=[yN,ait,atx]
def UE:FD:=cw 178 f178 .z [.ag ii] [] (bg [(2,.k (.ow 900)),arx] [gt]) true true [900]
def Xl:Nat->Int×fB->At A9:=mF UD UE
def aqp:CO:=cF UD UE Xl func178
def aez N g a:Xl (N+1) (g,a)=aW (oW N (g,a)) λb=>
 cond (!b)
  (some (false,[]))
  (aW (Nr N (g,a)) λc=>
  aW (abM N (g,c)) λd=>
  some (true,d.2)):=ci
def i_:Do CO:=[]
def li:Nat×PO:=(4294967296,.box 273 au4)
def ja:FD:=cw 270 f270 .z ao5 [li] (bg [arx] [li]) true false [4294967296]
def ai9:Nat->Int×aX->At A9:=mF i_ ja
def aty:CO:=cF i_ ja ai9 func270
def ai_ N v a:ai9 (N+1) (v,a)=cond (v<0)
 (some (true,a))
 (some ((decide ((length a:Int)<=v)),a)):=ci
def bZ:Do CO:=[aty]
def aja:PS:=bg [amy,(1,.cl (.func 270) [] m2),LE,v4] [li]
def ajb:Do (IR×PS):=[((.exit 0),bg [] [li]),(.ret,bg [ls] [li])]
def ajc:Pl:=.z
def PF:Nat->Nat->aX×Int×Int×aX->At ((aX)⊕A6):=eZ bZ f128 [1,0,1,0,0] aja ajb ajc
def av6:Do PV:=[.h j6,.cl (.func 270) [] m2]
def di:FD:=cw 128 f128 (.n .z (.n (.n .z (.n (.loop aja ajb ajc) .z)) .z)) av6 [li] (bg [ls] [li]) true false [4294967296]
def aqq:Nat->aX×aX->At A6:=mF bZ di
def avN:CO:=cF bZ di aqq aAt
def UF N m s b a f:PF N (m+1) (s,b,a,f)=cond (a<b)
 (aW (aZ s a) λd=>
 aW (ai9 N (d,f)) λc=>
 cond c.1
  (some (.inr (a,c.2)))
  ((PF N m (s,b,(wZ (a+1)),c.2))))
 (some (.inl f)):=ci
def amJ N s f:aqq (N+1) (s,f)=aW (PF N N (s,(length s:Int),0,f)) λb=>
 (match b with
 |.inl c=>some ((-1),c)
 |.inr a=>some (a.1,a.2)):=ci
def cY:Do CO:=[avN]
def cZ:FD:=cw 58 f58 .z av6 [li] (bg n7 [li]) true false [4294967296]
def aqr:Nat->aX×aX->At A9:=mF cY cZ
def avO:CO:=cF cY cZ aqr aAT
def amK N s f:aqr (N+1) (s,f)=aW (aqq N (s,f)) λa=>
 some ((decide (0<=a.1)),a.2):=ci
def l8:Do CO:=[avO]
def l9:FD:=cw 222 f222 .z [.h j6,.h j6] [] (bg n7 []) false true []
def NB:Nat->aX×aX->dj:=mF l8 l9
def atz:CO:=cF l8 l9 NB func222
def ajd N c a:NB (N+1) (c,a)=aW (aqr N (a,c)) λb=>
 some (!b.1):=ci
def gj:Do CO:=[]
def ae1:Nat×PO:=(4294967297,.box 53 n9)
def gk:FD:=cw 224 f224 .z [.h j1,.h j1,.k (.pt 4294967296 0),.k (.pt 4294967297 0)] [li,ae1] (bg [ava] [ae1,li]) true false [4294967297,4294967296]
def aje:Nat->Int×Int×aX×Int×Int×Int->At (In×Int×Int×Int×aX):=mF gj gk
def atA:CO:=cF gj gk aje func224
def ajf N f c a d b e:aje (N+1) (f,c,a,d,b,e)=aW (aZ a b) λg=>
 some ((decide (c=g)),d,b,e,a):=ci
def cn:Do CO:=[atA]
def arv:Do PV:=[.k (.pt 4294967296 0),.k (.pt 4294967297 0)]
def ajg:PS:=bg [(1,.cl (.func 224) [] arv),ls,(7,.h j6),v4,alj] [li,ae1]
def ajh:Do (IR×PS):=[((.exit 0),bg [ls] [li,ae1])]
def aji:Pl:=.z
def Kg:Nat->Nat->Int×aX×Int×Int×aX×Int×Int×Int->At (Int×aX×Int×Int×Int):=eZ cn f223 [1,0,1,0,0] ajg ajh aji
def dz:FD:=cw 223 f223 (.n .z (.n (.n .z (.n (.loop ajg ajh aji) .z)) .z)) [.h j6,.cl (.func 224) [] arv] [li,ae1] (bg [ls] [li,ae1]) true false [4294967296,4294967297]
def ajj:Nat->aX×aX×Int×Int×Int->At (Int×aX×Int×Int×Int):=mF cn dz
def avP:CO:=cF cn dz ajj func223
def UG N m n c d b e f g h:Kg N (m+1) (n,c,d,b,e,f,g,h)=cond (b<d)
 (aW (aZ c b) λi=>
 aW (aje N (b,i,e,f,g,h)) λa=>
 cond a.1
  ((Kg N m ((wZ (n+1)),c,d,(wZ (b+1)),a.2.2.2.2,a.2.1,a.2.2.1,a.2.2.2.1)))
  ((Kg N m (n,c,d,(wZ (b+1)),a.2.2.2.2,a.2.1,a.2.2.1,a.2.2.2.1))))
 (some (n,e,f,g,h)):=ci
def amL N c b d e f:ajj (N+1) (c,b,d,e,f)=aW (Kg N N (0,c,(length c:Int),0,b,d,e,f)) λa=>
 some (a.1,a.2.1,a.2.2.1,a.2.2.2.1,a.2.2.2.2):=ci
def jY:Do CO:=[]
def jZ:FD:=cw 225 f225 .z acc [] (bg n7 []) false true []
def ajk:Nat->Int×Int->dj:=mF jY jZ
def atB:CO:=cF jY jZ ajk func225
def ajl N v a:ajk (N+1) (v,a)=some (decide (v=a)):=ci
def dg:Do CO:=[atB]
def abN:PS:=bg [(1,.k (.v (.func (.func 225) #[] #[]))),ls,(7,.h j6),v4,alj] []
def abO:Do (IR×PS):=[((.exit 0),bg [ls] [])]
def abP:Pl:=.z
def CY:Nat->Nat->Int×aX×Int×Int->eF:=eZ dg f223 [1,0,1,0,0] abN abO abP
def eL:FD:=cw 223 f223 (.n .z (.n (.n .z (.n (.loop abN abO abP) .z)) .z)) [.h j6,.k (.v (.func (.func 225) #[] #[]))] [] (bg [ls] []) false true []
def UH:Nat->aX->eF:=mF dg eL
def atC:CO:=cF dg eL UH func223
def NC N m n b c a:CY N (m+1) (n,b,c,a)=cond (a<c)
 (aW (aZ b a) λd=>
 aW (ajk N (a,d)) λe=>
 cond e
  ((CY N m ((wZ (n+1)),b,c,(wZ (a+1)))))
  ((CY N m (n,b,c,(wZ (a+1))))))
 (some n):=ci
def ajm N c:UH (N+1) c=aW (CY N N (0,c,(length c:Int),0)) λa=>
 some a:=ci
def h8:Do CO:=[atz,avP,atC]
def art:Nat×PV:=(3,.k (.pt 901 0))
def avj:Do (Nat×PO):=[(900,.box 273 au4),(901,.box 53 n9)]
def abQ:PS:=bg [i8,art,LE] avj
def abR:Do (IR×PS):=[(.normal,bg [i8,art,LE,(31,.h .b)] avj)]
def abS:Pl:=.z
def abT:Nat->Nat->Int×aX×Int×Int×Int->At (Int×In×aX×Int×Int×Int):=jnF h8 f179 [1,0,1,0,1,1,0] abQ abR abS
def k_:FD:=cw 179 f179 (.n .z (.n (.n .z (.n (.n .z (.n .z (.n (.join abQ abR abS) .z))) .z)) .z)) [.h j6,.ag n9] [] (bg [ls,to] []) false true []
def abU:Nat->aX×Int×Int×Int->FM:=mF h8 k_
def atD:CO:=cF h8 k_ abU func179
def aeA N m b c a d e:abT N (m+1) (b,c,a,d,e)=cond (b=2)
 (some (b,true,c,a,d,e))
 (some (b,(decide (b=3)),c,a,d,e)):=ci
def ajn N c a d e:abU (N+1) (c,a,d,e)=cond (a=1)
 (aW (NB N (c,[d,e])) λf=>
 cond (!f)
  (some (0,10))
  (aW (aZ c d) λg=>
  aW (aZ c e) λh=>
  cond (g=h)
   (some (1,0))
   (some (0,0))))
 (aW (abT N N (a,c,a,d,e)) λb=>
 cond b.2.1
  (aW (NB N (b.2.2.1,[b.2.2.2.2.1])) λi=>
  cond (!i)
   (some (0,10))
   (cond (b.2.2.2.1=2)
    (aW (aZ b.2.2.1 b.2.2.2.2.1) λj=>
    some (j,0))
    (aW (ajj N (b.2.2.1,b.2.2.1,b.2.2.2.1,b.2.2.2.2.1,b.2.2.2.2.2)) λk=>
    some (k.1,0))))
  (cond (b.1=4)
   (aW (UH N b.2.2.1) λl=>
   some (l,0))
   (some (0,1)))):=ci
def qa:Do CO:=[aqp,atD]
def abV:PS:=bg [n8,(8,.k (.ow 901)),(20,.h Ha),(21,.h j1),(22,.h j1)] [gt,m6]
def abW:Do (IR×PS):=[((.exit 0),bg [m7] [gt]),(.ret,bg [(4,.k .nil),to] [])]
def abX:Pl:=.z
def Ij:Nat->Nat->(Do A4)×Int×Int×aX×aX->At ((aX)⊕(Int)):=eZ qa f108 [1,1,1,1,0,1,0,0] abV abW abX
def zg:FD:=cw 108 f108 (.n .z (.n .z (.n .z (.n .z (.n (.n .z (.n (.loop abV abW abX) .z)) .z))))) [.ag ii,.h Ha] [] (bg [ld,to] [gt]) true true [900]
def CZ:Nat->Int×fB×(Do A4)->At A6:=mF qa zg
def atE:CO:=cF qa zg CZ func108
def ND N m d e a c b:Ij N (m+1) (d,e,a,c,b)=cond (a<e)
 (aW (aZ d a) λf=>
 aW (abU N (c,f.1,f.2.1,f.2.2)) λg=>
 cond (!(g.2=0))
  (some (.inr g.2))
  (aW (er 8 b [g.1]) λh=>
  (Ij N m (d,e,(wZ (a+1)),c,h))))
 (some (.inl b)):=ci
def ajo N g a l:CZ (N+1) (g,a,l)=aW (Xl N (g,a)) λb=>
 cond (!b.1)
  (some (1,[]))
  (aW (Ij N N (l,(length l:Int),0,b.2,[])) λc=>
  (match c with
  |.inl d=>some (0,d)
  |.inr e=>some (e,[]))):=ci
def sq:Do CO:=[]
def UI:PS:=bg [i8,art,to] [s1,(901,.box 24 ii)]
def UJ:Do (IR×PS):=[((.exit 0),bg [] []),(.ret,bg n7 [])]
def UK:Pl:=.z
def C0:Nat->Nat->Int×Int×fB×Int×fB->At ((Unit)⊕(In)):=eZ sq f11 [1,1,0,1,0,0] UI UJ UK
def C1:FD:=cw 11 f11 (.n .z (.n .z (.n (.n .z (.n (.loop UI UJ UK) .z)) .z))) [.ag ii,.ag ii] [] (bg n7 []) false true []
def Kh:Nat->Int×fB×Int×fB->dj:=mF sq C1
def ajp:CO:=cF sq C1 Kh func11
def Ki N m i a c b f:C0 N (m+1) (i,a,c,b,f)=cond (i<(length c:Int))
 (aW (aZ c i) λd=>
 aW (aZ f i) λe=>
 cond (!((decide (d.1=e.1)) && ((decide (d.2.1=e.2.1)) && ((decide (d.2.2.1=e.2.2.1)) && (d.2.2.2==e.2.2.2)))))
  (some (.inr false))
  ((C0 N m ((wZ (i+1)),a,c,b,f))))
 (some (.inl ())):=ci
def aeB N a c b d:Kh (N+1) (a,c,b,d)=cond (!(a=b))
 (some false)
 (cond (!((length c:Int)=(length d:Int)))
  (some false)
  (aW (C0 N N (0,a,c,b,d)) λe=>
  (match e with
  |.inl g=>some true
  |.inr f=>some f))):=ci
def C2:Do CO:=[ajp]
def C3:FD:=cw 8 f8 .z [.ag arq,.ag arq] [] (bg n7 []) false true []
def E1:Nat->Int×fB×Int×Int×Int×fB×Int×Int->dj:=mF C2 C3
def aqs:CO:=cF C2 C3 E1 func8
def aeC N a c d e b f g h:E1 (N+1) (a,c,d,e,b,f,g,h)=aW (Kh N (a,c,b,f)) λi=>
 cond i
  (cond (d=g)
   (some (decide (e=h)))
   (some false))
  (some false):=ci
def ajq(e:Int)(f:e≠0):PCX Tryz.prog 107 [] [.v (.int .i64 e)] [{v:=oE e,recovered:=false}]:=by
 refine⟨⟨f107,aBA,by kernel_rfl,by kernel_rfl⟩,λB Rd e0 w d g a=>?_⟩;obtain⟨v,i,k⟩:=a.get (j:=0) (c:=.v (.int .i64 e)) rfl;obtain rfl:=k.bR;have:d=[.int .i64 e]:=by
  match d,a.1,i with
  |[u],_,h=>simpa using h
 subst this;exact(agZ e w f).mono λx l b=>⟨b.1,e0,b.2▸g.nil⟩
noncomputable def C4:FD:=⟨107,f107,.z,[.h (.i .i64)],[],[.i .i64],⟨[],[],[]⟩,false,true,[]⟩
noncomputable def dV:Nat->Int->At Unit:=mF [] C4
noncomputable def PH:CO:=cF [] C4 dV aBA
def tB N e:dV (N+1) e=cond (!(e=0)) none (some ()):=ci
noncomputable def PI:Do CO:=[atj,Xg,PH,aqk,aqo,atE]
def ann:Nat×PO:=(4294967296,.box 125 [.h j1,.h iU,.h j1,.h j1,.h j1,.h j1,.h j6])
noncomputable def PJ:FD:=⟨44,f44,.z,[.k (.pt 4294967296 0),.ag Or,.ag up],[ann],[j1,hS,Ha,j1,j1,j1,j1,hS,j1,iU,j1,j1,j1,j1,j6],⟨[],[ann],[j1,iU,j1,j1,j1,j1,j6]⟩,true,false,[4294967296]⟩
noncomputable def E2:Nat->lW PJ.cs->At (lW PJ.rs.c):=mF PI PJ
def aeD N k p q l m g P j n b d f e i h:E2 (N+1) (k,p,q,l,m,g,P,j,n,b,d,f,e,i,h)=
 aW (tw N (n,b,k,p,q,l,m,g,P,j)) λc=>aW (dV N c.2.1) λ_=>
 aW (kH N (wZ (((c.2.2.2.1.length:Nat):Int)+((c.2.2.2.2.length:Nat):Int)),g,P,j)) λo=>aW (dV N o.2.1) λ_=>
 cond (c.2.2.1=1)
  (aW (p_ N (n,b,c.2.2.2.1)) λa=>aW (dV N a.2.1) λ_=>some (a.2.2.1,a.2.2.2,wZ (d+1),wZ (f+wZ (c.1+o.1)),e,a.1,h))
  (cond (c.2.2.1=2)
   (aW (wz N (n,b,c.2.2.2.1)) λa=>aW (dV N a.1) λ_=>some (a.2.1,a.2.2.1,wZ (d+1),wZ (f+wZ (c.1+o.1)),e,((c.2.2.2.1.length:Nat):Int),h))
   (cond (c.2.2.1=3)
    (aW (CZ N (n,b,c.2.2.2.2)) λa=>aW (dV N a.1) λ_=>some (n,b,wZ (d+1),wZ (f+wZ (c.1+o.1)),e,i,a.2))
    (aW (dV N o.2.1) λ_=>some (n,b,wZ (d+1),wZ (f+wZ (c.1+o.1)),e,i,h)))):=ci
noncomputable def ll:CO:=cF PI PJ E2 func44
variable{c:Code}{e:cT}{i:FuncId}{d:Int}{a:Do PanicEntry}{b:Nat}{g h:EQ}
def kGo{R:Type}(f:cT->At R):IR->cT->At R
 |.normal,E=>f E
 |_,_=>none
def slI(E:cT)(i:Nat):sV:=match c6 E.t i with
 |.sc (.i .i64) e=>some e
 |_=>none
def aqt(h:slI e b=some d):c6 e.t b=.sc (.i .i64) d:=by
 unfold slI at h;split at h
 next c a=>cases h;exact a
 .cases h
section
variable{P:Fd}{dC:IR->St->Prop}{T:EQ->bz}{CT:Do kq}{N:Nat}
def TC.Xm(m:Place P T CT){c d:Code}(g:FZ c=true){o:Pl}{R:Type}{f:cT->At R}{r:R}(h:yB T CT N c o e R (kGo f)=some r)(j:∀b,b.n=e.n->f b=some r->TC P d (bu b) dC):TC P (.seq c d) (bu e) dC:=by
 refine TC.seq ((TC.ex m g h).mono λx s n=>?_);obtain⟨b,rfl,k,a⟩:=n;cases x with
 |normal=>exact j b k a
 |_=>cases a
def TC.avQ{id:Nat}{l:bs}{j k s:Nat}{p1 p2:String}{o q:dM}{F:jk}(z:l=[⟨some j,.move (.tmp s),g,p1,o,none⟩,⟨some k,.call ⟨.value (.func i), #[.tmp j],F⟩,h,p2,q,none⟩])
 (y:PCX P i [] [.v (.int .i64 d)] a) (v:slI e s=some d) (u:j<e.n) (r:QU (1000*(k+1)) []=true) (A:∀E,dC (.panic a) E):TC P (.seq (.region id l.toArray false) c) (bu e) dC:=by
 refine TC.seq (TC.region ?_);subst z;have x:(bu e).ev (.tmp s)=.v (.int .i64 d):=by
  show bM (bu e).t s=_;rw[show(bu e).t=gD e.t from rfl,cN,aqt v];rfl
 refine TL.cons λI t=>GS.plain rfl (SS.read (RS.an3 x) u (t _ (TL.last rfl ?_)));refine SP.Yp (D:=[]) (h':=(bu e).h) y (QV.func (args:= #[.tmp j])) (λH n e0 w G B C=>?_) r (A _);refine⟨e0,pI.refl B,(λp f b=>by cases b),(λp ob b=>by cases b),?_⟩;have:([.tmp j]:oL).map (St.ev ⟨(bu e).n,(j,.v (.int .i64 d))::(bu e).t,(bu e).h⟩)=[.v (.int .i64 d)]:=by
  simp only[axJ,ayy,St.ev,bM,ax0]
 have m:LR (VR (bS H n e0 (bu e).h w) (some e0)) (([.tmp j]:oL).map (St.ev ⟨(bu e).n,(j,.v (.int .i64 d))::(bu e).t,(bu e).h⟩)) G:=C;rw[this]at m;exact m
end
noncomputable def tb:Code:=iB f44
noncomputable def tq(i:Nat):Code:=je (replicate i 1++[0]) tb
noncomputable def tz:Code:=je [1,1,1,1,1,1,1] tb
def ajr:tb=.seq (tq 0) (.seq (tq 1) (.seq (tq 2) (.seq (tq 3) (.seq (tq 4) (.seq (tq 5) (.seq (tq 6) tz)))))):=ci
def UL(s:Nat)(c:Code):Prop:=∃(id a b:Nat) (g h:EQ) (p1 p2:String) (d e:dM) (f:jk),c=.region id [⟨some a,.move (.tmp s),g,p1,d,none⟩,⟨some b,.call ⟨.value (.func 107), #[.tmp a],f⟩,h,p2,e,none⟩].toArray false/\a<130/\QU (1000*(b+1)) []=true
def atG:UL 8 (tq 2):=⟨_,_,_,_,_,_,_,_,_,_,rfl,d6,rfl⟩
def atH:UL 8 (tq 4):=⟨_,_,_,_,_,_,_,_,_,_,rfl,d6,rfl⟩
def atI:UL 8 (tq 6):=⟨_,_,_,_,_,_,_,_,_,_,rfl,d6,rfl⟩
def UL.tc{P:Fd}{dC:IR->St->Prop}{c y:Code}(h:UL b c)(j:PCX P 107 [] [.v (.int .i64 d)] a)(i:slI e b=some d)(k:e.n=130)(l:∀m,dC (.panic a) m):TC P (.seq c y) (bu e) dC:=by
 obtain⟨id,p,q,s,t,p1,p2,n,o,r,rfl,f,g⟩:=h;exact TC.avQ rfl j i (by rw[k];exact f) g l
abbrev TA:Type:=Int×bj×lP×Int×Int×Int×Int×bj×Int×Do bq×Int×Int×Int×Int×aX
noncomputable def tE(N:Nat)(x:TA):cT:=⟨130,LY 0 ((ll.c N).as x),(ll.c N).H0 x⟩
noncomputable abbrev tx(N:Nat):=λ(c:Code) (E:cT) (f:cT->sV)=>yB T (Y1 PI N) N c .z E Int (kGo f)
noncomputable def NF(N:Nat):TA->sV:=λ(k,h,i,e,f,g,P,d,n,b,l,q,p,m,j)=>
 aW (tw N (n,b,k,h,i,e,f,g,P,d)) λc=>cond (!(decide (c.2.1=0))) (some c.2.1) (
 aW (kH N (wZ (((c.2.2.2.1.length:Nat):Int)+((c.2.2.2.2.length:Nat):Int)),g,P,d)) λo=>cond (!(decide (o.2.1=0))) (some o.2.1) (
 cond (decide (c.2.2.1=1)) (aW (p_ N (n,b,c.2.2.2.1)) λa=>some a.2.1)
  (cond (decide (c.2.2.1=2)) (aW (wz N (n,b,c.2.2.2.1)) λa=>some a.1)
   (cond (decide (c.2.2.1=3)) (aW (CZ N (n,b,c.2.2.2.2)) λa=>some a.1) (some o.2.1)))))
def avR N k d f a b g P e n h j o m l i:tx N (tq 0) (tE N (k,d,f,a,b,g,P,e,n,h,j,o,m,l,i)) (λE=>tx N (tq 1) E λE=>slI E 8)=
 aW (tw N (n,h,k,d,f,a,b,g,P,e)) λc=>some c.2.1:=ci
def avS N k e f b d g P a n h j p m l i:tx N (tq 0) (tE N (k,e,f,b,d,g,P,a,n,h,j,p,m,l,i)) (λE=>tx N (tq 1) E λE=>tx N (tq 2) E λE=>tx N (tq 3) E λE=>slI E 8)=
 aW (tw N (n,h,k,e,f,b,d,g,P,a)) λc=>aW (dV N c.2.1) λ_=>
 aW (kH N (wZ (((c.2.2.2.1.length:Nat):Int)+((c.2.2.2.2.length:Nat):Int)),g,P,a)) λo=>some o.2.1:=ci
def avT N k h i e f g P d n b l q p m j:tx N (tq 0) (tE N (k,h,i,e,f,g,P,d,n,b,l,q,p,m,j)) (λE=>tx N (tq 1) E λE=>tx N (tq 2) E λE=>tx N (tq 3) E λE=>tx N (tq 4) E λE=>tx N (tq 5) E λE=>slI E 8)=
 aW (tw N (n,b,k,h,i,e,f,g,P,d)) λc=>aW (dV N c.2.1) λ_=>
 aW (kH N (wZ (((c.2.2.2.1.length:Nat):Int)+((c.2.2.2.2.length:Nat):Int)),g,P,d)) λo=>aW (dV N o.2.1) λ_=>
 cond (c.2.2.1=1) (aW (p_ N (n,b,c.2.2.2.1)) λa=>some a.2.1)
  (cond (c.2.2.1=2) (aW (wz N (n,b,c.2.2.2.1)) λa=>some a.1)
   (cond (c.2.2.1=3) (aW (CZ N (n,b,c.2.2.2.2)) λa=>some a.1) (some o.2.1))):=ci
def Xn{N:Nat}{x:TA}(h:TC Tryz.prog tb (bu (tE N x)) λy _=>y=.panic a):PCX Tryz.prog 44 (bE ((ll.c N).H0 x)) (cg ((ll.c N).as x)) a:=by
 refine PCX.intro func44 ci (c:=tb) ci (by show _<=130;rw[show(cg ((ll.c N).as x)).length=3 from rfl];decide) (by show(130:Nat)<=1000000;decide) ?_;have e:(⟨f44.ntmps,vf 0 (cg ((ll.c N).as x)),bE ((ll.c N).H0 x)⟩:St)=bu (tE N x):=by
  unfold bu tE;simp only[vA];rfl
 rw[e];exact h
def ajs{N:Nat}{x:TA}(h:NF (N+1) x=some d)(W:d≠0):PCX Tryz.prog 44 (bE ((ll.c (N+1)).H0 x)) (cg ((ll.c (N+1)).as x)) [{v:=oE d,recovered:=false}]:=by
 refine Xn ?_;obtain⟨k,i,j,e,f,g,P,b,n,l,p,t,r,q,m⟩:=x;have a:=EJ PI (N+1);have B:=ajq d W;have G:FZ (tq 0)=true:=ci
 have H:FZ (tq 1)=true:=ci
 have M:FZ (tq 2)=true:=ci
 have O:FZ (tq 3)=true:=ci
 have Z:FZ (tq 4)=true:=ci
 have n5:FZ (tq 5)=true:=ci
 have I:=avR (N+1) k i j e f g P b n l p t r q m;have u:=avS (N+1) k i j e f g P b n l p t r q m;have s:=avT (N+1) k i j e f g P b n l p t r q m;have L:dV (N+1) 0=some ():=by rw[tB];rfl
 have S:tx (N+1) (tq 0) (tE (N+1) (k,i,j,e,f,g,P,b,n,l,p,t,r,q,m)) (λE=>tx (N+1) (tq 1) E λE=>slI E 8)=some d->TC Tryz.prog tb (bu (tE (N+1) (k,i,j,e,f,g,P,b,n,l,p,t,r,q,m))) λy _=>y=.panic [{v:=oE d,recovered:=false}]:=λh=>by
  rw[ajr];exact TC.Xm a G h λJ w h=>TC.Xm a H h λK z h=>atG.tc B h (z.trans w) λ_=>rfl
 have U:tx (N+1) (tq 0) (tE (N+1) (k,i,j,e,f,g,P,b,n,l,p,t,r,q,m)) (λE=>tx (N+1) (tq 1) E λE=>tx (N+1) (tq 2) E λE=>tx (N+1) (tq 3) E λE=>slI E 8)=some d->TC Tryz.prog tb (bu (tE (N+1) (k,i,j,e,f,g,P,b,n,l,p,t,r,q,m))) λy _=>y=.panic [{v:=oE d,recovered:=false}]:=λh=>by
  rw[ajr];exact TC.Xm a G h λJ w h=>TC.Xm a H h λK z h=>TC.Xm a M h λQ D h=>TC.Xm a O h λR F h=>atH.tc B h (F.trans (D.trans (z.trans w))) λ_=>rfl
 have V:tx (N+1) (tq 0) (tE (N+1) (k,i,j,e,f,g,P,b,n,l,p,t,r,q,m)) (λE=>tx (N+1) (tq 1) E λE=>tx (N+1) (tq 2) E λE=>tx (N+1) (tq 3) E λE=>tx (N+1) (tq 4) E λE=>tx (N+1) (tq 5) E λE=>slI E 8)=some d->TC Tryz.prog tb (bu (tE (N+1) (k,i,j,e,f,g,P,b,n,l,p,t,r,q,m))) λy _=>y=.panic [{v:=oE d,recovered:=false}]:=λh=>by
  rw[ajr];exact TC.Xm a G h λJ w h=>TC.Xm a H h λK z h=>TC.Xm a M h λQ D h=>TC.Xm a O h λR F h=>TC.Xm a Z h λE5 X h=>TC.Xm a n5 h λE6 Y h=>atI.tc B h (Y.trans (X.trans (F.trans (D.trans (z.trans w))))) λ_=>rfl
 unfold NF at h;simp only at h;generalize tw (N+1) (n,l,k,i,j,e,f,g,P,b)=oc at h I u s;cases oc with
 |none=>cases h
 |some c=>
  simp only[aW]at h I u s;by_cases A:c.2.1=0
  .rw[A,L]at u s
   rw[A]at h;simp only[ayD,axA,axr]at h u s;generalize kH (N+1) (wZ (((c.2.2.2.1.length:Nat):Int)+((c.2.2.2.2.length:Nat):Int)),g,P,b)=oo at h u s;cases oo with
   |none=>cases h
   |some o=>
    simp only at h u s;by_cases C:o.2.1=0
    .rw[C,L]at s
     rw[C]at h;simp only[ayD,axA,axr]at h s;exact V (s.trans h)
    .rw[axU C]at h
     exact U (u.trans h)
  .rw[axU A]at h
   exact S (I.trans h)
def Bs.C5(B:Bs)(l:AO):Bs:=⟨B.w,B.own,B.bX,B.sv,l⟩
section
variable{P:Fd}{B:Bs}{Rd:bI}{e:Env}{h:Hp}{w:GE}{st:St}{a:Act}
def SR.C5(b:SR B Rd e h w)(l:AO):SR (B.C5 l) Rd e h w:=
 ⟨⟨b.ext.os,b.ext.tape,b.ext.output,b.ext.size,b.ext.block,b.ext.drawn⟩,b.kW,b.ob,b.base,b.inj,b.yv⟩
def SR.UM{l:AO}(b:SR (B.C5 l) Rd e h w):SR B Rd e h w:=
 ⟨⟨b.ext.os,b.ext.tape,b.ext.output,b.ext.size,b.ext.block,b.ext.drawn⟩,b.kW,b.ob,b.base,b.inj,b.yv⟩
def Ga.C5(b:Ga B Rd e st a w)(l:AO):Ga (B.C5 l) Rd e st {a with defers:=l} w:=
 ⟨b.n,rfl,b.sr.C5 l,b.tr⟩
def aeE{id d:Nat}{I s:EQ}{p1 p2:String}{t o:dM}{b:gr}{r:jk}{l:bs}{Q:IR->Act->GE->Prop}
 (D:l=[⟨some d,.makeFunc (.func i) #[] b,I,p1,t,none⟩,⟨none,.defer ⟨.value (.tmp d), #[],r⟩,s,p2,o,none⟩]) (k:Ga B Rd e st a w) (p:d<st.n)
 (F:∀m:Act,Ga (B.C5 ({target:=.fn (.func i) (b.map a.eval),args:= #[]}::B.df)) Rd e ⟨st.n,(d,.cl (.func i) [] (b.toList.map st.ev))::st.t,st.h⟩ m w->Q .normal m w):(Code.region id l.toArray false).wp P Q a w:=by
 subst D;refine wp_region_lit (aAh λJ z=>?_);rw[axn (by simp[Region.wanted])];have H:VR (bS B Rd e st.h w) (some e) (.cl (.func i) [] (b.toList.map st.ev)) (.func (.func i) #[] (b.map a.eval)):=by
  have f:=k.args b;have:=VR.cl (Rd:=bS B Rd e st.h w) (E:=some e) (fn:=.func i) (fs:=[]) [] _ rfl f.1 (λj c u C=>by cases C) f.2;have x:(b.toList.map a.eval).toArray=b.map a.eval:=by rw[<-ay5]
  rw[x]at this;exact this
 refine eA (v:=.func (.func i) #[] (b.map a.eval)) (w':=w) (by simp[execOp,Instr.makeFunc]) (z _ _ ?_);have g:=k.put p H;have q:(a.put (some d) (.func (.func i) #[] (b.map a.eval))).eval (.tmp d)=.func (.func i) #[] (b.map a.eval):=by
  have y:d<a.tmps.size:=by rw[k.n.1];exact p
  simp[Act.eval,Act.put,y]
 generalize a.put (some d) (.func (.func i) #[] (b.map a.eval))=n at g q;refine aAh λK A=>?_;rw[axn (by simp[Region.wanted])];have G:(execOp n.eval ⟨none,.defer ⟨.value (.tmp d), #[],r⟩,s,p2,o,none⟩).run P w=.ok (.defer {target:=.fn (.func i) (b.map a.eval),args:= #[]}) w:=by
  simp[execOp,resolve,q,Deferred.ofValue]
 unfold Oper.wp;rw[G];refine A _ _ (F _ ?_);have f:=g.C5 ({target:=.fn (.func i) (b.map a.eval),args:= #[]}::n.defers);rw[g.d]at f⊢;exact f
end
noncomputable def pb:Code:=iB Tryz.f5
noncomputable def pq(i:a_):Code:=je i pb
def atJ:pb=.seq (pq [0]) (.seq (pq [1,0]) (.seq (pq [1,1,0]) (.seq (pq [1,1,1,0]) (.seq (pq [1,1,1,1,0]) (pq [1,1,1,1,1]))))):=ci
def aqu(c:Code):Prop:=∃(id:Nat) (g i:EQ) (p1 p2:String) (b d:dM) (f:jk),c=.region id [⟨some 14,.makeFunc (.func 43) #[] #[.tmp 3,.tmp 6,.tmp 7],g,p1,b,none⟩,⟨none,.defer ⟨.value (.tmp 14), #[],f⟩,i,p2,d,none⟩].toArray false
def amM:aqu (pq [1,1,0]):=⟨_,_,_,_,_,_,_,_,rfl⟩
noncomputable def gb:Code:=iB f43
noncomputable def gq(i:a_):Code:=je i gb
def aqv(c:Code):Prop:=∃(id:Nat) (f g:EQ) (p1 p2:String) (a b:dM) (e:jk),c=.region id [⟨some 6,.call ⟨.builtin .recover, #[],e⟩,f,p1,a,none⟩,⟨some 3,.assign (.tmp 6),g,p2,b,none⟩].toArray false
def atM:aqv (gq [0]):=⟨_,_,_,_,_,_,_,_,rfl⟩
noncomputable def asL:bs:=match gq [1,0]with
 |.region _ a _=>a.toList.drop 2
 |_=>[]
section
variable{P:Fd}{st:St}{d:jl}{ty:EQ}{pos:String}{af:dM}{gd:fJ}
def RS.assert{x:If}{v:Id}{c:AV}(l:∃m,P.underlying h=some (.struct m))(o:st.ev x=.v (.iface h v))(n:∀Rd E,VR Rd E c v):RS P ⟨d,.typeAssert x g h true,ty,pos,af,gd⟩ st (.tu [c,.v (.bool true)]):=λs p e a w b=>by
 obtain⟨m,l⟩:=l;have i:=b.ev x;rw[o]at i;have i:=i.bR;refine⟨.tuple #[v,.bool true],?_,λr _=>?_⟩
 .exact .tu [v,.bool true] rfl λj q u f k=>by
   match j with
   |0=>simp at f k;subst f;subst k;exact n _ _
   |1=>simp at f k;subst f;subst k;exact .v
   |j+2=>simp at f
 .simp[execOp,i,Instr.typeAssert,axR l]
def amN(h:aqv c){Q:IR->Act->Do Frame->GE->Prop}{a:Act}{w:GE}{b:Frame}{e:Do Frame}{v:Id}(j:b.mode=.panicking [{v:=v,recovered:=false}])(m:6<a.tmps.size)
 (k:Q .normal ((a.put (some 6) v).put (some 3) v) ({b with mode:=.panicking [{v:=v,recovered:=true}]}::e) w):c.wpS P Q a (b::e) w:=by
 obtain⟨id,q,r,p1,p2,f,g,p,rfl⟩:=h;refine wpS_region ?_;have i:(a.put (some 6) v).eval (.tmp 6)=v:=by simp[Act.eval,Act.put,m]
 have n:(execOp a.eval ⟨some 6,.call ⟨.builtin .recover, #[],p⟩,q,p1,f,none⟩).run P w=.ok .recover w:=by simp[execOp,resolve,invoke,builtin]
 have o:(execOp (a.put (some 6) v).eval ⟨some 3,.assign (.tmp 6),r,p2,g,none⟩).run P w=.ok (.value v) w:=by simp[execOp,i]
 have l:recoverD (b::e)=some (v,{b with mode:=.panicking [{v:=v,recovered:=true}]}::e):=by simp[recoverD,j]
 show wpOpsS P _ Q [0,1] a (b::e) w;simp only[wpOpsS,ayV,aAU,ayT,Region.wanted,n,o,l,ax0,Oper.upon_value];exact k
end
section
section
variable{P:Fd}
def DCX(P:Fd)(f:FuncId)(a:Hp)(c:Do AV)(u g:FrameMode)(K:Hp->Prop):Prop:=
 ∀B Rd e w b,SR B Rd e a w->LR (VR (bS B Rd e a w) (some e)) c b->CallsD P f b.toArray u w λx h i=>(∃v,x=.returned v)/\h=g/\∃d H,K H/\SR B Rd d H i
def Ga.enter{fn:Func}{B:Bs}{Rd:bI}{e:Env}{w:GE}{H0:Hp}{av:Do AV}{vs:bH}(k:B.df=[])(n:av.length<=fn.ntmps)(j:fn.ntmps<=1000000)(m:SR B Rd e H0 w)(c:LR (VR (bS B Rd e H0 w) (some e)) av vs):
 Ga B Rd e ⟨fn.ntmps,vf 0 av,H0⟩ {tmps:=vs.toArray++Array.replicate (fn.ntmps - vs.toArray.size) undef,defers:=[]} w:=by
 refine⟨⟨by simp[c.1];omega,j⟩,by rw[k],m,λi=>?_⟩;rw[AX];simp only[axT,ax0,aAj];by_cases b:i<av.length
 .have d:av[i]? =some av[i]:=axz b
  obtain⟨u,g,l⟩:=c.get d;have a:av.getD i .un=av[i]:=by simp[List.getD,d]
  have h:(vs.toArray++Array.replicate (fn.ntmps - vs.toArray.size) undef).getD i undef=u:=by
   have f:i<vs.length:=by rw[c.1];exact b
   simp[ayH,aAk,f];rw[axz f]at g;simpa using g
  rw[a,h];exact l
 .have a:av.getD i .un=.un:=by simp[List.getD,ax4 (azW b)]
  rw[a];exact .un
def DCX.rec{fn:Func}{c0 c1:Code}{g:Hp}{a:Do AV}{v:Id}{K:Hp->Prop}(z:P.funcs[i]? =some fn)(u:fn.body=some (.seq c0 c1))(t:aqv c0)(E:a.length<=fn.ntmps)(y:fn.ntmps<=1000000)(n:6<fn.ntmps)(F:fn.results.toList=[])
 (h:TC P c1 ⟨fn.ntmps,(3,.v v)::(6,.v v)::vf 0 a,g⟩ λx r=>(x=.normal\/x=.ret)/\K r.h):DCX P i g a (.panicking [{v:=v,recovered:=false}]) (.panicking [{v:=v,recovered:=true}]) K:=by
 intro B Rd e w I G q;refine callsD_of_wpS z u λc J H=>wpS_seq (amN t H (by simp[q.1];omega) ?_);have A:=Ga.enter (fn:=fn) (B:=B.C5 []) (H0:=g) (av:=a) (vs:=I) rfl E y (G.C5 []) q;have C:=A.put (d:=6) (c:=.v v) n .v;have D:=C.put (d:=3) (c:=.v v) (Nat.lt_trans d6 n) .v;refine wpS_of_wp (h _ _ _ _ _ _ D λx r k m l s j=>?_);have p:l.defers=[]:=j.d;have b:∃f,(results fn l.tmps).run P s=.ok f s:=by
  refine⟨.tuple #[],?_⟩;have:fn.results= #[]:=by simpa using F
  simp[results,this]
 obtain⟨f,b⟩:=b;obtain⟨k,o⟩:=k;rcases k with rfl|rfl
 .exact⟨p,_,rfl,f,b,⟨_,rfl⟩,rfl,m,_,o,j.sr.UM⟩
 .exact⟨p,_,rfl,f,b,⟨_,rfl⟩,rfl,m,_,o,j.sr.UM⟩
