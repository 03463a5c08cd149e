/- part 5 -/
import Derived.Test.YtglncfdpdaageaaGreatDoorZWholeErrors4
set_option linter.all false
noncomputable section
open Go Go.RowKit
open IntKind (wrap)
set_option maxRecDepth 100000
open Go.Proofs.Tryz
open List (length replicate)
namespace Go.Proofs.YtglncfdpdaageaaGreatDoor
abbrev j1:Sc:=.i .i64
abbrev j2:Sc:=.i .u32
abbrev j3:Sc:=.sl .b
abbrev j4:Sc:=.i .u64
abbrev j5:Sc:=.pr j1 j1
abbrev j6:Sc:=.sl j1
abbrev j7:Sc:=.pr j1 .b
abbrev j8:Sc:=.sl j2
abbrev j9:Sc:=.pr j1 j7
abbrev fJ:Sc:=.sl j6
abbrev j11:Sc:=.pr j1 j5
abbrev gO:Sc:=.sl j5
abbrev j13:Sc:=.pr j5 j1
abbrev rh:Sc:=.pr j1 j9
abbrev j15:Sc:=.pr j1 j11
abbrev AQ:Sc:=.sl j11
abbrev j18:Sc:=.pr .b j13
abbrev iG:Sc:=.sl rh
abbrev ou:Sc:=.sl j15
abbrev j21:Sc:=.pr .b j18
abbrev j22:Sc:=.sl iG
abbrev A1:Type:=bh
abbrev A2:Type:=Int×(Int×In)
abbrev A3:Type:=bP
abbrev A4:Type:=Int×(Int×Int)
abbrev A5:Type:=D6
abbrev A6:Type:=Int×aX
abbrev A7:Type:=Int×Int×aX
abbrev A8:Type:=In×((Int×Int)×Int)
abbrev A9:Type:=In×aX
abbrev fB:Type:=Do (Int×A2)
abbrev nI:Type:=Do (Int×A4)
abbrev A12:Type:=Int×Int×A3
abbrev A13:Type:=Do (In×A8)
abbrev A14:Type:=Int×nI×Int×br×A3×In×Int×Int×fB
def vk:Do CO:=[]
noncomputable def vl:FD:=cQ 127 f127 .z [.h j1] [] (bm [(2,.h .b)] []) false true []
def NF:Nat->Int->eh:=mF vk vl
def akD:CO:=cF vk vl NF func127
def acU N n:NF (N+1) n=cond (1<=n)
 (some (decide (n<=64)))
 (some false):=ci
def hC:Do CO:=[]
def UJ:PS:=bm [(0,.h j4),(2,.h j1)] []
def UK:Do (IO×PS):=[(.normal,bm [(0,.h j4),(2,.h j1)] [])]
def UL:Pl:=.z
def UM:Nat->Nat->Int×Int->BD:=jnF hC f198 [1,1,0] UJ UK UL
def UN:PS:=bm [(0,.h j4),(2,.h j1)] []
def UO:Do (IO×PS):=[(.normal,bm [(0,.h j4),(2,.h j1)] [])]
def UP:Pl:=.z
def UQ:Nat->Nat->Int×Int->BD:=jnF hC f198 [1,0] UN UO UP
noncomputable def nJ:FD:=cQ 198 f198 (.n .z (.n (.join UN UO UP) (.n (.join UJ UK UL) .z))) [.h j4] [] (bm [(2,.h j1)] []) false true []
def UR:Nat->Int->eQ:=mF hC nJ
def aoZ:CO:=cF hC nJ UR func198
def Zp N m x n:UM N (m+1) (x,n)=cond (65536<=x)
 (some ((Int.fdiv x ((2:Int)^(min (Int.toNat 16) 64))),(wrap .i64 (n+16))))
 (some (x,n)):=ci
def Zq N m x n:UQ N (m+1) (x,n)=cond (4294967296<=x)
 (some ((Int.fdiv x ((2:Int)^(min (Int.toNat 32) 64))),32))
 (some (x,n)):=ci
def acV N x:UR (N+1) x=aW (UQ N N (x,0)) λb=>
 aW (UM N N (b.1,b.2)) λa=>
 cond (256<=a.1)
  (aW (ahR ⟨#[0,1,2,2,3,3,3,3,4,4,4,4,4,4,4,4,5,5,5,5,5,5,5,5,5,5,5,5,5,5,5,5,6,6,6,6,6,6,6,6,6,6,6,6,6,6,6,6,6,6,6,6,6,6,6,6,6,6,6,6,6,6,6,6,7,7,7,7,7,7,7,7,7,7,7,7,7,7,7,7,7,7,7,7,7,7,7,7,7,7,7,7,7,7,7,7,7,7,7,7,7,7,7,7,7,7,7,7,7,7,7,7,7,7,7,7,7,7,7,7,7,7,7,7,7,7,7,7,8,8,8,8,8,8,8,8,8,8,8,8,8,8,8,8,8,8,8,8,8,8,8,8,8,8,8,8,8,8,8,8,8,8,8,8,8,8,8,8,8,8,8,8,8,8,8,8,8,8,8,8,8,8,8,8,8,8,8,8,8,8,8,8,8,8,8,8,8,8,8,8,8,8,8,8,8,8,8,8,8,8,8,8,8,8,8,8,8,8,8,8,8,8,8,8,8,8,8,8,8,8,8,8,8,8,8,8,8,8,8,8,8,8,8,8,8,8,8,8,8,8,8,8,8,8,8,8]⟩ (wrap .u8 (Int.fdiv a.1 ((2:Int)^(min (Int.toNat 8) 64))))) λc=>
  some (wrap .i64 ((wrap .i64 (a.2+8))+(wrap .i64 c))))
  (aW (ahR ⟨#[0,1,2,2,3,3,3,3,4,4,4,4,4,4,4,4,5,5,5,5,5,5,5,5,5,5,5,5,5,5,5,5,6,6,6,6,6,6,6,6,6,6,6,6,6,6,6,6,6,6,6,6,6,6,6,6,6,6,6,6,6,6,6,6,7,7,7,7,7,7,7,7,7,7,7,7,7,7,7,7,7,7,7,7,7,7,7,7,7,7,7,7,7,7,7,7,7,7,7,7,7,7,7,7,7,7,7,7,7,7,7,7,7,7,7,7,7,7,7,7,7,7,7,7,7,7,7,7,8,8,8,8,8,8,8,8,8,8,8,8,8,8,8,8,8,8,8,8,8,8,8,8,8,8,8,8,8,8,8,8,8,8,8,8,8,8,8,8,8,8,8,8,8,8,8,8,8,8,8,8,8,8,8,8,8,8,8,8,8,8,8,8,8,8,8,8,8,8,8,8,8,8,8,8,8,8,8,8,8,8,8,8,8,8,8,8,8,8,8,8,8,8,8,8,8,8,8,8,8,8,8,8,8,8,8,8,8,8,8,8,8,8,8,8,8,8,8,8,8,8,8,8,8,8,8,8]⟩ (wrap .u8 a.1)) λd=>
  some (wrap .i64 (a.2+(wrap .i64 d)))):=ci
def ri:Do CO:=[aoZ]
noncomputable def rj:FD:=cQ 147 f147 .z [.h j4] [] (bm [(2,.h j1)] []) false true []
def acW:Nat->Int->eQ:=mF ri rj
def ao0:CO:=cF ri rj acW func147
def acX N x:acW (N+1) x=aW (UR N x) λa=>
 some a:=ci
def BT:Do CO:=[akD,ao0]
noncomputable def BU:FD:=cQ 128 f128 .z [.h j1] [] (bm [(2,.h j1)] []) false true []
def Fe:Nat->Int->eQ:=mF BT BU
def acY:CO:=cF BT BU Fe func128
def Zr N n:Fe (N+1) n=aW (NF N n) λa=>
 cond (!a)
  (some 0)
  (aW (acW N (wrap .u64 (wrap .i64 (n - 1)))) λb=>
  some b):=ci
def rk:Do CO:=[⟨fN,fO⟩,⟨l5,lM⟩]
noncomputable def rl:FD:=cQ 129 f129 .z [.ag [.h j1,.h j1,.h j1,.h .b],.ag [.h j1,.h j1,.h j1,.h .b]] [] (bm [(4,.h j1)] []) false true []
def Ff:Nat->Int×Int×Int×In×Int×Int×Int×In->eQ:=mF rk rl
def akE:CO:=cF rk rl Ff func129
def acZ N a c e f b d g h:Ff (N+1) (a,c,e,f,b,d,g,h)=aW (cM N (a,b)) λi=>
 aW (cM N (c,d)) λj=>
 aW (gN N [i,j]) λk=>
 some k:=ci
def ox:Do CO:=[]
def US:PS:=bm [(1,.h j1),(5,.k (.ow 900)),(9,.h iG),(10,.h j1),(11,.h j1)] [(900,.arr 52 j5 true)]
def UT:Do (IO×PS):=[((.exit 0),bm [(5,.k (.ow 900))] [(900,.arr 52 j5 true)])]
def UU:Pl:=.z
def uy:Nat->Nat->Int×fB×Int×Int×A1->At (A1):=ga ox f61 [1,1,0,1,0,0] US UT UU
noncomputable def vm:FD:=cQ 61 f61 (.n .z (.n .z (.n (.n .z (.n (.loop US UT UU) .z)) .z))) [.ag [.h j1,.h iG],.h j1] [] (bm [(4,.k (.ow 900))] [(900,.arr 52 j5 true)]) true true [900]
def NG:Nat->Int×fB×Int->At (A1):=mF ox vm
def akF:CO:=cF ox vm NG func61
def uz N m b d c a l:uy N (m+1) (b,d,c,a,l)=cond (a<c)
 (aW (ba d a) λe=>
 cond e.2.2.2
  (cond (b<=e.2.2.1)
   (aW (eo 16 l [(e.1,e.2.1)]) λf=>
   (uy N m (b,d,c,(wrap .i64 (a+1)),f)))
   ((uy N m (b,d,c,(wrap .i64 (a+1)),l))))
  ((uy N m (b,d,c,(wrap .i64 (a+1)),l))))
 (some l):=ci
def ac0 N g a b:NG (N+1) (g,a,b)=aW (uy N N (b,a,(length a:Int),0,[])) λc=>
 some c:=ci
def xW:Do CO:=[]
noncomputable def xX:FD:=cQ 96 f96 .z [.h j1] [] (bm [(2,.h .b)] []) false true []
def wO:Nat->Int->eh:=mF xW xX
def Ky:CO:=cF xW xX wO func96
def Zs N n:wO (N+1) n=cond (1<=n)
 (some (decide (n<=64)))
 (some false):=ci
def sA:Do CO:=[Ky]
def NH:PS:=bm [(2,.k (.pt 900 0)),(4,.k (.pt 901 0)),(12,.h j1),(13,.h j1)] [(900,.box 83 [.h j1,.k .nil]),(901,.box 83 [.h j1,.k (.ow 902)]),(902,.arr 47 j6 true)]
def NI:Do (IO×PS):=[((.exit 0),bm [(2,.k (.pt 900 0)),(4,.k (.pt 901 0))] [(900,.box 83 [.h j1,.k .nil]),(901,.box 83 [.h j1,.k (.ow 902)]),(902,.arr 47 j6 true)])]
def NJ:Pl:=.z
def xY:Nat->Nat->Int×Int×Int×Int×A3->At A12:=ga sA f130 [1,1,1,0,1,0,0] NH NI NJ
noncomputable def BV:FD:=cQ 130 f130 (.n .z (.n .z (.n .z (.n (.n .z (.n (.loop NH NI NJ) .z)) .z)))) [.h j1] [] (bm [(2,.k (.pt 900 0)),(3,.h j1)] [(900,.box 83 [.h j1,.h fJ])]) false false []
def Kz:Nat->Int->At A12:=mF sA BV
def al9:CO:=cF sA BV Kz func130
def Fg N m b a c f d:xY N (m+1) (b,a,c,f,d)=cond (a<b)
 (aW (eo 24 d [[a]]) λe=>
 (xY N m (b,(wrap .i64 (a+1)),c,f,e)))
 (some (c,f,d)):=ci
def Zt N n:Kz (N+1) n=aW (wO N n) λb=>
 cond (!b)
  (some (1,0,[]))
  (aW (xY N N (n,0,0,n,[])) λa=>
  some (0,a.2.1,a.2.2)):=ci
def oy:Do CO:=[]
def UW:PS:=bm [(3,.k (.ow 900)),(6,.h gO),(7,.h j1),(8,.h j1)] [(900,.arr 3 j1 true)]
def UX:Do (IO×PS):=[((.exit 0),bm [(3,.k (.ow 900))] [(900,.arr 3 j1 true)])]
def UY:Pl:=.z
def Dj:Nat->Nat->A1×Int×Int×aX->nh:=ga oy f212 [1,1,0,1,0,0] UW UX UY
noncomputable def vo:FD:=cQ 212 f212 (.n .z (.n .z (.n (.n .z (.n (.loop UW UX UY) .z)) .z))) [.h gO] [] (bm [(2,.k (.ow 900))] [(900,.arr 3 j1 true)]) true true [900]
def UZ:Nat->A1->nh:=mF oy vo
def ao1:CO:=cF oy vo UZ func212
def Io N m c d a b:Dj N (m+1) (c,d,a,b)=cond (a<d)
 (aW (ba c a) λe=>
 aW (eo 8 b [e.1,e.2]) λf=>
 (Dj N m (c,d,(wrap .i64 (a+1)),f)))
 (some b):=ci
def ac1 N l:UZ (N+1) l=aW (Dj N N (l,(length l:Int),0,[])) λa=>
 some a:=ci
def sB:Do CO:=[]
noncomputable def sC:FD:=cQ 167 f167 .z [.h j1] [] (bm [(2,.h .b)] []) false true []
def U0:Nat->Int->eh:=mF sB sC
def ao2:CO:=cF sB sC U0 func167
def ac2 N t:U0 (N+1) t=cond (t<0)
 (some true)
 (some (decide (10000<t))):=ci
def dB:Do CO:=[ao2]
def U1:PS:=bm [(0,.h j6),(1,.k (.v (.func (.func 167) #[] #[]))),(7,.h j1),(8,.h j1)] []
def U2:Do (IO×PS):=[((.exit 0),bm [] []),(.ret,bm [(4,.h j1)] [])]
def U3:Pl:=.z
def Dl:Nat->Nat->aX×Int×Int->At ((Unit)⊕(Int)):=ga dB f121 [1,0,1,0,0] U1 U2 U3
noncomputable def eL:FD:=cQ 121 f121 (.n .z (.n (.n .z (.n (.loop U1 U2 U3) .z)) .z)) [.h j6,.k (.v (.func (.func 167) #[] #[]))] [] (bm [(4,.h j1)] []) false true []
def ac3:Nat->aX->eQ:=mF dB eL
def ao3:CO:=cF dB eL ac3 axs
def Ip N m s b a:Dl N (m+1) (s,b,a)=cond (a<b)
 (aW (ba s a) λc=>
 aW (U0 N c) λd=>
 cond d
  (some (.inr a))
  ((Dl N m (s,b,(wrap .i64 (a+1))))))
 (some (.inl ())):=ci
def ac4 N s:ac3 (N+1) s=aW (Dl N N (s,(length s:Int),0)) λa=>
 (match a with
 |.inl c=>some (-1)
 |.inr b=>some b):=ci
def eF:Do CO:=[ao3]
noncomputable def eG:FD:=cQ 53 f53 .z [.h j6,.k (.v (.func (.func 167) #[] #[]))] [] (bm [(4,.h .b)] []) false true []
def U4:Nat->aX->eh:=mF eF eG
def ao4:CO:=cF eF eG U4 axU
def ac5 N s:U4 (N+1) s=aW (ac3 N s) λa=>
 some (decide (0<=a)):=ci
def lN:Do CO:=[]
def U5:PS:=bm [(0,.h j6),(3,.k (.mp 900)),(7,.h j6),(8,.h j1),(9,.h j1)] [(900,.mp (.int .i64) j1 j1)]
def U6:Do (IO×PS):=[((.exit 0),bm [(0,.h j6),(3,.k (.mp 900))] [(900,.mp (.int .i64) j1 j1)])]
def U7:Pl:=.z
def Dm:Nat->Nat->aX×aX×Int×Int×A1->At (aX×A1):=ga lN f168 [1,1,0,1,0,0] U5 U6 U7
noncomputable def rm:FD:=cQ 168 f168 (.n .z (.n .z (.n (.n .z (.n (.loop U5 U6 U7) .z)) .z))) [.h j6] [] (bm [(2,.h .b)] []) false true []
def U8:Nat->aX->eh:=mF lN rm
def ao5:CO:=cF lN rm U8 func168
def Iq N m l c d b a:Dm N (m+1) (l,c,d,b,a)=cond (b<d)
 (aW (ba c b) λe=>
 (Dm N m (l,c,d,(wrap .i64 (b+1)),(dW j1 a e (wrap .i64 ((Option.getD (bO j1 a e) 0)+1))))))
 (some (l,a)):=ci
def ac6 N l:U8 (N+1) l=aW (Dm N N (l,l,(length l:Int),0,[])) λa=>
 some (decide ((length a.2:Int)=(length a.1:Int))):=ci
def xZ:Do CO:=[ao4,ao5]
noncomputable def x3:FD:=cQ 97 f97 .z [.h j6] [] (bm [(2,.h .b)] []) false true []
def AR:Nat->aX->eh:=mF xZ x3
def Sz:CO:=cF xZ x3 AR func97
def Zu N l:AR (N+1) l=cond (1000<(length l:Int))
 (some false)
 (aW (U4 N l) λa=>
 cond (!a)
  (aW (U8 N l) λb=>
  some b)
  (some false)):=ci
def hA:Do CO:=[]
def U9:PS:=bm [(0,.h j6),(3,.h j1),(4,.h j1)] []
def U_:Do (IO×PS):=[((.exit 0),bm [(3,.h j1)] [])]
def Va:Pl:=.z
def Dn:Nat->Nat->aX×Int×Int->eQ:=ga hA f98 [1,1,1,0,1,0,0] U9 U_ Va
noncomputable def kC:FD:=cQ 98 f98 (.n .z (.n .z (.n .z (.n (.n .z (.n (.loop U9 U_ Va) .z)) .z)))) [.h j6] [] (bm [(2,.h j1)] []) false true []
def NK:Nat->aX->eQ:=mF hA kC
def akG:CO:=cF hA kC NK func98
def Ir N m x a i:Dn N (m+1) (x,a,i)=cond (i<(length x:Int))
 (aW (ba x i) λb=>
 (Dn N m (x,(if(b<a)then b else a),(wrap .i64 (i+1)))))
 (some a):=ci
def ac7 N x:NK (N+1) x=cond ((length x:Int)<1)
 none
 (aW (ba x 0) λa=>
 aW (Dn N N (x,a,1)) λb=>
 some b):=ci
def Is:Do CO:=[Ky]
noncomputable def It:FD:=cQ 133 f133 .z [.h j1,.h j1] [] (bm [(4,.h .b)] []) false true []
def oz:Nat->Int×Int->eh:=mF Is It
def KA:CO:=cF Is It oz func133
def Zv N n v:oz (N+1) (n,v)=aW (wO N n) λa=>
 cond a
  (cond (0<=v)
   (some (decide (v<n)))
   (some false))
  (some false):=ci
def x4:Do CO:=[Ky]
noncomputable def x5:FD:=cQ 169 f169 .z [.h j1,.h j1] [] (bm [(4,.h j1),(5,.h j1),(6,.h .b),(7,.h .b)] []) false true []
def KB:Nat->Int×Int->At (Int×Int×In×In):=mF x4 x5
def al_:CO:=cF x4 x5 KB func169
def Zw N n a:KB (N+1) (n,a)=aW (wO N n) λd=>
 cond (!d)
  (some (0,0,false,false))
  (cond (a<0)
   (some (0,0,false,false))
   (cond ((wrap .i64 (n*(wrap .i64 (n+1))))<=a)
    (some (0,0,false,false))
    (cond (a<n)
     (some (a,0,false,true))
     (aW (RG a n) λb=>
     aW (RF a n) λc=>
     cond ((wrap .i64 ((wrap .i64 b) - 1))=c)
      (some (0,0,false,false))
      (some ((wrap .i64 ((wrap .i64 b) - 1)),c,true,true)))))):=ci
def jo:Do CO:=[]
noncomputable def jq:FD:=cQ 170 f170 .z [.k (.pt 4294967296 0),.h j1,.h j1] [(4294967296,.box 272 [.k (.ow 4294967297),.k (.mp 4294967298),.k (.mp 4294967299)]),(4294967297,.arr 3 j1 true),(4294967298,.mp (.int .i64) j1 j1),(4294967299,.mp (.int .i64) j1 j1)] (bm [(6,.h .b)] [(4294967298,.mp (.int .i64) j1 j1),(4294967299,.mp (.int .i64) j1 j1),(4294967296,.box 272 [.k (.ow 900),.k (.mp 4294967298),.k (.mp 4294967299)]),(900,.arr 3 j1 true)]) true true [4294967298,4294967299,4294967296,900]
def Vb:Nat->Int×Int×aX×A1×A1->At (In×A1×A1×aX):=mF jo jq
def ao6:CO:=cF jo jq Vb func170
def ac8 N u v h a b:Vb (N+1) (u,v,h,a,b)=aW (ba h (wrap .i64 ((length h:Int) - 1))) λi=>
 aW (ba h (wrap .i64 ((length h:Int) - 1))) λc=>
 cond (!(c=u))
  (some (false,a,b,h))
  (cond (0<(wrap .i64 ((length h:Int) - 1)))
   (aW (ba h (wrap .i64 ((wrap .i64 ((length h:Int) - 1)) - 1))) λj=>
   aW (ba h (wrap .i64 ((wrap .i64 ((length h:Int) - 1)) - 1))) λd=>
   cond (d=v)
    (aW (iR h 0 (wrap .i64 ((length h:Int) - 1))) λe=>
    some (true,a,b,e))
    (cond (0<(Option.getD (bO j1 a v) 0))
     (some (false,a,b,h))
     (aW (eo 8 h [v]) λf=>
     some (true,(dW j1 a v (wrap .i64 ((Option.getD (bO j1 a v) 0)+1))),b,f))))
   (cond (0<(Option.getD (bO j1 a v) 0))
    (some (false,a,b,h))
    (aW (eo 8 h [v]) λg=>
    some (true,(dW j1 a v (wrap .i64 ((Option.getD (bO j1 a v) 0)+1))),b,g)))):=ci
def sE:Do CO:=[KA,al_,ao6]
def NL:PS:=bm [(0,.h j1),(5,.k (.pt 900 0)),(30,.h j6),(31,.h j1),(32,.h j1)] [(900,.box 272 [.k (.ow 901),.k (.mp 902),.k (.mp 903)]),(901,.arr 3 j1 true),(902,.mp (.int .i64) j1 j1),(903,.mp (.int .i64) j1 j1)]
def NM:Do (IO×PS):=[((.exit 0),bm [(5,.k (.pt 900 0))] [(900,.box 272 [.k (.ow 901),.k (.mp 902),.k (.mp 903)]),(901,.arr 3 j1 true),(902,.mp (.int .i64) j1 j1),(903,.mp (.int .i64) j1 j1)]),(.ret,bm [(4,.h .b)] [])]
def NN:Pl:=.z
def ie:Nat->Nat->Int×aX×Int×Int×aX×A1×A1->At ((aX×A1×A1)⊕(In)):=ga sE f99 [1,1,1,0,1,0,0] NL NM NN
noncomputable def BW:FD:=cQ 99 f99 (.n .z (.n .z (.n .z (.n (.n .z (.n (.loop NL NM NN) .z)) .z)))) [.h j1,.h j6] [] (bm [(4,.h .b)] []) false true []
def KD:Nat->Int×aX->eh:=mF sE BW
def ama:CO:=cF sE BW KD func99
def SA N m n e f c d h g:ie N (m+1) (n,e,f,c,d,h,g)=cond (c<f)
 (aW (ba e c) λi=>
 aW (KB N (n,i)) λa=>
 cond (!a.2.2.2)
  (some (.inr false))
  (cond a.2.2.1
   (aW (Vb N (a.1,a.2.1,d,h,g)) λb=>
   cond (!b.1)
    (some (.inr false))
    (cond (!a.2.2.1)
     (aW (ba b.2.2.2 (wrap .i64 ((length b.2.2.2:Int) - 1))) λl=>
     aW (ba b.2.2.2 (wrap .i64 ((length b.2.2.2:Int) - 1))) λj=>
     cond (!(j=a.1))
      (some (.inr false))
      (cond (!a.2.2.1)
       ((ie N m (n,e,f,(wrap .i64 (c+1)),b.2.2.2,b.2.1,(dW j1 b.2.2.1 a.1 (wrap .i64 ((Option.getD (bO j1 b.2.2.1 a.1) 0)+1))))))
       ((ie N m (n,e,f,(wrap .i64 (c+1)),b.2.2.2,b.2.1,b.2.2.1)))))
     (cond (!a.2.2.1)
      ((ie N m (n,e,f,(wrap .i64 (c+1)),b.2.2.2,b.2.1,(dW j1 b.2.2.1 a.1 (wrap .i64 ((Option.getD (bO j1 b.2.2.1 a.1) 0)+1))))))
      ((ie N m (n,e,f,(wrap .i64 (c+1)),b.2.2.2,b.2.1,b.2.2.1))))))
   (cond (!a.2.2.1)
    (aW (ba d (wrap .i64 ((length d:Int) - 1))) λo=>
    aW (ba d (wrap .i64 ((length d:Int) - 1))) λk=>
    cond (!(k=a.1))
     (some (.inr false))
     (cond (!a.2.2.1)
      ((ie N m (n,e,f,(wrap .i64 (c+1)),d,h,(dW j1 g a.1 (wrap .i64 ((Option.getD (bO j1 g a.1) 0)+1))))))
      ((ie N m (n,e,f,(wrap .i64 (c+1)),d,h,g)))))
    (cond (!a.2.2.1)
     ((ie N m (n,e,f,(wrap .i64 (c+1)),d,h,(dW j1 g a.1 (wrap .i64 ((Option.getD (bO j1 g a.1) 0)+1))))))
     ((ie N m (n,e,f,(wrap .i64 (c+1)),d,h,g)))))))
 (some (.inl (d,h,g))):=ci
def Zx N n l:KD (N+1) (n,l)=aW (ba l 0) λb=>
 aW (oz N (n,b)) λc=>
 cond (!c)
  (some false)
  (aW (ba l 0) λd=>
  aW (ba l 0) λe=>
  aW (ie N N (n,l,(length l:Int),0,[d],(dW j1 [] e 1),[])) λf=>
  (match f with
  |.inl a=>cond ((length a.1:Int)=1)
   (some (decide ((length a.2.2:Int)=(length a.2.1:Int))))
   (some false)
  |.inr g=>some g)):=ci
def jT:Do CO:=[Ky,Sz,akG,ama]
def NO:PS:=bm [(3,.k (.mp 900)),(78,.h j1),(79,.h j1)] [(900,.mp (.int .i64) j1 j1)]
def NP:Do (IO×PS):=[((.exit 4),bm [] []),(.ret,bm [(2,.h .b)] [])]
def NQ:Pl:=.z
def x6:Nat->Nat->Int×Int×A1->At ((Unit)⊕(In)):=ga jT f39 [1,1,1,1,1,0,1,0,0] NO NP NQ
def NR:PS:=bm [(1,.k (.pt 900 0)),(3,.k (.mp 901)),(4,.h j1),(16,.h fJ),(17,.h j1),(18,.h j1),(55,.h j6),(56,.h j1),(57,.h j1)] [(900,.box 83 [.h j1,.h fJ]),(901,.mp (.int .i64) j1 j1)]
def NS:Do (IO×PS):=[((.exit 2),bm [(1,.k (.pt 900 0)),(3,.k (.mp 901)),(4,.h j1),(16,.h fJ),(17,.h j1),(18,.h j1)] [(900,.box 83 [.h j1,.h fJ]),(901,.mp (.int .i64) j1 j1)]),(.ret,bm [(2,.h .b)] [])]
def NT:Pl:=.z
def sF:Nat->Nat->Int×A3×Int×Int×aX×Int×Int×Int×A3×A1->At ((Int×A3×Int×Int×Int×A3×A1)⊕(In)):=ga jT f39 [1,1,1,1,0,1,0,0,1,1,0,0,1,1,1,1,0,0] NR NS NT
def NU:PS:=bm [(1,.k (.pt 900 0)),(3,.k (.mp 901)),(4,.h j1),(16,.h fJ),(17,.h j1),(18,.h j1)] [(900,.box 83 [.h j1,.h fJ]),(901,.mp (.int .i64) j1 j1)]
def NV:Do (IO×PS):=[((.exit 0),bm [(1,.k (.pt 900 0)),(3,.k (.mp 901))] [(900,.box 83 [.h j1,.h fJ]),(901,.mp (.int .i64) j1 j1)]),(.ret,bm [(2,.h .b)] [])]
def NW:Pl:=(.n .z (.n .z (.n (.n (.n .z (.n .z (.n .z (.n .z (.n (.loop NR NS NT) .z))))) .z) .z)))
def x7:Nat->Nat->Int×A3×Int×Int×Int×A3×A1->At ((Int×A3×A1)⊕(In)):=ga jT f39 [1,1,1,1,0,1,0,0] NU NV NW
noncomputable def x8:FD:=cQ 39 f39 (.n .z (.n .z (.n .z (.n .z (.n (.n .z (.n (.loop NU NV NW) .z)) (.n (.n .z (.n (.loop NO NP NQ) .z)) .z)))))) [.ag [.h j1,.h fJ]] [] (bm [(2,.h .b)] []) false true []
def sG:Nat->Int×A3->eh:=mF jT x8
def KE:CO:=cF jT x8 sG func39
def SB N m c a b:x6 N (m+1) (c,a,b)=cond (a<c)
 (cond ((Option.getD (bO j1 b a) 0)=0)
  (some (.inr false))
  ((x6 N m (c,(wrap .i64 (a+1)),b))))
 (some (.inl ())):=ci
def SC N m e g h i j k c f d a:sF N (m+1) (e,g,h,i,j,k,c,f,d,a)=cond (c<k)
 (aW (ba j c) λb=>
 cond (b<f)
  (cond (0<(Option.getD (bO j1 a b) 0))
   (some (.inr false))
   ((sF N m (e,g,h,i,j,k,(wrap .i64 (c+1)),f,d,(dW j1 a b (wrap .i64 ((Option.getD (bO j1 a b) 0)+1)))))))
  ((sF N m (e,g,h,i,j,k,(wrap .i64 (c+1)),f,d,(dW j1 a b (wrap .i64 ((Option.getD (bO j1 a b) 0)+1)))))))
 (some (.inl (e,g,h,i,f,d,a))):=ci
def SD N m i g h c f d e:x7 N (m+1) (i,g,h,c,f,d,e)=cond (c<h)
 (aW (ba g c) λa=>
 cond ((length a:Int)=0)
  (some (.inr false))
  (aW (ba a 0) λj=>
  cond (j<=i)
   (some (.inr false))
   (aW (AR N a) λk=>
   cond (!k)
    (some (.inr false))
    (aW (NK N a) λl=>
    aW (ba a 0) λn=>
    cond (!(l=n))
     (some (.inr false))
     (aW (KD N (f,a)) λo=>
     cond (!o)
      (some (.inr false))
      (aW (ba a 0) λp=>
      aW (sF N N (p,g,h,c,a,(length a:Int),0,f,d,e)) λq=>
      (match q with
      |.inl b=>(x7 N m (b.1,b.2.1,b.2.2.1,(wrap .i64 (b.2.2.2.1+1)),b.2.2.2.2.1,b.2.2.2.2.2.1,b.2.2.2.2.2.2))
      |.inr r=>some (.inr r))))))))
 (some (.inl (f,d,e))):=ci
def Zy N f a:sG (N+1) (f,a)=aW (wO N f) λc=>
 cond (!c)
  (some false)
  (aW (x7 N N ((-1),a,(length a:Int),0,f,a,[])) λd=>
  (match d with
  |.inl b=>aW (x6 N N (b.1,0,b.2.2)) λe=>
   (match e with
   |.inl i=>some true
   |.inr g=>some g)
  |.inr h=>some h)):=ci
def la:Do CO:=[]
noncomputable def lg:FD:=cQ 132 f132 .z [.h j1,.k (.pt 4294967296 0)] [(4294967296,.box 83 [.h j1,.h fJ])] (bm [(3,.h .b)] [(4294967296,.box 83 [.h j1,.h fJ])]) true false [4294967296]
def Vc:Nat->Int×Int×A3->At (In×Int×A3):=mF la lg
def ao7:CO:=cF la lg Vc func132
def ac9 N v a b:Vc (N+1) (v,a,b)=cond (v<0)
 (some (true,a,b))
 (some ((decide (a<=v)),a,b)):=ci
def cC:Do CO:=[ao7]
def Vd:PS:=bm [(0,.h j6),(1,.cl (.func 132) [] [.k (.pt 4294967296 0)]),(7,.h j1),(8,.h j1)] [(4294967296,.box 83 [.h j1,.h fJ])]
def Ve:Do (IO×PS):=[((.exit 0),bm [] [(4294967296,.box 83 [.h j1,.h fJ])]),(.ret,bm [(4,.h j1)] [(4294967296,.box 83 [.h j1,.h fJ])])]
def Vf:Pl:=.z
def Dp:Nat->Nat->aX×Int×Int×Int×A3->At ((Int×A3)⊕A12):=ga cC f121 [1,0,1,0,0] Vd Ve Vf
noncomputable def dL:FD:=cQ 121 f121 (.n .z (.n (.n .z (.n (.loop Vd Ve Vf) .z)) .z)) [.h j6,.cl (.func 132) [] [.k (.pt 4294967296 0)]] [(4294967296,.box 83 [.h j1,.h fJ])] (bm [(4,.h j1)] [(4294967296,.box 83 [.h j1,.h fJ])]) true false [4294967296]
def ac_:Nat->aX×Int×A3->At A12:=mF cC dL
def ao8:CO:=cF cC dL ac_ axs
def Zz N m s d a f c:Dp N (m+1) (s,d,a,f,c)=cond (a<d)
 (aW (ba s a) λe=>
 aW (Vc N (e,f,c)) λb=>
 cond b.1
  (some (.inr (a,b.2.1,b.2.2)))
  ((Dp N m (s,d,(wrap .i64 (a+1)),b.2.1,b.2.2))))
 (some (.inl (f,c))):=ci
def ada N s f b:ac_ (N+1) (s,f,b)=aW (Dp N N (s,(length s:Int),0,f,b)) λd=>
 (match d with
 |.inl c=>some ((-1),c.1,c.2)
 |.inr a=>some (a.1,a.2.1,a.2.2)):=ci
def dv:Do CO:=[ao8]
noncomputable def dw:FD:=cQ 53 f53 .z [.h j6,.cl (.func 132) [] [.k (.pt 4294967296 0)]] [(4294967296,.box 83 [.h j1,.h fJ])] (bm [(4,.h .b)] [(4294967296,.box 83 [.h j1,.h fJ])]) true false [4294967296]
def amb:Nat->aX×Int×A3->At (In×Int×A3):=mF dv dw
def asm:CO:=cF dv dw amb axU
def aiF N s f b:amb (N+1) (s,f,b)=aW (ac_ N (s,f,b)) λa=>
 some ((decide (0<=a.1)),a.2.1,a.2.2):=ci
def sJ:Do CO:=[KE,asm]
noncomputable def sK:FD:=cQ 62 f62 .z [.ag [.h j1,.h fJ],.h j6] [] (bm [(4,.h j1)] []) false true []
def Iu:Nat->Int×A3×aX->eQ:=mF sJ sK
def adb:CO:=cF sJ sK Iu func62
def ade N f a b:Iu (N+1) (f,a,b)=aW (sG N (f,a)) λc=>
 cond (!c)
  (some 1)
  (aW (amb N (b,f,a)) λd=>
  cond d.1
   (some 10)
   (some 0)):=ci
def x9:Do CO:=[KE,KA]
noncomputable def x_:FD:=cQ 213 f213 .z [.ag [.h j1,.h fJ],.h j1,.h j1] [] (bm [(6,.h j1)] []) false true []
def KF:Nat->Int×A3×Int×Int->eQ:=mF x9 x_
def amc:CO:=cF x9 x_ KF func213
def ZA N f a u v:KF (N+1) (f,a,u,v)=aW (sG N (f,a)) λb=>
 cond (!b)
  (some 1)
  (aW (oz N (f,u)) λc=>
  cond (!c)
   (some 10)
   (aW (oz N (f,v)) λd=>
   cond (!d)
    (some 10)
    (some 0))):=ci
def gy:Do CO:=[]
def Vg:PS:=bm [(0,.h j6),(1,.h j1),(7,.h j1),(8,.h j1)] []
def Vh:Do (IO×PS):=[((.exit 0),bm [] []),(.ret,bm [(4,.h j1)] [])]
def Vi:Pl:=.z
def Dq:Nat->Nat->aX×Int×Int×Int->At ((Unit)⊕(Int)):=ga gy f124 [1,0,1,0,0] Vg Vh Vi
noncomputable def jr:FD:=cQ 124 f124 (.n .z (.n (.n .z (.n (.loop Vg Vh Vi) .z)) .z)) [.h j6,.h j1] [] (bm [(4,.h j1)] []) false true []
def Iw:Nat->aX×Int->eQ:=mF gy jr
def adf:CO:=cF gy jr Iw func124
def Ix N m s v b a:Dq N (m+1) (s,v,b,a)=cond (a<b)
 (aW (ba s a) λc=>
 cond (v=c)
  (some (.inr a))
  ((Dq N m (s,v,b,(wrap .i64 (a+1))))))
 (some (.inl ())):=ci
def adg N s v:Iw (N+1) (s,v)=aW (Dq N N (s,v,(length s:Int),0)) λa=>
 (match a with
 |.inl c=>some (-1)
 |.inr b=>some b):=ci
def ig:Do CO:=[adf]
noncomputable def ij:FD:=cQ 181 f181 .z [.h j6,.h j1] [] (bm [(4,.h .b)] []) false true []
def Fh:Nat->aX×Int->eh:=mF ig ij
def Vj:CO:=cF ig ij Fh func181
def adh N s v:Fh (N+1) (s,v)=aW (Iw N (s,v)) λa=>
 some (decide (0<=a)):=ci
def nK:Do CO:=[Vj]
noncomputable def nL:FD:=cQ 180 f180 .z [.h j6,.k (.pt 4294967296 0)] [(4294967296,.box 3 [.h j1])] (bm [(3,.h .b)] [(4294967296,.box 3 [.h j1])]) true true [4294967296]
def adi:Nat->aX×Int->At (In×Int):=mF nK nL
def ao9:CO:=cF nK nL adi func180
def adj N l a:adi (N+1) (l,a)=aW (Fh N (l,a)) λb=>
 some (b,a):=ci
def cH:Do CO:=[ao9]
def Vk:PS:=bm [(0,.h fJ),(1,.cl (.func 180) [] [.k (.pt 4294967296 0)]),(7,.h j1),(8,.h j1)] [(4294967296,.box 3 [.h j1])]
def Vl:Do (IO×PS):=[((.exit 0),bm [] [(4294967296,.box 3 [.h j1])]),(.ret,bm [(4,.h j1)] [(4294967296,.box 3 [.h j1])])]
def Vm:Pl:=.z
def Dr:Nat->Nat->A3×Int×Int×Int->At ((Int)⊕(Int×Int)):=ga cH f179 [1,0,1,0,0] Vk Vl Vm
noncomputable def dP:FD:=cQ 179 f179 (.n .z (.n (.n .z (.n (.loop Vk Vl Vm) .z)) .z)) [.h fJ,.cl (.func 180) [] [.k (.pt 4294967296 0)]] [(4294967296,.box 3 [.h j1])] (bm [(4,.h j1)] [(4294967296,.box 3 [.h j1])]) true true [4294967296]
def adk:Nat->A3×Int->BD:=mF cH dP
def ao_:CO:=cF cH dP adk func179
def ZB N m s b a f:Dr N (m+1) (s,b,a,f)=cond (a<b)
 (aW (ba s a) λd=>
 aW (adi N (d,f)) λc=>
 cond c.1
  (some (.inr (a,c.2)))
  ((Dr N m (s,b,(wrap .i64 (a+1)),c.2))))
 (some (.inl f)):=ci
def adl N s f:adk (N+1) (s,f)=aW (Dr N N (s,(length s:Int),0,f)) λb=>
 (match b with
 |.inl c=>some ((-1),c)
 |.inr a=>some (a.1,a.2)):=ci
def ya:Do CO:=[ao_]
noncomputable def yb:FD:=cQ 134 f134 .z [.ag [.h j1,.h fJ],.h j1] [] (bm [(4,.h j1)] []) false true []
def AS:Nat->Int×A3×Int->eQ:=mF ya yb
def adm:CO:=cF ya yb AS func134
def ZC N f a v:AS (N+1) (f,a,v)=aW (adk N (a,v)) λb=>
 some b.1:=ci
def oA:Do CO:=[Sz,adf,Vj]
def Vn:PS:=bm [(0,.h j6),(6,.k (.ow 900)),(12,.h j6),(13,.h j1),(14,.h j1)] [(900,.arr 3 j1 true)]
def Vo:Do (IO×PS):=[((.exit 0),bm [(6,.k (.ow 900))] [(900,.arr 3 j1 true)])]
def Vp:Pl:=.z
def Ds:Nat->Nat->aX×aX×Int×Int×aX->nh:=ga oA f257 [1,1,1,0,1,0,0] Vn Vo Vp
noncomputable def vp:FD:=cQ 257 f257 (.n .z (.n .z (.n .z (.n (.n .z (.n (.loop Vn Vo Vp) .z)) .z)))) [.h j6,.h j6] [] (bm [(4,.k (.ow 900)),(5,.h .b)] [(900,.arr 3 j1 true)]) true true [900]
def Vq:Nat->aX×aX->At A9:=mF oA vp
def apa:CO:=cF oA vp Vq func257
def Iy N m l b c a d:Ds N (m+1) (l,b,c,a,d)=cond (a<c)
 (aW (ba b a) λe=>
 aW (Iw N (l,e)) λf=>
 aW (eo 8 d [f]) λg=>
 (Ds N m (l,b,c,(wrap .i64 (a+1)),g)))
 (some d):=ci
def adn N l a:Vq (N+1) (l,a)=aW (AR N l) λc=>
 cond (!c)
  (some (false,[]))
  (aW (Ds N N (l,a,(length a:Int),0,[])) λb=>
  aW (Fh N (b,(-1))) λd=>
  some ((!d),b)):=ci
def eP:Do CO:=[⟨jS,nt⟩]
def Vr:PS:=bm [(6,.k (.ow 900)),(25,.h fJ),(26,.h j1),(27,.h j1)] [(900,.arr 3 j1 true)]
def Vs:Do (IO×PS):=[((.exit 2),bm [(6,.k (.ow 900))] [(900,.arr 3 j1 true)])]
def Vt:Pl:=.z
def uA:Nat->Nat->A3×Int×Int×aX->nh:=ga eP f113 [1,1,1,1,0,1,0,0] Vr Vs Vt
def Vu:PS:=bm [(0,.h fJ),(3,.h j1),(9,.h fJ),(10,.h j1),(11,.h j1)] []
def Vv:Do (IO×PS):=[((.exit 0),bm [(0,.h fJ),(3,.h j1)] [])]
def Vw:Pl:=.z
def uB:Nat->Nat->A3×Int×A3×Int×Int->At (A3×Int):=ga eP f113 [1,1,0,1,0,0] Vu Vv Vw
noncomputable def iZ:FD:=cQ 113 f113 (.n .z (.n .z (.n (.n .z (.n (.loop Vu Vv Vw) .z)) (.n .z (.n (.n .z (.n (.loop Vr Vs Vt) .z)) .z))))) [.h fJ] [] (bm [(2,.k (.ow 900))] [(900,.arr 3 j1 true)]) true true [900]
def Iz:Nat->A3->nh:=mF eP iZ
def akH:CO:=cF eP iZ Iz func113
def uC N m c d a b:uA N (m+1) (c,d,a,b)=cond (a<d)
 (aW (ba c a) λe=>
 aW (eo 8 b e) λf=>
 (uA N m (c,d,(wrap .i64 (a+1)),f)))
 (some b):=ci
def uD N m c a e d b:uB N (m+1) (c,a,e,d,b)=cond (b<d)
 (aW (ba e b) λf=>
 cond ((wrap .i64 (a+(length f:Int)))<0)
  none
  ((uB N m (c,(wrap .i64 (a+(length f:Int))),e,d,(wrap .i64 (b+1))))))
 (some (c,a)):=ci
def NX N a:Iz (N+1) a=aW (uB N N (a,0,a,(length a:Int),0)) λb=>
 aW (e7 N b.2) λd=>
 aW (uA N N (b.1,(length b.1:Int),0,[])) λc=>
 some c:=ci
def vq:Do CO:=[akH]
noncomputable def vu:FD:=cQ 258 f258 .z [.h j6,.h j1] [] (bm [(4,.k (.ow 900))] [(900,.arr 3 j1 true)]) true true [900]
def NY:Nat->aX×Int->nh:=mF vq vu
def akI:CO:=cF vq vu NY func258
def ado N l a:NY (N+1) (l,a)=aW (iR l a (length l:Int)) λb=>
 aW (iR l 0 a) λc=>
 aW (Iz N [b,c]) λd=>
 some d:=ci
def BY:Do CO:=[apa,akI]
noncomputable def BZ:FD:=cQ 214 f214 .z [.h j6,.h j1] [] (bm [(4,.k (.ow 900)),(5,.h .b)] [(900,.arr 3 j1 true)]) true true [900]
def Fi:Nat->aX×Int->At A9:=mF BY BZ
def amd:CO:=cF BY BZ Fi func214
def ZD N l b:Fi (N+1) (l,b)=aW (Vq N (l,[b])) λa=>
 cond (!a.1)
  (some (false,[]))
  (aW (ba a.2 0) λe=>
  aW (ba a.2 0) λc=>
  aW (NY N (l,c)) λd=>
  some (true,d)):=ci
def Fj:Do CO:=[KA]
noncomputable def Fk:FD:=cQ 215 f215 .z [.h j1,.h j1,.h j1] [] (bm [(6,.h j1)] []) false true []
def Fl:Nat->Int×Int×Int->eQ:=mF Fj Fk
def ame:CO:=cF Fj Fk Fl func215
def ZE N n u v:Fl (N+1) (n,u,v)=cond (u=v)
 (some (-1))
 (aW (oz N (n,u)) λa=>
 cond (!a)
  (some (-1))
  (aW (oz N (n,v)) λb=>
  cond (!b)
   (some (-1))
   (some (wrap .i64 ((wrap .i64 (n*(wrap .i64 (u+1))))+v))))):=ci
def yc:Do CO:=[Sz,akG,adf,akI]
noncomputable def yd:FD:=cQ 259 f259 .z [.h j6] [] (bm [(2,.k (.ow 900))] [(900,.arr 3 j1 true)]) true true [900]
def KG:Nat->aX->nh:=mF yc yd
def amf:CO:=cF yc yd KG func259
def ZF N l:KG (N+1) l=aW (AR N l) λa=>
 cond (!a)
  (some [])
  (cond ((length l:Int)=0)
   (some [])
   (aW (NK N l) λb=>
   aW (Iw N (l,b)) λc=>
   aW (NY N (l,c)) λd=>
   some d)):=ci
def nM:Do CO:=[Vj,amf,⟨eH,gk⟩]
def NZ:PS:=bm [(3,.k (.pt 900 0)),(6,.k (.pt 901 0)),(7,.k (.ow 902)),(29,.h fJ),(30,.h j1),(31,.h j1)] [(900,.box 83 [.h j1,.h fJ]),(901,.box 83 [.h j1,.k .nil]),(902,.arr 47 j6 true)]
def N0:Do (IO×PS):=[((.exit 2),bm [(3,.k (.pt 900 0)),(6,.k (.pt 901 0)),(7,.k (.ow 902))] [(900,.box 83 [.h j1,.h fJ]),(901,.box 83 [.h j1,.k .nil]),(902,.arr 47 j6 true)])]
def N1:Pl:=.z
def ye:Nat->Nat->A3×Int×Int×Int×A3×Int×A3->At (Int×A3×Int×A3):=ga nM f216 [1,1,1,0,1,0,0] NZ N0 N1
def N3:PS:=bm [(1,.h j6),(2,.h fJ),(3,.k (.pt 900 0)),(6,.k (.pt 901 0)),(7,.k (.ow 902)),(13,.h fJ),(14,.h j1),(15,.h j1)] [(900,.box 83 [.h j1,.h fJ]),(901,.box 83 [.h j1,.k .nil]),(902,.arr 47 j6 true)]
def N4:Do (IO×PS):=[((.exit 0),bm [(2,.h fJ),(3,.k (.pt 900 0)),(6,.k (.pt 901 0)),(7,.k (.ow 902))] [(900,.box 83 [.h j1,.h fJ]),(901,.box 83 [.h j1,.k .nil]),(902,.arr 47 j6 true)])]
def N5:Pl:=.z
def pj:Nat->Nat->aX×A3×A3×Int×Int×Int×A3×Int×A3->At (A3×Int×A3×Int×A3):=ga nM f216 [1,1,0,1,0,0] N3 N4 N5
noncomputable def B0:FD:=cQ 216 f216 (.n .z (.n .z (.n (.n .z (.n (.loop N3 N4 N5) .z)) (.n (.n .z (.n (.loop NZ N0 N1) .z)) .z)))) [.ag [.h j1,.h fJ],.h j6,.h fJ] [] (bm [(6,.k (.pt 900 0))] [(900,.box 83 [.h j1,.h fJ])]) false false []
def KI:Nat->Int×A3×aX×A3->At (Int×A3):=mF nM B0
def amg:CO:=cF nM B0 KI func216
def Fm N m c d a f b e l:ye N (m+1) (c,d,a,f,b,e,l)=cond (a<d)
 (aW (ba c a) λg=>
 aW (KG N g) λh=>
 aW (eo 24 l [h]) λi=>
 (ye N m (c,d,(wrap .i64 (a+1)),f,b,e,i)))
 (some (f,b,e,l)):=ci
def wP N m b c e g a f d h l:pj N (m+1) (b,c,e,g,a,f,d,h,l)=cond (a<g)
 (aW (ba e a) λi=>
 aW (Fh N (b,a)) λj=>
 cond (!j)
  (aW (eo 24 l [i]) λk=>
  (pj N m (b,c,e,g,(wrap .i64 (a+1)),f,d,h,k)))
  ((pj N m (b,c,e,g,(wrap .i64 (a+1)),f,d,h,l))))
 (some (c,f,d,h,l)):=ci
def ZG N f b c d:KI (N+1) (f,b,c,d)=aW (pj N N (c,d,b,(length b:Int),0,f,b,0,[])) λa=>
 aW (ye N N (a.1,(length a.1:Int),0,a.2.1,a.2.2.1,a.2.2.2.1,a.2.2.2.2)) λe=>
 aW (bE N e.2.2.2) λg=>
 some (e.1,g):=ci
def B1:Do CO:=[amc,adm,amd,ame,akH,amg]
noncomputable def B2:FD:=cQ 178 f178 .z [.ag [.h j1,.h fJ],.h j1,.h j1] [] (bm [(6,.k (.pt 900 0)),(7,.h j1)] [(900,.box 83 [.h j1,.h fJ])]) false false []
def KJ:Nat->Int×A3×Int×Int->At A12:=mF B1 B2
def amh:CO:=cF B1 B2 KJ func178
def ZH N f a u v:KJ (N+1) (f,a,u,v)=aW (KF N (f,a,u,v)) λe=>
 cond (!(e=0))
  (some (e,f,a))
  (aW (AS N (f,a,u)) λb=>
  aW (AS N (f,a,v)) λc=>
  cond (b=c)
   (some (5,f,a))
   (aW (ba a b) λk=>
   aW (Fi N (k,u)) λd=>
   aW (ba a c) λl=>
   aW (Fi N (l,v)) λm=>
   aW (iR d.2 0 1) λn=>
   aW (Fl N (f,u,v)) λo=>
   aW (Fl N (f,v,u)) λh=>
   aW (iR d.2 1 (length d.2:Int)) λi=>
   aW (Iz N [n,[o],m.2,[h],i]) λj=>
   aW (KI N (f,a,[b,c],[j])) λg=>
   some (0,g.1,g.2))):=ci
def gz:Do CO:=[ao1,adb,amh]
def Vx:PS:=bm [(2,.k (.v (.func (.func 178) #[] #[]))),(3,.k (.pt 900 0)),(6,.k (.pt 901 0)),(10,.k (.ow 902)),(23,.h gO),(24,.h j1),(25,.h j1)] [(900,.box 83 [.h j1,.h fJ]),(901,.box 83 [.h j1,.k .nil]),(902,.arr 4 .b true)]
def Vy:Do (IO×PS):=[((.exit 0),bm [(3,.k (.pt 900 0)),(6,.k (.pt 901 0)),(10,.k (.ow 902))] [(900,.box 83 [.h j1,.h fJ]),(901,.box 83 [.h j1,.k .nil]),(902,.arr 4 .b true)])]
def Vz:Pl:=.z
def Dt:Nat->Nat->A1×Int×Int×Int×A3×Int×br->At (Int×A3×Int×br):=ga gz f177 [1,1,1,0,1,0,0] Vx Vy Vz
noncomputable def js:FD:=cQ 177 f177 (.n .z (.n .z (.n .z (.n (.n .z (.n (.loop Vx Vy Vz) .z)) .z)))) [.ag [.h j1,.h fJ],.h gO,.k (.v (.func (.func 178) #[] #[]))] [] (bm [(6,.k (.pt 900 0)),(7,.k (.ow 901)),(8,.h j1)] [(900,.box 83 [.h j1,.h fJ]),(901,.arr 4 .b true)]) true false [901]
def adp:Nat->Int×A3×A1->At (Int×Int×A3×br):=mF gz js
def apb:CO:=cF gz js adp func177
def IA N m d e a f b g c:Dt N (m+1) (d,e,a,f,b,g,c)=cond (a<e)
 (aW (ba d a) λi=>
 aW (KJ N (f,b,i.1,i.2)) λh=>
 aW (eo 1 c [(decide (h.1=0))]) λj=>
 (Dt N m (d,e,(wrap .i64 (a+1)),h.2.1,h.2.2,g,j)))
 (some (f,b,g,c)):=ci
def adq N f a l:adp (N+1) (f,a,l)=aW (UZ N l) λd=>
 aW (Iu N (f,a,d)) λc=>
 cond (!(c=0))
  (some (c,f,a,[]))
  (aW (Dt N N (l,(length l:Int),0,f,a,0,[])) λb=>
  some (0,b.1,b.2.1,b.2.2.2)):=ci
def sL:Do CO:=[apb]
noncomputable def sM:FD:=cQ 131 f131 .z [.ag [.h j1,.h fJ],.h gO] [] (bm [(4,.k (.pt 900 0)),(5,.k (.ow 901)),(6,.h j1)] [(900,.box 83 [.h j1,.h fJ]),(901,.arr 4 .b true)]) true false [901]
def VA:Nat->Int×A3×A1->At (Int×Int×A3×br):=mF sL sM
def apc:CO:=cF sL sM VA func131
def adr N f b l:VA (N+1) (f,b,l)=aW (adp N (f,b,l)) λa=>
 some (a.1,a.2.1,a.2.2.1,a.2.2.2):=ci
def B3:Do CO:=[al9,apc]
noncomputable def B4:FD:=cQ 60 f60 .z [.h j1,.h gO] [] (bm [(4,.k (.pt 900 0)),(5,.h j1)] [(900,.box 83 [.h j1,.h fJ])]) false false []
def Fo:Nat->Int×A1->At A12:=mF B3 B4
def ads:CO:=cF B3 B4 Fo func60
def ZI N n l:Fo (N+1) (n,l)=aW (Kz N n) λa=>
 cond (!(a.1=0))
  (some (a.1,0,[]))
  (aW (VA N (a.2.1,a.2.2,l)) λb=>
  cond (!(b.1=0))
   (some (b.1,0,[]))
   (some (0,b.2.1,b.2.2.1))):=ci
def oC:Do CO:=[akD,acY,akE,akF,ads]
def VB:PS:=bm [(1,.k (.pt 900 0)),(3,.h j1),(23,.h iG),(24,.h j1),(25,.h j1)] [(900,.box 26 [.h j1,.h iG])]
def VC:Do (IO×PS):=[((.exit 0),bm [(1,.k (.pt 900 0))] [(900,.box 26 [.h j1,.h iG])]),(.ret,bm [(2,.h .b)] [])]
def VD:Pl:=.z
def uE:Nat->Nat->Int×fB×Int×Int×Int×fB->At ((Int×fB)⊕(In)):=ga oC f59 [1,1,1,0,1,0,0] VB VC VD
noncomputable def vv:FD:=cQ 59 f59 (.n .z (.n .z (.n .z (.n (.n .z (.n (.loop VB VC VD) .z)) .z)))) [.ag [.h j1,.h iG]] [] (bm [(2,.h .b)] []) false true []
def nN:Nat->Int×fB->eh:=mF oC vv
def vw:CO:=cF oC vv nN func59
def IB N m d e f b g c:uE N (m+1) (d,e,f,b,g,c)=cond (b<f)
 (aW (ba e b) λa=>
 cond (a.1<0)
  (some (.inr false))
  (cond (a.2.1<=a.1)
   (some (.inr false))
   (cond (g<=a.2.1)
    (some (.inr false))
    (cond (a.2.2.1<0)
     (some (.inr false))
     (cond (d<a.2.2.1)
      (some (.inr false))
      (cond (0<b)
       (aW (ba c (wrap .i64 (b - 1))) λh=>
       aW (Ff N (h.1,h.2.1,h.2.2.1,h.2.2.2,a.1,a.2.1,a.2.2.1,a.2.2.2)) λi=>
       cond (0<=i)
        (some (.inr false))
        ((uE N m (d,e,f,(wrap .i64 (b+1)),g,c))))
       ((uE N m (d,e,f,(wrap .i64 (b+1)),g,c)))))))))
 (some (.inl (g,c))):=ci
def adt N g a:nN (N+1) (g,a)=aW (NF N g) λe=>
 cond (!e)
  (some false)
  (cond (400<(length a:Int))
   (some false)
   (aW (Fe N g) λf=>
   aW (uE N N (f,a,(length a:Int),0,g,a)) λh=>
   (match h with
   |.inl b=>aW (NG N (b.1,b.2,0)) λc=>
    aW (Fo N (b.1,c)) λd=>
    cond (d.1=0)
     (some (decide ((length d.2.2:Int)=(wrap .i64 (b.1 - (length c:Int))))))
     (some false)
   |.inr i=>some i))):=ci
def rn:Do CO:=[]
noncomputable def rp:FD:=cQ 101 f101 .z [.h j1] [] (bm [(2,.h .b)] []) false true []
def N6:Nat->Int->eh:=mF rn rp
def apd:CO:=cF rn rp N6 func101
def adu N n:N6 (N+1) n=cond (0<=n)
 (some (decide (n<=1099511627776)))
 (some false):=ci
def vx:Do CO:=[vw,apd]
noncomputable def vy:FD:=cQ 41 f41 .z [.ag [.h j1,.h iG,.h j1,.h j1]] [] (bm [(2,.h .b)] []) false true []
def nO:Nat->Int×fB×Int×Int->eh:=mF vx vy
def akJ:CO:=cF vx vy nO func41
def adv N s a b c:nO (N+1) (s,a,b,c)=aW (nN N (s,a)) λd=>
 cond d
  (aW (N6 N b) λe=>
  cond e
   (aW (N6 N c) λf=>
   some f)
   (some false))
  (some false):=ci
def B5:Do CO:=[]
noncomputable def B6:FD:=cQ 109 f109 .z [.h j1] [] (bm [(2,.h .b)] []) false true []
def wQ:Nat->Int->eh:=mF B5 B6
def adw:CO:=cF B5 B6 wQ func109
def ZJ N n:wQ (N+1) n=some (decide (n=(wrap .i64 (wrap .u16 n)))):=ci
def sN:Do CO:=[adw]
noncomputable def sO:FD:=cQ 108 f108 .z [.ag [.h j1,.h j1]] [] (bm [(2,.h .b)] []) false true []
def VE:Nat->Int×Int->eh:=mF sN sO
def ape:CO:=cF sN sO VE func108
def adx N e a:VE (N+1) (e,a)=aW (wQ N e) λb=>
 cond (!b)
  (some true)
  (aW (wQ N a) λc=>
  some (!c)):=ci
def cD:Do CO:=[ape]
def VF:PS:=bm [(0,.h gO),(1,.k (.v (.func (.func 108) #[] #[]))),(7,.h j1),(8,.h j1)] []
def VG:Do (IO×PS):=[((.exit 0),bm [] []),(.ret,bm [(4,.h j1)] [])]
def VH:Pl:=.z
def Du:Nat->Nat->A1×Int×Int->At ((Unit)⊕(Int)):=ga cD f173 [1,0,1,0,0] VF VG VH
noncomputable def dM:FD:=cQ 173 f173 (.n .z (.n (.n .z (.n (.loop VF VG VH) .z)) .z)) [.h gO,.k (.v (.func (.func 108) #[] #[]))] [] (bm [(4,.h j1)] []) false true []
def ady:Nat->A1->eQ:=mF cD dM
def apf:CO:=cF cD dM ady func173
def IC N m s b a:Du N (m+1) (s,b,a)=cond (a<b)
 (aW (ba s a) λc=>
 aW (VE N (c.1,c.2)) λd=>
 cond d
  (some (.inr a))
  ((Du N m (s,b,(wrap .i64 (a+1))))))
 (some (.inl ())):=ci
def adz N s:ady (N+1) s=aW (Du N N (s,(length s:Int),0)) λa=>
 (match a with
 |.inl c=>some (-1)
 |.inr b=>some b):=ci
def dx:Do CO:=[apf]
noncomputable def dy:FD:=cQ 110 f110 .z [.h gO,.k (.v (.func (.func 108) #[] #[]))] [] (bm [(4,.h .b)] []) false true []
def adA:Nat->A1->eh:=mF dx dy
def asn:CO:=cF dx dy adA func110
def aiG N s:adA (N+1) s=aW (ady N s) λa=>
 some (decide (0<=a)):=ci
def yf:Do CO:=[]
noncomputable def yg:FD:=cQ 107 f107 .z [.h j1] [] (bm [(2,.h .b)] []) false true []
def wR:Nat->Int->eh:=mF yf yg
def adB:CO:=cF yf yg wR func107
def IE N a:wR (N+1) a=cond (1<=a)
 (some (decide (a<=4)))
 (some false):=ci
def sP:Do CO:=[adB,adw]
noncomputable def sQ:FD:=cQ 111 f111 .z [.ag [.h j1,.h j1,.h j1]] [] (bm [(2,.h .b)] []) false true []
def VI:Nat->Int×Int×Int->eh:=mF sP sQ
def apg:CO:=cF sP sQ VI func111
def adC N a b c:VI (N+1) (a,b,c)=aW (wR N a) λd=>
 cond (!d)
  (some true)
  (aW (wQ N b) λe=>
  cond (!e)
   (some true)
   (aW (wQ N c) λf=>
   some (!f))):=ci
def cJ:Do CO:=[apg]
def VJ:PS:=bm [(0,.h AQ),(1,.k (.v (.func (.func 111) #[] #[]))),(7,.h j1),(8,.h j1)] []
def VK:Do (IO×PS):=[((.exit 0),bm [] []),(.ret,bm [(4,.h j1)] [])]
def VL:Pl:=.z
def Dv:Nat->Nat->(Do A4)×Int×Int->At ((Unit)⊕(Int)):=ga cJ f174 [1,0,1,0,0] VJ VK VL
noncomputable def dY:FD:=cQ 174 f174 (.n .z (.n (.n .z (.n (.loop VJ VK VL) .z)) .z)) [.h AQ,.k (.v (.func (.func 111) #[] #[]))] [] (bm [(4,.h j1)] []) false true []
def adD:Nat->(Do A4)->eQ:=mF cJ dY
def aph:CO:=cF cJ dY adD func174
def IF N m s b a:Dv N (m+1) (s,b,a)=cond (a<b)
 (aW (ba s a) λc=>
 aW (VI N (c.1,c.2.1,c.2.2)) λd=>
 cond d
  (some (.inr a))
  ((Dv N m (s,b,(wrap .i64 (a+1))))))
 (some (.inl ())):=ci
def adE N s:adD (N+1) s=aW (Dv N N (s,(length s:Int),0)) λa=>
 (match a with
 |.inl c=>some (-1)
 |.inr b=>some b):=ci
def dG:Do CO:=[aph]
noncomputable def dH:FD:=cQ 112 f112 .z [.h AQ,.k (.v (.func (.func 111) #[] #[]))] [] (bm [(4,.h .b)] []) false true []
def adF:Nat->(Do A4)->eh:=mF dG dH
def aso:CO:=cF dG dH adF func112
def aiH N s:adF (N+1) s=aW (adD N s) λa=>
 some (decide (0<=a)):=ci
def qn:Do CO:=[asn,aso]
def N7:PS:=bm [(1,.k (.pt 900 0)),(6,.h j1)] [(900,.box 56 [.h j1,.h gO,.h AQ])]
def N8:Do (IO×PS):=[(.normal,bm [(1,.k (.pt 900 0)),(6,.h j1),(7,.h .b)] [(900,.box 56 [.h j1,.h gO,.h AQ])])]
def N9:Pl:=.z
def N_:Nat->Nat->Int×Int×A1×(Do A4)->At (Int×In×Int×A1×(Do A4)):=jnF qn f47 [1,0,1,0,0] N7 N8 N9
noncomputable def yh:FD:=cQ 47 f47 (.n .z (.n (.n .z (.n (.n (.join N7 N8 N9) .z) .z)) .z)) [.ag [.h j1,.h gO,.h AQ]] [] (bm [(2,.h .b)] []) false true []
def KL:Nat->Int×A1×(Do A4)->eh:=mF qn yh
def ami:CO:=cF qn yh KL func47
def SE N m a x b c:N_ N (m+1) (a,x,b,c)=cond (a=1)
 (some (a,true,x,b,c))
 (some (a,(decide (a=2)),x,b,c)):=ci
def ZL N x b c:KL (N+1) (x,b,c)=aW (N_ N N (x,x,b,c)) λa=>
 cond a.2.1
  (cond ((length a.2.2.2.2:Int)=0)
   (cond ((length a.2.2.2.1:Int)<=60)
    (aW (adA N a.2.2.2.1) λd=>
    some (!d))
    (some false))
   (some false))
  (cond (a.1=3)
   (cond ((length a.2.2.2.1:Int)=0)
    (cond ((length a.2.2.2.2:Int)<=60)
     (aW (adF N a.2.2.2.2) λe=>
     some (!e))
     (some false))
    (some false))
   (some false)):=ci
def vz:Do CO:=[]
noncomputable def vA:FD:=cQ 157 f157 .z [.ag [.h j1,.h j1,.h j1]] [] (bm [(2,.k (.ow 900))] [(900,.arr 3 j1 true)]) true true [900]
def VM:Nat->Int×Int×Int->nh:=mF vz vA
def api:CO:=cF vz vA VM func157
def adG N a b c:VM (N+1) (a,b,c)=cond (a=1)
 (some [b,c])
 (cond (a=2)
  (some [b])
  (cond (a=3)
   (some [b])
   (some []))):=ci
def iv:Do CO:=[api]
def VN:PS:=bm [(3,.k (.ow 900)),(24,.h AQ),(25,.h j1),(26,.h j1)] [(900,.arr 3 j1 true)]
def VO:Do (IO×PS):=[((.exit 2),bm [(3,.k (.ow 900))] [(900,.arr 3 j1 true)])]
def VP:Pl:=.z
def Dw:Nat->Nat->(Do A4)×Int×Int×aX->nh:=ga iv f87 [1,1,1,0,1,0,0] VN VO VP
def VQ:PS:=bm [(1,.k (.pt 900 0)),(3,.k (.ow 901)),(9,.h gO),(10,.h j1),(11,.h j1)] [(900,.box 56 [.h j1,.h gO,.h AQ]),(901,.arr 3 j1 true)]
def VS:Do (IO×PS):=[((.exit 0),bm [(1,.k (.pt 900 0)),(3,.k (.ow 901))] [(900,.box 56 [.h j1,.h gO,.h AQ]),(901,.arr 3 j1 true)])]
def VT:Pl:=.z
def Dx:Nat->Nat->A1×Int×Int×Int×A1×(Do A4)×aX->At (Int×A1×(Do A4)×aX):=ga iv f87 [1,1,0,1,0,0] VQ VS VT
noncomputable def pn:FD:=cQ 87 f87 (.n .z (.n .z (.n (.n .z (.n (.loop VQ VS VT) .z)) (.n (.n .z (.n (.loop VN VO VP) .z)) .z)))) [.ag [.h j1,.h gO,.h AQ]] [] (bm [(2,.k (.ow 900))] [(900,.arr 3 j1 true)]) true true [900]
def VU:Nat->Int×A1×(Do A4)->nh:=mF iv pn
def apj:CO:=cF iv pn VU func87
def IG N m b c a l:Dw N (m+1) (b,c,a,l)=cond (a<c)
 (aW (ba b a) λd=>
 aW (VM N (d.1,d.2.1,d.2.2)) λe=>
 aW (eo 8 l e) λf=>
 (Dw N m (b,c,(wrap .i64 (a+1)),f)))
 (some l):=ci
def IH N m c b a x d e l:Dx N (m+1) (c,b,a,x,d,e,l)=cond (a<b)
 (aW (ba c a) λf=>
 aW (eo 8 l [f.1,f.2]) λg=>
 (Dx N m (c,b,(wrap .i64 (a+1)),x,d,e,g)))
 (some (x,d,e,l)):=ci
def adH N x a c:VU (N+1) (x,a,c)=aW (Dx N N (a,(length a:Int),0,x,a,c,[])) λb=>
 aW (Dw N N (b.2.2.1,(length b.2.2.1:Int),0,b.2.2.2)) λd=>
 some d:=ci
def lU:Do CO:=[]
noncomputable def lV:FD:=cQ 88 f88 .z [.h j1,.k (.pt 4294967296 0)] [(4294967296,.box 26 [.h j1,.h iG])] (bm [(3,.h .b)] [(4294967296,.box 26 [.h j1,.h iG])]) true false [4294967296]
def adI:Nat->Int×Int×fB->At (In×Int×fB):=mF lU lV
def apk:CO:=cF lU lV adI func88
def adJ N v a b:adI (N+1) (v,a,b)=some ((decide (a<=v)),a,b):=ci
def cK:Do CO:=[apk]
def VV:PS:=bm [(0,.h j6),(1,.cl (.func 88) [] [.k (.pt 4294967296 0)]),(7,.h j1),(8,.h j1)] [(4294967296,.box 26 [.h j1,.h iG])]
def VW:Do (IO×PS):=[((.exit 0),bm [] [(4294967296,.box 26 [.h j1,.h iG])]),(.ret,bm [(4,.h j1)] [(4294967296,.box 26 [.h j1,.h iG])])]
def VX:Pl:=.z
def Dy:Nat->Nat->aX×Int×Int×Int×fB->At ((Int×fB)⊕(Int×Int×fB)):=ga cK f121 [1,0,1,0,0] VV VW VX
noncomputable def dZ:FD:=cQ 121 f121 (.n .z (.n (.n .z (.n (.loop VV VW VX) .z)) .z)) [.h j6,.cl (.func 88) [] [.k (.pt 4294967296 0)]] [(4294967296,.box 26 [.h j1,.h iG])] (bm [(4,.h j1)] [(4294967296,.box 26 [.h j1,.h iG])]) true false [4294967296]
def adK:Nat->aX×Int×fB->At (Int×Int×fB):=mF cK dZ
def apl:CO:=cF cK dZ adK axs
def II N m s d a f c:Dy N (m+1) (s,d,a,f,c)=cond (a<d)
 (aW (ba s a) λe=>
 aW (adI N (e,f,c)) λb=>
 cond b.1
  (some (.inr (a,b.2.1,b.2.2)))
  ((Dy N m (s,d,(wrap .i64 (a+1)),b.2.1,b.2.2))))
 (some (.inl (f,c))):=ci
def adL N s f b:adK (N+1) (s,f,b)=aW (Dy N N (s,(length s:Int),0,f,b)) λd=>
 (match d with
 |.inl c=>some ((-1),c.1,c.2)
 |.inr a=>some (a.1,a.2.1,a.2.2)):=ci
def dI:Do CO:=[apl]
noncomputable def dJ:FD:=cQ 53 f53 .z [.h j6,.cl (.func 88) [] [.k (.pt 4294967296 0)]] [(4294967296,.box 26 [.h j1,.h iG])] (bm [(4,.h .b)] [(4294967296,.box 26 [.h j1,.h iG])]) true false [4294967296]
def VY:Nat->aX×Int×fB->At (In×Int×fB):=mF dI dJ
def apm:CO:=cF dI dJ VY axU
def adM N s f b:VY (N+1) (s,f,b)=aW (adK N (s,f,b)) λa=>
 some ((decide (0<=a.1)),a.2.1,a.2.2):=ci
def yi:Do CO:=[]
noncomputable def yj:FD:=cQ 142 f142 .z [.h j1] [] (bm [(2,.h .b)] []) false true []
def Fp:Nat->Int->eh:=mF yi yj
def amj:CO:=cF yi yj Fp func142
def ZM N n:Fp (N+1) n=cond (0<=n)
 (some (decide (n<65536)))
 (some false):=ci
def B7:Do CO:=[amj]
noncomputable def B8:FD:=cQ 72 f72 .z [.ag [.h j1,.h j1]] [] (bm [(2,.h j2),(3,.h .b)] []) false true []
def KM:Nat->Int×Int->At (Int×In):=mF B7 B8
def amk:CO:=cF B7 B8 KM func72
def ZN N e a:KM (N+1) (e,a)=aW (Fp N e) λb=>
 cond (!b)
  (some (0,false))
  (aW (Fp N a) λc=>
  cond (!c)
   (some (0,false))
   (some ((Ez .or .u32 (wrap .u32 ((wrap .u32 (if(a<e)then a else e))*((2:Int)^(min (Int.toNat 16) 32)))) (wrap .u32 (if(a>e)then a else e))),true))):=ci
def sR:Do CO:=[]
noncomputable def sT:FD:=cQ 226 f226 .z [.h j1] [] (bm [(2,.h j1)] []) false true []
def Oa:Nat->Int->eQ:=mF sR sT
def akK:CO:=cF sR sT Oa func226
def adN N bits:Oa (N+1) bits=cond (bits<1)
 (some 0)
 (cond (16<bits)
  (some 0)
  (aW (RG (wrap .i64 ((wrap .i64 (32+bits)) - 1)) bits) λa=>
  some (wrap .i64 a))):=ci
def yk:Do CO:=[]
noncomputable def yl:FD:=cQ 283 f283 .z [.h j1] [] (bm [(2,.h .b)] []) false true []
def KN:Nat->Int->eh:=mF yk yl
def adO:CO:=cF yk yl KN func283
def IJ N a:KN (N+1) a=cond (1<=a)
 (some (decide (a<=100)))
 (some false):=ci
def vC:Do CO:=[adO]
noncomputable def vD:FD:=cQ 284 f284 .z [.h j1,.h j1] [] (bm [(4,.h j1)] []) false true []
def KQ:Nat->Int×Int->eQ:=mF vC vD
def aml:CO:=cF vC vD KQ func284
def ZO N n block:KQ (N+1) (n,block)=cond (n<0)
 (some 0)
 (cond (1000<n)
  (some 0)
  (aW (KN N block) λa=>
  cond (!a)
   (some 0)
   (aW (RG (wrap .i64 ((wrap .i64 (n+block)) - 1)) block) λb=>
   some (wrap .i64 b)))):=ci
def ym:Do CO:=[]
noncomputable def yn:FD:=cQ 84 f84 .z [.ag [.h j1,.h j1,.h gO]] [] (bm [(2,.h .b)] []) false true []
def KS:Nat->Int×Int×A1->eh:=mF ym yn
def amm:CO:=cF ym yn KS func84
def IK N p p2 p3:KS (N+1) (p,p2,p3)=cond (1<=p)
 (cond (p<=100)
  (cond (1<=p2)
   (cond (p2<=8)
    (some (decide ((length p3:Int)<=4000)))
    (some false))
   (some false))
  (some false))
 (some false):=ci
def sU:Do CO:=[]
noncomputable def sV:FD:=cQ 137 f137 .z [.h j1,.h j1] [] (bm [(4,.h .b)] []) false true []
def Oc:Nat->Int×Int->eh:=mF sU sV
def akL:CO:=cF sU sV Oc func137
def adP N n a:Oc (N+1) (n,a)=cond (1<=n)
 (cond (n<=1000)
  (cond (1<=a)
   (some (decide (a<=100)))
   (some false))
  (some false))
 (some false):=ci
def yo:Do CO:=[akL]
noncomputable def yp:FD:=cQ 68 f68 .z [.h j1,.h j1] [] (bm [(4,.k (.pt 900 0)),(5,.h j1)] [(900,.box 95 [.h ou,.h j1,.h j3])]) false false []
def KT:Nat->Int×Int->At (Int×nI×Int×br):=mF yo yp
def amn:CO:=cF yo yp KT func68
def ZP N n a:KT (N+1) (n,a)=aW (Oc N (n,a)) λb=>
 cond (!b)
  (some ((1:Int),[],(0:Int),[]))
  (aW (rK n (1:Nat)) λc=>
  some ((0:Int),[((0:Int),n,(-(1:Int)),(0:Int))],a,(replicate c false))):=ci
def yq:Do CO:=[amn]
noncomputable def yr:FD:=cQ 27 f27 .z [.h j1,.h j1,.h j1] [] (bm [(6,.k (.pt 900 0)),(7,.h j1)] [(900,.box 97 [.h ou,.h j1,.h j3,.h fJ,.h .b,.h j1,.h j1])]) false false []
def KU:Nat->Int×Int×Int->At (Int×nI×Int×br×A3×In×Int×Int):=mF yq yr
def amo:CO:=cF yq yr KU func27
def ZQ N n d c:KU (N+1) (n,d,c)=cond (c<(1:Int))
 (some ((1:Int),[],(0:Int),[],[],false,(0:Int),(0:Int)))
 (cond ((8:Int)<c)
  (some ((1:Int),[],(0:Int),[],[],false,(0:Int),(0:Int)))
  (aW (KT N (n,d)) λb=>
  cond (!(b.1=(0:Int)))
   (some (b.1,[],(0:Int),[],[],false,(0:Int),(0:Int)))
   (aW (rK c (24:Nat)) λa=>
   aW (ba (replicate a ([]:aX)) (0:Int)) λf=>
   aW (ba (replicate a ([]:aX)) (0:Int)) λe=>
   cond (mD e)
    (aW (ba (replicate a ([]:aX)) (0:Int)) λg=>
    aW (ba (replicate a ([]:aX)) (0:Int)) λh=>
    aW (ba (replicate a ([]:aX)) (0:Int)) λi=>
    some ((0:Int),b.2.1,b.2.2.1,b.2.2.2,(List.set (replicate a ([]:aX)) (Int.toNat (0:Int)) ([]++[(0:Int)])),false,(0:Int),(0:Int)))
    none))):=ci
def qo:Do CO:=[akL]
def Od:PS:=bm [(1,.k (.pt 900 0)),(25,.h ou),(26,.h j1),(27,.h j1)] [(900,.box 95 [.h ou,.h j1,.h j3])]
def Oe:Do (IO×PS):=[((.exit 0),bm [] []),(.ret,bm [(2,.h .b)] [])]
def Of:Pl:=.z
def yt:Nat->Nat->nI×Int×Int×nI×Int×br->At ((Unit)⊕(In)):=ga qo f158 [1,1,0,1,0,0] Od Oe Of
noncomputable def yu:FD:=cQ 158 f158 (.n .z (.n .z (.n (.n .z (.n (.loop Od Oe Of) .z)) .z))) [.ag [.h ou,.h j1,.h j3]] [] (bm [(2,.h .b)] []) false true []
def Fq:Nat->nI×Int×br->eh:=mF qo yu
def adQ:CO:=cF qo yu Fq func158
def Fs N m c d b w f e:yt N (m+1) (c,d,b,w,f,e)=cond (b<d)
 (aW (ba c b) λa=>
 cond (a.1<0)
  (some (.inr false))
  (cond (a.2.1<=a.1)
   (some (.inr false))
   (cond ((length e:Int)<a.2.1)
    (some (.inr false))
    (cond (a.2.2.1<(-1))
     (some (.inr false))
     (cond (b<=a.2.2.1)
      (some (.inr false))
      (cond (a.2.2.2<0)
       (some (.inr false))
       (cond (2<a.2.2.2)
        (some (.inr false))
        ((yt N m (c,d,(wrap .i64 (b+1)),w,f,e))))))))))
 (some (.inl ())):=ci
def ZR N w a b:Fq (N+1) (w,a,b)=aW (Oc N ((length b:Int),a)) λc=>
 cond (!c)
  (some false)
  (cond ((length w:Int)=0)
   (some false)
   (cond (2000<(length w:Int))
    (some false)
    (aW (yt N N (w,(length w:Int),0,w,a,b)) λd=>
    (match d with
    |.inl f=>some true
    |.inr e=>some e)))):=ci
def sW:Do CO:=[]
noncomputable def sX:FD:=cQ 159 f159 .z [.h j1] [] (bm [(2,.h .b)] []) false true []
def Og:Nat->Int->eh:=mF sW sX
def apn:CO:=cF sW sX Og func159
def adR N n:Og (N+1) n=cond (0<=n)
 (some (decide (n<=100000)))
 (some false):=ci
def yv:Do CO:=[adQ]
noncomputable def yw:FD:=cQ 251 f251 .z [.ag [.h ou,.h j1,.h j3],.h j1] [] (bm [(4,.h j1)] []) false true []
def AT:Nat->nI×Int×br×Int->eQ:=mF yv yw
def SF:CO:=cF yv yw AT func251
def ZS N w a b i:AT (N+1) (w,a,b,i)=aW (Fq N (w,a,b)) λc=>
 cond (!c)
  (some 1)
  (cond (i<0)
   (some 6)
   (cond ((length w:Int)<=i)
    (some 6)
    (some 0))):=ci
def yx:Do CO:=[]
noncomputable def yy:FD:=cQ 252 f252 .z [.ag [.h j1,.h j1,.h j1,.h j1]] [] (bm [(2,.h j1)] []) false true []
def wS:Nat->Int×Int×Int×Int->eQ:=mF yx yy
def SG:CO:=cF yx yy wS func252
def ZT N t a b c:wS (N+1) (t,a,b,c)=some (wrap .i64 (a - t)):=ci
def yz:Do CO:=[SF,SG]
noncomputable def yA:FD:=cQ 207 f207 .z [.ag [.h ou,.h j1,.h j3],.h j1] [] (bm [(4,.h .b)] []) false true []
def Ft:Nat->nI×Int×br×Int->eh:=mF yz yA
def adS:CO:=cF yz yA Ft func207
def ZU N w b c i:Ft (N+1) (w,b,c,i)=aW (AT N (w,b,c,i)) λd=>
 cond (d=0)
  (aW (ba w i) λa=>
  aW (wS N (a.1,a.2.1,a.2.2.1,a.2.2.2)) λe=>
  some (decide (b<e)))
  (some false):=ci
def yB:Do CO:=[adS]
noncomputable def yC:FD:=cQ 160 f160 .z [.ag [.h ou,.h j1,.h j3],.h j1] [] (bm [(4,.h .b)] []) false true []
def KV:Nat->nI×Int×br×Int->eh:=mF yB yC
def amp:CO:=cF yB yC KV func160
def ZV N w b a t:KV (N+1) (w,b,a,t)=cond (0<=t)
 (cond (t<(length w:Int))
  (aW (ba w t) λc=>
  cond (c.2.2.2=0)
   (aW (Ft N (w,b,a,t)) λd=>
   cond d
    (some true)
    (aW (ba w t) λe=>
    aW (ba a e.1) λf=>
    some (!f)))
   (some false))
  (some false))
 (some false):=ci
def l8:Do CO:=[adQ,apn,amp]
def Oh:PS:=bm [(1,.k (.pt 900 0)),(3,.k (.mp 901)),(38,.h fJ),(39,.h j1),(40,.h j1),(44,.h j6),(45,.h j1),(46,.h j1)] [(900,.box 97 [.h ou,.h j1,.h j3,.h fJ,.h .b,.h j1,.h j1]),(901,.mp (.int .i64) j1 j1)]
def Oi:Do (IO×PS):=[((.exit 2),bm [(1,.k (.pt 900 0)),(3,.k (.mp 901)),(38,.h fJ),(39,.h j1),(40,.h j1)] [(900,.box 97 [.h ou,.h j1,.h j3,.h fJ,.h .b,.h j1,.h j1]),(901,.mp (.int .i64) j1 j1)]),(.ret,bm [(2,.h .b)] [])]
def Oj:Pl:=.z
def yD:Nat->Nat->A3×Int×Int×aX×Int×Int×nI×Int×br×A3×In×Int×Int×A1->At ((A3×Int×Int×nI×Int×br×A3×In×Int×Int×A1)⊕(In)):=ga l8 f90 [1,1,1,0,1,0,0,1,1,0,0,1,1,0,0] Oh Oi Oj
def Ol:PS:=bm [(1,.k (.pt 900 0)),(3,.k (.mp 901)),(38,.h fJ),(39,.h j1),(40,.h j1)] [(900,.box 97 [.h ou,.h j1,.h j3,.h fJ,.h .b,.h j1,.h j1]),(901,.mp (.int .i64) j1 j1)]
def Om:Do (IO×PS):=[((.exit 0),bm [] []),(.ret,bm [(2,.h .b)] [])]
def On:Pl:=(.n .z (.n .z (.n (.n (.n .z (.n .z (.n (.loop Oh Oi Oj) .z))) .z) .z)))
def yE:Nat->Nat->A3×Int×Int×nI×Int×br×A3×In×Int×Int×A1->At ((Unit)⊕(In)):=ga l8 f90 [1,1,1,0,1,0,0] Ol Om On
noncomputable def yF:FD:=cQ 90 f90 (.n .z (.n .z (.n .z (.n (.n .z (.n (.loop Ol Om On) .z)) .z)))) [.ag [.h ou,.h j1,.h j3,.h fJ,.h .b,.h j1,.h j1]] [] (bm [(2,.h .b)] []) false true []
def KW:Nat->nI×Int×br×A3×In×Int×Int->eh:=mF l8 yF
def amq:CO:=cF l8 yF KW func90
def Fv N m k l n o p f c d e g h i j a:yD N (m+1) (k,l,n,o,p,f,c,d,e,g,h,i,j,a)=cond (f<p)
 (aW (ba o f) λb=>
 cond (1<(Option.getD (bO j1 (dW j1 a b (wrap .i64 ((Option.getD (bO j1 a b) 0)+1))) b) 0))
  (some (.inr false))
  (aW (KV N (c,d,e,b)) λq=>
  cond (!q)
   (some (.inr false))
   ((yD N m (k,l,n,o,p,(wrap .i64 (f+1)),c,d,e,g,h,i,j,(dW j1 a b (wrap .i64 ((Option.getD (bO j1 a b) 0)+1))))))))
 (some (.inl (k,l,n,c,d,e,g,h,i,j,a))):=ci
def Fw N m d e b c f g h i j k l:yE N (m+1) (d,e,b,c,f,g,h,i,j,k,l)=cond (b<e)
 (aW (ba d b) λn=>
 aW (yD N N (d,e,b,n,(length n:Int),0,c,f,g,h,i,j,k,l)) λo=>
 (match o with
 |.inl a=>(yE N m (a.1,a.2.1,(wrap .i64 (a.2.2.1+1)),a.2.2.2.1,a.2.2.2.2.1,a.2.2.2.2.2.1,a.2.2.2.2.2.2.1,a.2.2.2.2.2.2.2.1,a.2.2.2.2.2.2.2.2.1,a.2.2.2.2.2.2.2.2.2.1,a.2.2.2.2.2.2.2.2.2.2))
 |.inr p=>some (.inr p)))
 (some (.inl ())):=ci
def ZW N c b d a g e f:KW (N+1) (c,b,d,a,g,e,f)=aW (Fq N (c,b,d)) λh=>
 cond (!h)
  (some false)
  (cond ((length a:Int)=0)
   (some false)
   (cond (8<(length a:Int))
    (some false)
    (aW (Og N e) λi=>
    cond (!i)
     (some false)
     (aW (Og N f) λj=>
     cond (!j)
      (some false)
      (aW (yE N N (a,(length a:Int),0,c,b,d,a,g,e,f,[])) λk=>
      (match k with
      |.inl m=>some true
      |.inr l=>some l)))))):=ci
def iH:Do CO:=[]
noncomputable def iI:FD:=cQ 247 f247 .z [.h fJ] [] (bm [(2,.k (.ow 900))] [(900,.arr 47 j6 true)]) true false [900]
def VZ:Nat->A3->At (A3):=mF iH iI
def apo:CO:=cF iH iI VZ func247
def adT N s:VZ (N+1) s=cond (p_ s)
 (dem λc=>
 cond c
  (some [])
  (aW (eo 24 [] s) λa=>
  some a))
 (aW (eo 24 [] s) λb=>
 some b):=ci
def fb:Do CO:=[]
noncomputable def fc:FD:=cQ 248 f248 .z [.k (.pt 4294967296 0),.h j1] [(4294967296,.box 348 [.h ou,.h j1,.h j3,.k (.ow 4294967297),.h .b,.h j1,.h j1,.h j1,.h j1,.h j1,.h .b]),(4294967297,.arr 47 j6 true)] (bm [(4,.h j1)] [(4294967297,.arr 47 j6 true),(4294967296,.box 348 [.h ou,.h j1,.h j3,.k (.ow 4294967297),.h .b,.h j1,.h j1,.h j1,.h j1,.h j1,.h .b])]) true false [4294967297,4294967296]
def Oo:Nat->Int×nI×Int×br×In×Int×Int×Int×Int×Int×In×A3->At (Int×A3×nI×Int×br×In×Int×Int×Int×Int×Int×In):=mF fb fc
def apq:CO:=cF fb fc Oo func248
def adU N n s b c d e f g i j a h:Oo (N+1) (n,s,b,c,d,e,f,g,i,j,a,h)=aW (RF n (length h:Int)) λk=>
 aW (RF (wrap .i64 (k+(length h:Int))) (length h:Int)) λl=>
 some (l,h,s,b,c,d,e,f,g,i,j,a):=ci
def fq:Do CO:=[]
noncomputable def fu:FD:=cQ 249 f249 .z [.k (.pt 4294967296 0),.h j1,.h j1] [(4294967296,.box 348 [.h ou,.h j1,.h j3,.k (.ow 4294967297),.h .b,.h j1,.h j1,.h j1,.h j1,.h j1,.h .b]),(4294967297,.arr 47 j6 true)] (bm [(6,.h .b)] [(4294967297,.arr 47 j6 true),(4294967296,.box 348 [.h ou,.h j1,.h j3,.k (.ow 4294967297),.h .b,.h j1,.h j1,.h j1,.h j1,.h j1,.h .b])]) true false [4294967297,4294967296]
def B9:Nat->Int×Int×nI×Int×br×In×Int×Int×Int×Int×Int×In×A3->At (In×A3×nI×Int×br×In×Int×Int×Int×Int×Int×In):=mF fq fu
def apr:CO:=cF fq fu B9 func249
def Fx N p v s c d e f g i k l b h:B9 (N+1) (p,v,s,c,d,e,f,g,i,k,l,b,h)=aW (ba h p) λr=>
 aW (ba h p) λa=>
 aW (ba h v) λw=>
 aW (ba h v) λj=>
 cond (0<=(wrap .i64 ((length a:Int) - 1)))
  (aW (ba a (wrap .i64 ((length a:Int) - 1))) λn=>
  aW (MO a 0 (wrap .i64 ((length a:Int) - 1)) (wrap .i64 ((length a:Int) - 1))) λo=>
  cond ((wrap .i64 ((length a:Int) - 1))=(wrap .i64 ((length a:Int) - 1)))
   (aW (ba h p) λx=>
   aW (ba h p) λy=>
   some (true,(List.set h (Int.toNat p) o),s,c,d,e,f,g,i,p,n,b))
   none)
  (cond (0<(length j:Int))
   (aW (ba j 0) λq=>
   aW (iR j 1 (length j:Int)) λm=>
   aW (ba h v) λt=>
   aW (ba h v) λu=>
   some (true,(List.set h (Int.toNat v) m),s,c,d,e,f,g,i,v,q,b))
   (some (false,h,s,c,d,e,f,g,i,k,l,b))):=ci
def fD:Do CO:=[]
noncomputable def fE:FD:=cQ 290 f290 .z [.h ou] [] (bm [(2,.k (.ow 900))] [(900,.arr 199 j15 true)]) true true [900]
def Oq:Nat->nI->At (nI):=mF fD fE
def akM:CO:=cF fD fE Oq func290
def adV N s:Oq (N+1) s=cond (p_ s)
 (dem λc=>
 cond c
  (some [])
  (aW (eo 32 [] s) λa=>
  some a))
 (aW (eo 32 [] s) λb=>
 some b):=ci
def B_:Do CO:=[SF,SG,akM]
noncomputable def Ca:FD:=cQ 277 f277 .z [.ag [.h ou,.h j1,.h j3],.h j1] [] (bm [(4,.k (.pt 900 0)),(5,.h j1),(6,.h j1),(7,.h j1)] [(900,.box 95 [.h ou,.h j1,.h j3])]) false false []
def KX:Nat->nI×Int×br×Int->At (Int×Int×Int×nI×Int×br):=mF B_ Ca
def amr:CO:=cF B_ Ca KX func277
def ZX N w b c i:KX (N+1) (w,b,c,i)=aW (AT N (w,b,c,i)) λf=>
 cond (!(f=0))
  (some (0,0,f,w,b,c))
  (aW (ba w i) λa=>
  aW (wS N (a.1,a.2.1,a.2.2.1,a.2.2.2)) λh=>
  cond (h<=b)
   (some (0,0,5,w,b,c))
   (cond (0<a.2.2.2)
    (some (0,0,5,w,b,c))
    (cond (2000<(wrap .i64 ((length w:Int)+2)))
     (some (0,0,2,w,b,c))
     (aW (wS N (a.1,a.2.1,a.2.2.1,a.2.2.2)) λg=>
     aW (Oq N w) λj=>
     aW (eo 32 j [(a.1,(wrap .i64 (a.1+(wrap .i64 (Int.tdiv g 2)))),i,0),((wrap .i64 (a.1+(wrap .i64 (Int.tdiv g 2)))),a.2.1,i,0)]) λd=>
     aW (ba d i) λk=>
     aW (ba d i) λe=>
     some ((length w:Int),(wrap .i64 ((length w:Int)+1)),0,(List.set d (Int.toNat i) (e.1,e.2.1,e.2.2.1,2)),b,c))))):=ci
def jU:Do CO:=[]
noncomputable def jV:FD:=cQ 278 f278 .z [.h j6] [] (bm [(2,.t j1)] []) false false []
def V0:Nat->aX->nh:=mF jU jV
def aps:CO:=cF jU jV V0 func278
def adW N s:V0 (N+1) s=aW (MO s 0 (length s:Int) (length s:Int)) λa=>
 cond ((length s:Int)=(length s:Int))
  (some a)
  none:=ci
def iJ:Do CO:=[]
noncomputable def iK:FD:=cQ 291 f291 .z [.h j3] [] (bm [(2,.k (.ow 900))] [(900,.arr 4 .b true)]) true true [900]
def V1:Nat->br->At (br):=mF iJ iK
def apt:CO:=cF iJ iK V1 func291
def adX N s:V1 (N+1) s=cond (p_ s)
 (dem λc=>
 cond c
  (some [])
  (aW (eo 1 [] s) λa=>
  some a))
 (aW (eo 1 [] s) λb=>
 some b):=ci
def lO:Do CO:=[]
def V2:PS:=bm [(0,.k (.ow 4294967296)),(1,.h j1)] [(4294967296,.arr 199 j15 true)]
def V3:Do (IO×PS):=[((.exit 0),bm [] [(4294967296,.arr 199 j15 true)]),(.ret,bm [(4,.h .b)] [(4294967296,.arr 199 j15 true)])]
def V4:Pl:=.z
def Dz:Nat->Nat->Int×nI->At ((nI)⊕(In×nI)):=ga lO f292 [1,0,0,0] V2 V3 V4
noncomputable def rq:FD:=cQ 292 f292 (.n .z (.n (.n (.loop V2 V3 V4) .z) .z)) [.k (.ow 4294967296),.h j1] [(4294967296,.arr 199 j15 true)] (bm [(4,.h .b)] [(4294967296,.arr 199 j15 true)]) true true [4294967296]
def adY:Nat->Int×nI->At (In×nI):=mF lO rq
def apu:CO:=cF lO rq adY func292
def uF N m a c:Dz N (m+1) (a,c)=cond (!(a=(-1)))
 (aW (ba c a) λh=>
 aW (ba c a) λe=>
 cond (e.2.2.2=0)
  (some (.inr (false,c)))
  (aW (ba c a) λd=>
  aW (ba c a) λb=>
  aW (ba (List.set c (Int.toNat a) (b.1,b.2.1,b.2.2.1,(wrap .i64 (d.2.2.2 - 1)))) a) λf=>
  cond (0<f.2.2.2)
   (some (.inr (false,(List.set c (Int.toNat a) (b.1,b.2.1,b.2.2.1,(wrap .i64 (d.2.2.2 - 1)))))))
   (aW (ba (List.set c (Int.toNat a) (b.1,b.2.1,b.2.2.1,(wrap .i64 (d.2.2.2 - 1)))) a) λg=>
   (Dz N m (g.2.2.1,(List.set c (Int.toNat a) (b.1,b.2.1,b.2.2.1,(wrap .i64 (d.2.2.2 - 1)))))))))
 (some (.inl c)):=ci
def adZ N b a:adY (N+1) (b,a)=aW (Dz N N (b,a)) λd=>
 (match d with
 |.inl e=>some (true,e)
 |.inr c=>some (c.1,c.2)):=ci
def AU:Do CO:=[SF,SG,akM,apt,apu]
def Ot:PS:=bm [(2,.k (.pt 900 0)),(4,.k (.pt 901 0)),(8,.k (.pt 902 0)),(9,.h j1)] [(900,.box 95 [.k (.ow 903),.h j1,.k (.ow 904)]),(901,.box 95 [.k .nil,.h j1,.k .nil]),(902,.box 199 [.h j1,.h j1,.h j1,.h j1]),(903,.arr 199 j15 true),(904,.arr 4 .b true)]
def Ou:Do (IO×PS):=[((.exit 0),bm [(2,.k (.pt 900 0)),(4,.k (.pt 901 0)),(8,.k (.pt 902 0))] [(900,.box 95 [.k (.ow 903),.h j1,.k (.ow 904)]),(901,.box 95 [.k .nil,.h j1,.k .nil]),(902,.box 199 [.h j1,.h j1,.h j1,.h j1]),(903,.arr 199 j15 true),(904,.arr 4 .b true)])]
def Ov:Pl:=.z
def yG:Nat->Nat->Int×Int×Int×Int×Int×Int×Int×nI×br->At (Int×Int×Int×Int×Int×Int×nI×br):=ga AU f279 [1,1,1,1,1,0,1,0,0] Ot Ou Ov
noncomputable def IL:FD:=cQ 279 f279 (.n .z (.n .z (.n .z (.n .z (.n .z (.n (.n .z (.n (.loop Ot Ou Ov) .z)) .z)))))) [.ag [.h ou,.h j1,.h j3],.h j1] [] (bm [(4,.k (.pt 900 0)),(5,.h .b),(6,.h j1)] [(900,.box 95 [.h ou,.h j1,.h j3])]) false false []
def KY:Nat->nI×Int×br×Int->At (In×Int×nI×Int×br):=mF AU IL
def ams:CO:=cF AU IL KY func279
def Fy N m k w e t b c d f a:yG N (m+1) (k,w,e,t,b,c,d,f,a)=cond (k<b)
 (aW (ba a k) λg=>
 aW (ba a k) λh=>
 (yG N m ((wrap .i64 (k+1)),w,e,t,b,c,d,f,(List.set a (Int.toNat k) true))))
 (some (w,e,t,b,c,d,f,a)):=ci
def ZY N w b c i:KY (N+1) (w,b,c,i)=aW (AT N (w,b,c,i)) λe=>
 cond (!(e=0))
  (some (false,e,w,b,c))
  (aW (ba w i) λa=>
  aW (wS N (a.1,a.2.1,a.2.2.1,a.2.2.2)) λg=>
  cond (b<g)
   (some (false,5,w,b,c))
   (cond (0<a.2.2.2)
    (some (false,5,w,b,c))
    (aW (ba c a.1) λh=>
    cond h
     (some (false,5,w,b,c))
     (aW (Oq N w) λj=>
     aW (V1 N c) λk=>
     aW (yG N N (a.1,b,0,a.1,a.2.1,a.2.2.1,a.2.2.2,j,k)) λd=>
     aW (adY N (d.2.2.2.2.1,d.2.2.2.2.2.2.1)) λf=>
     some (f.1,0,f.2,d.1,d.2.2.2.2.2.2.2))))):=ci
def fP:Do CO:=[adS,amr,aps,ams]
noncomputable def fQ:FD:=cQ 250 f250 .z [.k (.pt 4294967296 0),.h j1] [(4294967296,.box 348 [.h ou,.h j1,.h j3,.k (.ow 4294967297),.h .b,.h j1,.h j1,.h j1,.h j1,.h j1,.h .b]),(4294967297,.arr 47 j6 true)] (bm [(4,.h j1)] [(4294967297,.arr 47 j6 true),(4294967296,.box 348 [.h ou,.h j1,.h j3,.k (.ow 4294967297),.h .b,.h j1,.h j1,.h j1,.h j1,.h j1,.h .b])]) true false [4294967297,4294967296]
def Ow:Nat->Int×nI×Int×br×In×Int×Int×Int×Int×Int×In×A3->At (Int×A3×nI×Int×br×In×Int×Int×Int×Int×Int×In):=mF fP fQ
def apv:CO:=cF fP fQ Ow func250
def Ox N p s j k l d e f g c i h:Ow (N+1) (p,s,j,k,l,d,e,f,g,c,i,h)=aW (Ft N (s,j,k,c)) λm=>
 cond m
  (aW (KX N (s,j,k,c)) λa=>
  cond (a.2.2.1=0)
   (aW (ba h p) λr=>
   aW (ba h p) λn=>
   aW (V0 N n) λo=>
   aW (eo 8 o [a.2.1,a.1]) λq=>
   aW (ba h p) λt=>
   aW (ba h p) λu=>
   some (a.2.2.1,(List.set h (Int.toNat p) q),a.2.2.2.1,a.2.2.2.2.1,a.2.2.2.2.2,l,d,e,f,g,c,true))
   (some (a.2.2.1,h,a.2.2.2.1,a.2.2.2.2.1,a.2.2.2.2.2,l,d,e,f,g,c,i)))
  (aW (KY N (s,j,k,c)) λb=>
  cond l
   (some (b.2.1,h,b.2.2.1,b.2.2.2.1,b.2.2.2.2,true,d,e,f,g,c,i))
   (some (b.2.1,h,b.2.2.1,b.2.2.2.1,b.2.2.2.2,b.1,d,e,f,g,c,i))):=ci
def Cb:Do CO:=[amq,apo,apq,apr,apv]
noncomputable def Cc:FD:=cQ 205 f205 .z [.ag [.h ou,.h j1,.h j3,.h fJ,.h .b,.h j1,.h j1],.h j1,.h j1] [] (bm [(6,.k (.pt 900 0)),(7,.k (.pt 901 0)),(8,.h j1)] [(900,.box 97 [.h ou,.h j1,.h j3,.h fJ,.h .b,.h j1,.h j1]),(901,.box 258 [.h j1,.h j1,.h j1,.h .b])]) false false []
def AW:Nat->nI×Int×br×A3×In×Int×Int×Int×Int->At (Int×nI×Int×br×A3×In×Int×Int×Int×Int×Int×In):=mF Cb Cc
def ad0:CO:=cF Cb Cc AW func205
def ZZ N c g h i j f k p v:AW (N+1) (c,g,h,i,j,f,k,p,v)=aW (KW N (c,g,h,i,j,f,k)) λl=>
 cond (!l)
  (some (1,c,g,h,i,j,f,k,0,0,0,false))
  (cond (f=100000)
   (some (2,c,g,h,i,j,f,k,0,0,0,false))
   (aW (VZ N i) λm=>
   aW (Oo N (p,c,g,h,j,f,k,0,(-1),(-1),false,m)) λb=>
   aW (Oo N (v,b.2.2.1,b.2.2.2.1,b.2.2.2.2.1,b.2.2.2.2.2.1,b.2.2.2.2.2.2.1,b.2.2.2.2.2.2.2.1,b.2.2.2.2.2.2.2.2.1,b.2.2.2.2.2.2.2.2.2.1,b.2.2.2.2.2.2.2.2.2.2.1,b.2.2.2.2.2.2.2.2.2.2.2,b.2.1)) λe=>
   aW (B9 N (b.1,e.1,e.2.2.1,e.2.2.2.1,e.2.2.2.2.1,e.2.2.2.2.2.1,(wrap .i64 (e.2.2.2.2.2.2.1+1)),e.2.2.2.2.2.2.2.1,b.1,e.2.2.2.2.2.2.2.2.2.1,e.2.2.2.2.2.2.2.2.2.2.1,e.2.2.2.2.2.2.2.2.2.2.2,e.2.1)) λa=>
   cond a.1
    (aW (Ow N (b.1,a.2.2.1,a.2.2.2.1,a.2.2.2.2.1,a.2.2.2.2.2.1,a.2.2.2.2.2.2.1,a.2.2.2.2.2.2.2.1,a.2.2.2.2.2.2.2.2.1,a.2.2.2.2.2.2.2.2.2.1,a.2.2.2.2.2.2.2.2.2.2.1,a.2.2.2.2.2.2.2.2.2.2.2,a.2.1)) λd=>
    cond (!(d.1=0))
     (some (d.1,c,g,h,i,j,f,k,0,0,0,false))
     (some (0,d.2.2.1,d.2.2.2.1,d.2.2.2.2.1,d.2.1,d.2.2.2.2.2.1,d.2.2.2.2.2.2.1,d.2.2.2.2.2.2.2.1,d.2.2.2.2.2.2.2.2.1,d.2.2.2.2.2.2.2.2.2.1,d.2.2.2.2.2.2.2.2.2.2.1,d.2.2.2.2.2.2.2.2.2.2.2)))
    (cond (a.2.2.2.2.2.2.2.1=100000)
     (some (2,c,g,h,i,j,f,k,0,0,0,false))
     (some (0,a.2.2.1,a.2.2.2.1,a.2.2.2.2.1,a.2.1,a.2.2.2.2.2.1,a.2.2.2.2.2.2.1,(wrap .i64 (a.2.2.2.2.2.2.2.1+1)),a.2.2.2.2.2.2.2.2.1,a.2.2.2.2.2.2.2.2.2.1,a.2.2.2.2.2.2.2.2.2.2.1,a.2.2.2.2.2.2.2.2.2.2.2))))):=ci
def hI:Do CO:=[ad0]
noncomputable def hJ:FD:=cQ 155 f155 .z [.k (.pt 4294967296 0),.h j1,.h j1] [(4294967296,.box 254 [.h ou,.h j1,.h j3,.h fJ,.h .b,.h j1,.h j1,.k .nil])] (bm [(6,.h j1)] [(4294967296,.box 254 [.h ou,.h j1,.h j3,.h fJ,.h .b,.h j1,.h j1,.k (.ow 900)]),(900,.arr 258 rh true)]) true false [4294967296,900]
def apw:Nat->Int×Int×nI×Int×br×A3×In×Int×Int->At A14:=mF hI hJ
def apx:CO:=cF hI hJ apw func155
def hL:Do CO:=[ad0]
noncomputable def hP:FD:=cQ 155 f155 .z [.k (.pt 4294967296 0),.h j1,.h j1] [(4294967296,.box 254 [.h ou,.h j1,.h j3,.h fJ,.h .b,.h j1,.h j1,.k (.ow 4294967297)]),(4294967297,.arr 258 rh true)] (bm [(6,.h j1)] [(4294967296,.box 254 [.h ou,.h j1,.h j3,.h fJ,.h .b,.h j1,.h j1,.k (.ow 901)]),(901,.arr 258 rh true)]) true false [4294967296,901]
def Oy:Nat->Int×Int×nI×Int×br×A3×In×Int×Int×fB->At A14:=mF hL hP
def akN:CO:=cF hL hP Oy func155
def ad1 N p v g b c d e f i h:Oy (N+1) (p,v,g,b,c,d,e,f,i,h)=aW (AW N (g,b,c,d,e,f,i,p,v)) λa=>
 cond (a.1=0)
  (aW (eo 32 h [(a.2.2.2.2.2.2.2.2.1,a.2.2.2.2.2.2.2.2.2.1,a.2.2.2.2.2.2.2.2.2.2.1,a.2.2.2.2.2.2.2.2.2.2.2)]) λj=>
  some (a.1,a.2.1,a.2.2.1,a.2.2.2.1,a.2.2.2.2.1,a.2.2.2.2.2.1,a.2.2.2.2.2.2.1,a.2.2.2.2.2.2.2.1,j))
  (some (a.1,g,b,c,d,e,f,i,h)):=ci
def sY:Do CO:=[]
def Oz:PS:=bm [(2,.h j1),(6,.h fJ),(7,.h j1),(8,.h j1)] []
def OA:Do (IO×PS):=[((.exit 0),bm [(2,.h j1)] [])]
def OB:Pl:=.z
def yH:Nat->Nat->Int×A3×Int×Int->eQ:=ga sY f206 [1,0,1,0,0] Oz OA OB
noncomputable def Cd:FD:=cQ 206 f206 (.n .z (.n (.n .z (.n (.loop Oz OA OB) .z)) .z)) [.ag [.h ou,.h j1,.h j3,.h fJ,.h .b,.h j1,.h j1]] [] (bm [(2,.h j1)] []) false true []
def KZ:Nat->nI×Int×br×A3×In×Int×Int->eQ:=mF sY Cd
def amt:CO:=cF sY Cd KZ func206
def Fz N m n b c a:yH N (m+1) (n,b,c,a)=cond (a<c)
 (aW (ba b a) λd=>
 (yH N m ((wrap .i64 (n+(length d:Int))),b,c,(wrap .i64 (a+1)))))
 (some n):=ci
def Z0 N c b d a e f g:KZ (N+1) (c,b,d,a,e,f,g)=aW (yH N N (0,a,(length a:Int),0)) λh=>
 some h:=ci
def ee:Do CO:=[amt,akN]
def V5:PS:=bm [(0,.k (.pt 4294967296 0)),(3,.h j1),(13,.h j1),(14,.h j1)] [(4294967296,.box 254 [.h ou,.h j1,.h j3,.h fJ,.h .b,.h j1,.h j1,.k (.ow 900)]),(900,.arr 258 rh true)]
def V6:Do (IO×PS):=[((.exit 2),bm [(0,.k (.pt 4294967296 0)),(3,.h j1)] [(4294967296,.box 254 [.h ou,.h j1,.h j3,.h fJ,.h .b,.h j1,.h j1,.k (.ow 900)]),(900,.arr 258 rh true)]),(.ret,bm [(2,.h j1)] [(4294967296,.box 254 [.h ou,.h j1,.h j3,.h fJ,.h .b,.h j1,.h j1,.k (.ow 900)]),(900,.arr 258 rh true)])]
def V7:Pl:=.z
def qp:Nat->Nat->Int×Int×Int×nI×Int×br×A3×In×Int×Int×fB->At (A14⊕A14):=ga ee f156 [1,1,0,0,0,0,1,0,0] V5 V6 V7
def V8:PS:=bm [(0,.k (.pt 4294967296 0)),(3,.h j1)] [(4294967296,.box 254 [.h ou,.h j1,.h j3,.h fJ,.h .b,.h j1,.h j1,.k (.ow 907)]),(907,.arr 258 rh true)]
def V9:Do (IO×PS):=[(.ret,bm [(2,.h j1)] [(4294967296,.box 254 [.h ou,.h j1,.h j3,.h fJ,.h .b,.h j1,.h j1,.k (.ow 900)]),(900,.arr 258 rh true)])]
def V_:Pl:=(.n (.n (.n .z (.n (.loop V5 V6 V7) .z)) .z) .z)
def DA:Nat->Nat->Int×nI×Int×br×A3×In×Int×Int×fB->At A14:=ga ee f156 [1,1,0,0] V8 V9 V_
noncomputable def gI:FD:=cQ 156 f156 (.n .z (.n .z (.n (.loop V8 V9 V_) .z))) [.k (.pt 4294967296 0)] [(4294967296,.box 254 [.h ou,.h j1,.h j3,.h fJ,.h .b,.h j1,.h j1,.k (.ow 4294967297)]),(4294967297,.arr 258 rh true)] (bm [(2,.h j1)] [(4294967296,.box 254 [.h ou,.h j1,.h j3,.h fJ,.h .b,.h j1,.h j1,.k (.ow 900)]),(900,.arr 258 rh true)]) true false [4294967296,900]
def ad2:Nat->nI×Int×br×A3×In×Int×Int×fB->At A14:=mF ee gI
def apy:CO:=cF ee gI ad2 func156
def po N m r k i g c d e b f h j:qp N (m+1) (r,k,i,g,c,d,e,b,f,h,j)=cond (i<k)
 (cond b
  (some (.inr (0,g,c,d,e,b,f,h,j)))
  (aW (KZ N (g,c,d,e,b,f,h)) λl=>
  cond (l=0)
   (some (.inr (4,g,c,d,e,b,f,h,j)))
   (aW (Oy N (i,(wrap .i64 ((wrap .i64 (i+1))+r)),g,c,d,e,b,f,h,j)) λa=>
   cond (!(a.1=0))
    (some (.inr (a.1,a.2.1,a.2.2.1,a.2.2.2.1,a.2.2.2.2.1,a.2.2.2.2.2.1,a.2.2.2.2.2.2.1,a.2.2.2.2.2.2.2.1,a.2.2.2.2.2.2.2.2)))
    ((qp N m (r,k,(wrap .i64 (i+1)),a.2.1,a.2.2.1,a.2.2.2.1,a.2.2.2.2.1,a.2.2.2.2.2.1,a.2.2.2.2.2.2.1,a.2.2.2.2.2.2.2.1,a.2.2.2.2.2.2.2.2))))))
 (some (.inl (r,g,c,d,e,b,f,h,j))):=ci
def uG N m r g d e c f h i j:DA N (m+1) (r,g,d,e,c,f,h,i,j)=aW (qp N N (r,(length c:Int),0,g,d,e,c,f,h,i,j)) λk=>
 (match k with
 |.inl a=>(DA N m ((wrap .i64 (a.1+1)),a.2.1,a.2.2.1,a.2.2.2.1,a.2.2.2.2.1,a.2.2.2.2.2.1,a.2.2.2.2.2.2.1,a.2.2.2.2.2.2.2.1,a.2.2.2.2.2.2.2.2))
 |.inr b=>some (b.1,b.2.1,b.2.2.1,b.2.2.2.1,b.2.2.2.2.1,b.2.2.2.2.2.1,b.2.2.2.2.2.2.1,b.2.2.2.2.2.2.2.1,b.2.2.2.2.2.2.2.2)):=ci
def ad3 N g b c d e f i h:ad2 (N+1) (g,b,c,d,e,f,i,h)=aW (DA N N (0,g,b,c,d,e,f,i,h)) λa=>
 some (a.1,a.2.1,a.2.2.1,a.2.2.2.1,a.2.2.2.2.1,a.2.2.2.2.2.1,a.2.2.2.2.2.2.1,a.2.2.2.2.2.2.2.1,a.2.2.2.2.2.2.2.2):=ci
def oD:Do CO:=[amo,apx,akN,apy]
def Wa:PS:=bm [(8,.k (.pt 900 0)),(13,.k (.pt 901 0)),(31,.h gO),(32,.h j1),(33,.h j1)] [(900,.box 97 [.k .nil,.h j1,.k .nil,.k .nil,.h .b,.h j1,.h j1]),(901,.box 254 [.h ou,.h j1,.h j3,.h fJ,.h .b,.h j1,.h j1,.k (.ow 902)]),(902,.arr 258 rh true)]
def Wb:Do (IO×PS):=[((.exit 0),bm [(8,.k (.pt 900 0)),(13,.k (.pt 901 0))] [(900,.box 97 [.k .nil,.h j1,.k .nil,.k .nil,.h .b,.h j1,.h j1]),(901,.box 254 [.h ou,.h j1,.h j3,.h fJ,.h .b,.h j1,.h j1,.k (.ow 902)]),(902,.arr 258 rh true)]),(.ret,bm [(8,.k (.pt 900 0)),(9,.k (.ow 901)),(10,.h j1)] [(900,.box 97 [.h ou,.h j1,.h j3,.h fJ,.h .b,.h j1,.h j1]),(901,.arr 258 rh true)])]
def Wc:Pl:=.z
def yI:Nat->Nat->A1×Int×Int×Int×In×Int×Int×nI×Int×br×A3×In×Int×Int×fB->At ((Int×In×Int×Int×nI×Int×br×A3×In×Int×Int×fB)⊕A14):=ga oD f85 [1,1,1,1,0,1,0,0] Wa Wb Wc
noncomputable def vE:FD:=cQ 85 f85 (.n .z (.n .z (.n .z (.n .z (.n (.n .z (.n (.loop Wa Wb Wc) .z)) .z))))) [.h j1,.h j1,.h j1,.h gO] [] (bm [(8,.k (.pt 900 0)),(9,.k (.ow 901)),(10,.h j1)] [(900,.box 97 [.h ou,.h j1,.h j3,.h fJ,.h .b,.h j1,.h j1]),(901,.arr 258 rh true)]) true false [901]
def OC:Nat->Int×Int×Int×A1->At A14:=mF oD vE
def apz:CO:=cF oD vE OC func85
def AX N m p q i j k l n g c d e b f h o:yI N (m+1) (p,q,i,j,k,l,n,g,c,d,e,b,f,h,o)=cond (i<q)
 (aW (ba p i) λr=>
 cond b
  (some (.inl (j,k,l,n,g,c,d,e,b,f,h,o)))
  (aW (Oy N (r.1,r.2,g,c,d,e,b,f,h,o)) λa=>
  cond (!(a.1=0))
   (some (.inr (a.1,a.2.1,a.2.2.1,a.2.2.2.1,a.2.2.2.2.1,a.2.2.2.2.2.1,a.2.2.2.2.2.2.1,a.2.2.2.2.2.2.2.1,a.2.2.2.2.2.2.2.2)))
   ((yI N m (p,q,(wrap .i64 (i+1)),j,k,l,n,a.2.1,a.2.2.1,a.2.2.2.1,a.2.2.2.2.1,a.2.2.2.2.2.1,a.2.2.2.2.2.2.1,a.2.2.2.2.2.2.2.1,a.2.2.2.2.2.2.2.2)))))
 (some (.inl (j,k,l,n,g,c,d,e,b,f,h,o))):=ci
def ad4 N n f g e:OC (N+1) (n,f,g,e)=aW (KU N (n,f,g)) λa=>
 cond (!(a.1=0))
  (some (a.1,[],0,[],[],false,0,0,[]))
  (aW (yI N N (e,(length e:Int),0,0,false,0,0,a.2.1,a.2.2.1,a.2.2.2.1,a.2.2.2.2.1,a.2.2.2.2.2.1,a.2.2.2.2.2.2.1,a.2.2.2.2.2.2.2,[])) λh=>
  (match h with
  |.inl d=>aW (ad2 N (d.2.2.2.2.1,d.2.2.2.2.2.1,d.2.2.2.2.2.2.1,d.2.2.2.2.2.2.2.1,d.2.2.2.2.2.2.2.2.1,d.2.2.2.2.2.2.2.2.2.1,d.2.2.2.2.2.2.2.2.2.2.1,d.2.2.2.2.2.2.2.2.2.2.2)) λb=>
   some (b.1,b.2.1,b.2.2.1,b.2.2.2.1,b.2.2.2.2.1,b.2.2.2.2.2.1,b.2.2.2.2.2.2.1,b.2.2.2.2.2.2.2.1,b.2.2.2.2.2.2.2.2)
  |.inr c=>some (c.1,c.2.1,c.2.2.1,c.2.2.2.1,c.2.2.2.2.1,c.2.2.2.2.2.1,c.2.2.2.2.2.2.1,c.2.2.2.2.2.2.2.1,c.2.2.2.2.2.2.2.2))):=ci
def mM:Do CO:=[]
def Wd:PS:=bm [(2,.k (.pt 900 0)),(5,.k (.ow 901)),(9,.h iG),(10,.h j1),(11,.h j1)] [(900,.box 97 [.h ou,.h j1,.h j3,.h fJ,.h .b,.h j1,.h j1]),(901,.arr 193 j5 true)]
def We:Do (IO×PS):=[((.exit 0),bm [(5,.k (.ow 900))] [(900,.arr 193 j5 true)])]
def Wf:Pl:=.z
def qq:Nat->Nat->fB×Int×Int×nI×Int×br×A3×In×Int×Int×A1->At (A1):=ga mM f86 [1,1,0,1,0,0] Wd We Wf
noncomputable def sZ:FD:=cQ 86 f86 (.n .z (.n .z (.n (.n .z (.n (.loop Wd We Wf) .z)) .z))) [.ag [.h ou,.h j1,.h j3,.h fJ,.h .b,.h j1,.h j1],.h iG] [] (bm [(4,.k (.ow 900))] [(900,.arr 193 j5 true)]) true true [900]
def Wg:Nat->nI×Int×br×A3×In×Int×Int×fB->At (A1):=mF mM sZ
def apA:CO:=cF mM sZ Wg func86
def IM N m e d a c f g h i j k b:qq N (m+1) (e,d,a,c,f,g,h,i,j,k,b)=cond (a<d)
 (aW (ba e a) λl=>
 cond l.2.2.2
  ((qq N m (e,d,(wrap .i64 (a+1)),c,f,g,h,i,j,k,b)))
  (cond (l.2.2.1<0)
   ((qq N m (e,d,(wrap .i64 (a+1)),c,f,g,h,i,j,k,b)))
   (cond ((length c:Int)<=l.2.2.1)
    ((qq N m (e,d,(wrap .i64 (a+1)),c,f,g,h,i,j,k,b)))
    (aW (ba c l.2.2.1) λn=>
    aW (eo 16 b [(n.1,n.2.1)]) λo=>
    (qq N m (e,d,(wrap .i64 (a+1)),c,f,g,h,i,j,k,o))))))
 (some b):=ci
def ad5 N c a b d e f g l:Wg (N+1) (c,a,b,d,e,f,g,l)=aW (qq N N (l,(length l:Int),0,c,a,b,d,e,f,g,[])) λh=>
 some h:=ci
def l9:Do CO:=[amm,apz,apA]
def OD:PS:=bm [(8,.k (.ow 900)),(10,.k (.ow 903)),(12,.k (.pt 901 0)),(44,.k (.ow 902)),(45,.h j1),(46,.h j1),(54,.h j1),(55,.h j1)] [(900,.arr 258 rh true),(903,.arr 3 j1 true),(901,.box 193 [.h j1,.h j1]),(902,.arr 193 j5 true)]
def OE:Do (IO×PS):=[((.exit 2),bm [(8,.k (.ow 900)),(10,.k (.ow 901)),(44,.k (.ow 902)),(45,.h j1),(46,.h j1)] [(900,.arr 258 rh true),(901,.arr 3 j1 true),(902,.arr 193 j5 true)])]
def OF:Pl:=.z
def yJ:Nat->Nat->Int×Int×Int×Int×fB×aX×Int×Int×A1->At (Int×Int×fB×aX×A1):=ga l9 f32 [1,1,1,1,1,1,0,1,0,0,1,1,0,0,1,1,0,0] OD OE OF
def OG:PS:=bm [(8,.k (.ow 900)),(10,.k (.ow 902)),(44,.k (.ow 901)),(45,.h j1),(46,.h j1)] [(900,.arr 258 rh true),(902,.arr 3 j1 true),(901,.arr 193 j5 true)]
def OH:Do (IO×PS):=[((.exit 0),bm [(8,.k (.ow 900)),(10,.k (.ow 901))] [(900,.arr 258 rh true),(901,.arr 3 j1 true)])]
def OI:Pl:=(.n .z (.n .z (.n (.n (.n .z (.n .z (.n (.loop OD OE OF) .z))) .z) .z)))
def yK:Nat->Nat->Int×Int×fB×aX×A1->At (fB×aX):=ga l9 f32 [1,1,1,1,1,1,0,1,0,0] OG OH OI
noncomputable def yL:FD:=cQ 32 f32 (.n .z (.n .z (.n .z (.n .z (.n .z (.n .z (.n (.n .z (.n (.loop OG OH OI) .z)) .z))))))) [.h j1,.ag [.h j1,.h j1,.h gO]] [] (bm [(4,.k (.ow 900)),(5,.h j1),(6,.h j1)] [(900,.arr 3 j1 true)]) true true [900]
def kL:Nat->Int×Int×Int×A1->At A7:=mF l9 yL
def SH:CO:=cF l9 yL kL func32
def FA N m c d e v55 l a s f b:yJ N (m+1) (c,d,e,v55,l,a,s,f,b)=cond (v55<e)
 (aW (eo 8 a [(wrap .i64 (s+v55))]) λg=>
 (yJ N m (c,d,e,(wrap .i64 (v55+1)),l,g,s,f,b)))
 (some (c,d,l,a,b)):=ci
def FB N m f a l e c:yK N (m+1) (f,a,l,e,c)=cond (a<f)
 (aW (ba c a) λg=>
 aW (ba c a) λd=>
 aW (yJ N N (f,a,(wrap .i64 (d.2 - d.1)),0,l,e,d.1,d.2,c)) λb=>
 (yK N m (b.1,(wrap .i64 (b.2.1+1)),b.2.2.1,b.2.2.2.1,b.2.2.2.2)))
 (some (l,e)):=ci
def IN N n p p2 p3:kL (N+1) (n,p,p2,p3)=cond (n<0)
 (some (0,1,[]))
 (cond (1000<n)
  (some (0,1,[]))
  (aW (KS N (p,p2,p3)) λd=>
  cond (!d)
   (some (0,1,[]))
   (cond (n=0)
    (some (0,0,[]))
    (aW (OC N (n,p,p2,p3)) λa=>
    cond (!(a.1=0))
     (some (0,a.1,[]))
     (aW (Wg N (a.2.1,a.2.2.1,a.2.2.2.1,a.2.2.2.2.1,a.2.2.2.2.2.1,a.2.2.2.2.2.2.1,a.2.2.2.2.2.2.2.1,a.2.2.2.2.2.2.2.2)) λb=>
     aW (yK N N ((length b:Int),0,a.2.2.2.2.2.2.2.2,[],b)) λc=>
     some ((length c.1:Int),0,c.2)))))):=ci
def Ce:Do CO:=[]
noncomputable def Cf:FD:=cQ 286 f286 .z [.h j8,.h j1,.h j1] [] (bm [(6,.h j8)] []) false false []
def FF:Nat->aX×Int×Int->nh:=mF Ce Cf
def amu:CO:=cF Ce Cf FF func286
def Z1 N l i a:FF (N+1) (l,i,a)=aW (iR l (wrap .i64 (i*a)) (if((wrap .i64 ((wrap .i64 (i+1))*a))<(length l:Int))then(wrap .i64 ((wrap .i64 (i+1))*a))else(length l:Int))) λb=>
 some b:=ci
def vF:Do CO:=[]
noncomputable def vG:FD:=cQ 267 f267 .z [.h j2,.h j2] [] (bm [(4,.h j2)] []) false true []
def K0:Nat->Int×Int->eQ:=mF vF vG
def ad6:CO:=cF vF vG K0 func267
def IP N a b:K0 (N+1) (a,b)=some (wrap .u32 (a+b)):=ci
def fX:Do CO:=[ad6]
def Wh:PS:=bm [(1,.k (.v (.func (.func 267) #[] #[]))),(6,.k (.ow 900)),(7,.h j2),(13,.h j8),(14,.h j1),(15,.h j1)] [(900,.arr 69 j2 true)]
def Wi:Do (IO×PS):=[((.exit 0),bm [(6,.k (.ow 900)),(7,.h j2)] [(900,.arr 69 j2 true)])]
def Wj:Pl:=.z
def DB:Nat->Nat->Int×aX×Int×Int×aX->At A6:=ga fX f285 [1,1,1,0,1,0,0] Wh Wi Wj
noncomputable def i_:FD:=cQ 285 f285 (.n .z (.n .z (.n .z (.n (.n .z (.n (.loop Wh Wi Wj) .z)) .z)))) [.h j8,.k (.v (.func (.func 267) #[] #[]))] [] (bm [(4,.k (.ow 900)),(5,.h j2)] [(900,.arr 69 j2 true)]) true true [900]
def IQ:Nat->aX->At A6:=mF fX i_
def apB:CO:=cF fX i_ IQ func285
def IS N m all c d a b:DB N (m+1) (all,c,d,a,b)=cond (a<d)
 (aW (ba c a) λe=>
 aW (ba b a) λg=>
 aW (ba b a) λh=>
 aW (K0 N (all,e)) λf=>
 (DB N m (f,c,d,(wrap .i64 (a+1)),(List.set b (Int.toNat a) all))))
 (some (all,b)):=ci
def ad7 N l:IQ (N+1) l=aW (rK (length l:Int) (4:Nat)) λb=>
 aW (DB N N ((0:Int),l,(length l:Int),(0:Int),(replicate b (0:Int)))) λa=>
 some (a.1,a.2):=ci
def d_:Do CO:=[adO,aml,SH,amu,apB,ad6]
def Wl:PS:=bm [(0,.h j8),(1,.h j1),(3,.k (.v (.func (.func 267) #[] #[]))),(8,.k (.ow 900)),(9,.h j2),(10,.h j1),(17,.k (.ow 901)),(19,.h j1),(76,.k (.ow 902)),(77,.h j1),(78,.h j1),(91,.k (.ow 903)),(92,.h j1),(93,.h j1)] [(900,.arr 69 j2 true),(901,.arr 69 j2 true),(902,.arr 3 j1 true),(903,.arr 69 j2 true)]
def Wm:Do (IO×PS):=[((.exit 4),bm [(0,.h j8),(1,.h j1),(3,.k (.v (.func (.func 267) #[] #[]))),(8,.k (.ow 900)),(9,.h j2),(10,.h j1),(17,.k (.ow 901)),(76,.k (.ow 902)),(77,.h j1),(78,.h j1)] [(900,.arr 69 j2 true),(901,.arr 69 j2 true),(902,.arr 3 j1 true)])]
def Wn:Pl:=.z
def yM:Nat->Nat->aX×Int×Int×Int×Int×Int×Int×Int×Int×aX×aX×aX×aX->At (aX×Int×Int×Int×Int×Int×aX×aX×aX):=ga d_ f266 [1,1,1,1,1,1,1,1,1,0,1,0,0,1,1,0,0,1,1,1,0,0] Wl Wm Wn
def Wo:PS:=bm [(0,.h j8),(1,.h j1),(3,.k (.v (.func (.func 267) #[] #[]))),(8,.k (.ow 900)),(9,.h j2),(10,.h j1),(17,.k (.ow 901)),(76,.k (.ow 902)),(77,.h j1),(78,.h j1)] [(900,.arr 69 j2 true),(901,.arr 69 j2 true),(902,.arr 3 j1 true)]
def Wp:Do (IO×PS):=[((.exit 2),bm [(8,.k (.ow 900)),(9,.h j2),(10,.h j1)] [(900,.arr 69 j2 true)])]
def Wq:Pl:=(.n .z (.n .z (.n (.n (.n .z (.n .z (.n .z (.n (.loop Wl Wm Wn) .z)))) .z) .z)))
def DC:Nat->Nat->aX×Int×Int×Int×Int×Int×aX×aX×aX->At A7:=ga d_ f266 [1,1,1,1,1,1,1,1,1,0,1,0,0] Wo Wp Wq
def Wr:PS:=bm [(0,.h j8),(1,.h j1),(3,.k (.v (.func (.func 267) #[] #[]))),(10,.h j1),(13,.k (.ow 900)),(14,.k (.ow 901)),(48,.k (.ow 900)),(49,.h j1),(50,.h j1)] [(900,.arr 3 j1 true),(901,.arr 69 j2 true)]
def Ws:Do (IO×PS):=[((.exit 0),bm [(0,.h j8),(1,.h j1),(3,.k (.v (.func (.func 267) #[] #[]))),(10,.h j1),(13,.k (.ow 900)),(14,.k (.ow 901))] [(900,.arr 3 j1 true),(901,.arr 69 j2 true)])]
def Wt:Pl:=.z
def DD:Nat->Nat->aX×Int×Int×Int×Int×aX×aX->At (aX×Int×Int×aX×aX):=ga d_ f266 [1,1,1,1,1,1,0,1,0,0] Wr Ws Wt
noncomputable def iL:FD:=cQ 266 f266 (.n .z (.n .z (.n .z (.n .z (.n .z (.n .z (.n (.n .z (.n (.loop Wr Ws Wt) .z)) (.n .z (.n .z (.n (.n .z (.n (.loop Wo Wp Wq) .z)) .z)))))))))) [.h j8,.h j1,.ag [.h j1,.h j1,.h gO],.k (.v (.func (.func 267) #[] #[]))] [] (bm [(8,.k (.ow 900)),(9,.h j2),(10,.h j1),(11,.h j1)] [(900,.arr 69 j2 true)]) true true [900]
def ad8:Nat->aX×Int×Int×Int×A1->At (Int×Int×Int×aX):=mF d_ iL
def apC:CO:=cF d_ iL ad8 func266
def IT N m l a all e i g h j v93 c b f d:yM N (m+1) (l,a,all,e,i,g,h,j,v93,c,b,f,d)=cond (v93<j)
 (aW (ba d v93) λp=>
 aW (ba d v93) λk=>
 aW (ba b i) λq=>
 aW (ba b i) λn=>
 aW (K0 N (n,k)) λo=>
 aW (ba c (wrap .i64 ((wrap .i64 (i*a))+v93))) λr=>
 aW (ba c (wrap .i64 ((wrap .i64 (i*a))+v93))) λs=>
 (yM N m (l,a,all,e,i,g,h,j,(wrap .i64 (v93+1)),(List.set c (Int.toNat (wrap .i64 ((wrap .i64 (i*a))+v93))) o),b,f,d)))
 (some (l,a,all,e,g,h,c,b,f)):=ci
def IU N m l d all f g b e h c:DC N (m+1) (l,d,all,f,g,b,e,h,c)=cond (b<g)
 (aW (ba c b) λn=>
 aW (ba c b) λi=>
 aW (FF N (l,i,d)) λk=>
 aW (IQ N k) λj=>
 aW (yM N N (l,d,all,f,i,g,b,(length j.2:Int),0,e,h,c,j.2)) λa=>
 (DC N m (a.1,a.2.1,a.2.2.1,a.2.2.2.1,a.2.2.2.2.1,(wrap .i64 (a.2.2.2.2.2.1+1)),a.2.2.2.2.2.2.1,a.2.2.2.2.2.2.2.1,a.2.2.2.2.2.2.2.2)))
 (some (all,f,e)):=ci
def IV N m l d f g c b a:DD N (m+1) (l,d,f,g,c,b,a)=cond (c<g)
 (aW (ba b c) λj=>
 aW (ba b c) λe=>
 aW (FF N (l,e,d)) λh=>
 aW (IQ N h) λi=>
 aW (ba a e) λk=>
 aW (ba a e) λn=>
 (DD N m (l,d,f,g,(wrap .i64 (c+1)),b,(List.set a (Int.toNat e) i.1))))
 (some (l,d,f,b,a)):=ci
def ad9 N l c p p2 p3:ad8 (N+1) (l,c,p,p2,p3)=aW (KN N c) λg=>
 cond (!g)
  (some ((0:Int),(0:Int),(1:Int),[]))
  (cond ((1000:Int)<(length l:Int))
   (some ((0:Int),(0:Int),(1:Int),[]))
   (aW (KQ N ((length l:Int),c)) λe=>
   aW (kL N (e,p,p2,p3)) λb=>
   cond (!(b.2.1=(0:Int)))
    (some ((0:Int),(0:Int),b.2.1,[]))
    (aW (rK e (4:Nat)) λh=>
    aW (DD N N (l,c,b.1,(length b.2.2:Int),(0:Int),b.2.2,(replicate h (0:Int)))) λa=>
    aW (IQ N a.2.2.2.2) λf=>
    aW (rK (length a.1:Int) (4:Nat)) λi=>
    aW (DC N N (a.1,a.2.1,f.1,a.2.2.1,(length a.2.2.2.1:Int),(0:Int),(replicate i (0:Int)),f.2,a.2.2.2.1)) λd=>
    some (d.1,(wrap .i64 ((2:Int)*d.2.1)),(0:Int),d.2.2)))):=ci
def Cg:Do CO:=[apC]
noncomputable def Ch:FD:=cQ 227 f227 .z [.h j8,.h j1,.ag [.h j1,.h j1,.h gO]] [] (bm [(6,.k (.ow 900)),(7,.h j2),(8,.h j1),(9,.h j1)] [(900,.arr 69 j2 true)]) true true [900]
def FG:Nat->aX×Int×Int×Int×A1->At (Int×Int×Int×aX):=mF Cg Ch
def ad_:CO:=cF Cg Ch FG func227
def Z2 N l b p p2 p3:FG (N+1) (l,b,p,p2,p3)=aW (ad8 N (l,b,p,p2,p3)) λa=>
 some (a.1,a.2.1,a.2.2.1,a.2.2.2):=ci
def vH:Do CO:=[akK]
noncomputable def vJ:FD:=cQ 287 f287 .z [.h j1,.h j1] [] (bm [(4,.h .b)] []) false true []
def aea:Nat->Int×Int->eh:=mF vH vJ
def apD:CO:=cF vH vJ aea func287
def aeb N a bits:aea (N+1) (a,bits)=cond (0<=a)
 (aW (Oa N bits) λb=>
 some (decide (a<b)))
 (some false):=ci
def vK:Do CO:=[apD]
noncomputable def vL:FD:=cQ 268 f268 .z [.h j2,.h j1,.h j1] [] (bm [(6,.h j2)] []) false true []
def OJ:Nat->Int×Int×Int->eQ:=mF vK vL
def apE:CO:=cF vK vL OJ func268
def aec N b a bits:OJ (N+1) (b,a,bits)=aW (aea N (a,bits)) λc=>
 cond (!c)
  (some 0)
  (aW (abC .u32 b (wrap .u64 (wrap .i64 (a*bits)))) λd=>
  aW (RH .u32 1 (wrap .u64 bits)) λe=>
  some (Ez .and .u32 d (wrap .u32 (e - 1)))):=ci
def mN:Do CO:=[apE]
def OK:PS:=bm [(0,.h j8),(2,.h j1),(3,.h j1),(9,.k (.ow 900)),(13,.k (.ow 901)),(63,.h j6),(64,.h j1),(65,.h j1)] [(900,.arr 3 j1 true),(901,.arr 3 j1 true)]
def OL:Do (IO×PS):=[((.exit 4),bm [(13,.k (.ow 900))] [(900,.arr 3 j1 true)])]
def OM:Pl:=.z
def yN:Nat->Nat->aX×Int×Int×aX×Int×Int×aX×aX->nh:=ga mN f228 [1,1,1,1,1,0,1,0,0] OK OL OM
def ON:PS:=bm [(0,.h j8),(1,.h j6),(2,.h j1),(3,.h j1),(9,.k (.ow 900)),(44,.h j1),(45,.h j1)] [(900,.arr 3 j1 true)]
def OO:Do (IO×PS):=[((.exit 2),bm [(0,.h j8),(1,.h j6),(2,.h j1),(3,.h j1),(9,.k (.ow 900))] [(900,.arr 3 j1 true)])]
def OP:Pl:=.z
def yO:Nat->Nat->aX×aX×Int×Int×Int×Int×aX->At (aX×aX×Int×Int×aX):=ga mN f228 [1,1,1,0,1,0,0] ON OO OP
def OQ:PS:=bm [(0,.h j8),(1,.h j6),(2,.h j1),(3,.h j1),(9,.k (.ow 900)),(22,.h j6),(23,.h j1),(24,.h j1)] [(900,.arr 3 j1 true)]
def OS:Do (IO×PS):=[((.exit 0),bm [(0,.h j8),(1,.h j6),(2,.h j1),(3,.h j1),(9,.k (.ow 900))] [(900,.arr 3 j1 true)])]
def OT:Pl:=.z
def yP:Nat->Nat->aX×aX×Int×Int×aX×Int×Int×aX->At (aX×aX×Int×Int×aX):=ga mN f228 [1,1,0,1,0,0] OQ OS OT
noncomputable def FH:FD:=cQ 228 f228 (.n .z (.n .z (.n (.n .z (.n (.loop OQ OS OT) .z)) (.n (.n .z (.n (.loop ON OO OP) .z)) (.n .z (.n (.n .z (.n (.loop OK OL OM) .z)) .z)))))) [.h j8,.h j6,.h j1,.h j1] [] (bm [(8,.k (.ow 900))] [(900,.arr 3 j1 true)]) true true [900]
def K1:Nat->aX×aX×Int×Int->nh:=mF mN FH
def amv:CO:=cF mN FH K1 func228
def FI N m e f bits g h d a c:yN N (m+1) (e,f,bits,g,h,d,a,c)=cond (d<h)
 (aW (ba g d) λj=>
 aW (ba e j) λk=>
 aW (OJ N (k,f,bits)) λb=>
 aW (ba a b) λp=>
 aW (ba a b) λi=>
 aW (ba c i) λq=>
 aW (ba c i) λr=>
 aW (ba a b) λs=>
 aW (ba a b) λl=>
 aW (ba a b) λn=>
 aW (ba a b) λo=>
 (yN N m (e,f,bits,g,h,(wrap .i64 (d+1)),(List.set a (Int.toNat b) (wrap .i64 (l+1))),(List.set c (Int.toNat i) j))))
 (some c):=ci
def FJ N m c d e bits f a b:yO N (m+1) (c,d,e,bits,f,a,b)=cond (a<f)
 (aW (ba b (wrap .i64 (a+1))) λh=>
 aW (ba b (wrap .i64 (a+1))) λg=>
 aW (ba b a) λi=>
 aW (ba b a) λz4=>
 aW (ba b (wrap .i64 (a+1))) λj=>
 aW (ba b (wrap .i64 (a+1))) λk=>
 (yO N m (c,d,e,bits,f,(wrap .i64 (a+1)),(List.set b (Int.toNat (wrap .i64 (a+1))) (wrap .i64 (g+z4))))))
 (some (c,d,e,bits,b)):=ci
def FL N m c f d bits g h e a:yP N (m+1) (c,f,d,bits,g,h,e,a)=cond (e<h)
 (aW (ba g e) λi=>
 aW (ba c i) λj=>
 aW (OJ N (j,d,bits)) λb=>
 aW (ba a (wrap .u32 (b+1))) λl=>
 aW (ba a (wrap .u32 (b+1))) λk=>
 aW (ba a (wrap .u32 (b+1))) λn=>
 aW (ba a (wrap .u32 (b+1))) λo=>
 (yP N m (c,f,d,bits,g,h,(wrap .i64 (e+1)),(List.set a (Int.toNat (wrap .u32 (b+1))) (wrap .i64 (k+1))))))
 (some (c,f,d,bits,a)):=ci
def Z3 N d c e bits:K1 (N+1) (d,c,e,bits)=aW (RH .i64 (1:Int) (wrap .u64 bits)) λf=>
 aW (rK (wrap .i64 (f+(1:Int))) (8:Nat)) λg=>
 aW (yP N N (d,c,e,bits,c,(length c:Int),(0:Int),(replicate g (0:Int)))) λb=>
 aW (yO N N (b.1,b.2.1,b.2.2.1,b.2.2.2.1,(wrap .i64 ((length b.2.2.2.2:Int) - (1:Int))),(0:Int),b.2.2.2.2)) λa=>
 aW (rK (length a.2.1:Int) (8:Nat)) λh=>
 aW (yN N N (a.1,a.2.2.1,a.2.2.2.1,a.2.1,(length a.2.1:Int),(0:Int),a.2.2.2.2,(replicate h (0:Int)))) λi=>
 some i:=ci
def l_:Do CO:=[akK,ad_,amv]
def OU:PS:=bm [(0,.h j8),(1,.h j1),(11,.h j1),(14,.h j1),(16,.k (.ow 900)),(45,.h j1),(46,.h j1)] [(900,.arr 3 j1 true)]
def OV:Do (IO×PS):=[((.exit 2),bm [(11,.h j1),(14,.h j1),(16,.k (.ow 900))] [(900,.arr 3 j1 true)])]
def OW:Pl:=.z
def yQ:Nat->Nat->aX×Int×Int×Int×Int×Int×aX->At A7:=ga l_ f183 [1,1,1,1,1,1,1,0,1,0,0] OU OV OW
def OX:PS:=bm [(0,.h j8),(1,.h j1),(11,.h j1),(14,.h j1),(16,.k (.ow 900)),(36,.h j1),(37,.h j1)] [(900,.arr 3 j1 true)]
def OY:Do (IO×PS):=[((.exit 0),bm [(0,.h j8),(1,.h j1),(11,.h j1),(14,.h j1),(16,.k (.ow 900))] [(900,.arr 3 j1 true)])]
def OZ:Pl:=.z
def yR:Nat->Nat->aX×Int×Int×Int×Int×Int×aX->At (aX×Int×Int×Int×aX):=ga l_ f183 [1,1,1,1,1,1,0,1,0,0] OX OY OZ
noncomputable def yS:FD:=cQ 183 f183 (.n .z (.n .z (.n .z (.n .z (.n .z (.n .z (.n (.n .z (.n (.loop OX OY OZ) .z)) (.n (.n .z (.n (.loop OU OV OW) .z)) .z)))))))) [.h j8,.h j1,.h j1,.ag [.h j1,.h j1,.h gO]] [] (bm [(8,.k (.ow 900)),(9,.h j1),(10,.h j1)] [(900,.arr 3 j1 true)]) true true [900]
def K2:Nat->aX×Int×Int×Int×Int×A1->At A7:=mF l_ yS
def amw:CO:=cF l_ yS K2 func183
def FM N m b bits d e f a c:yQ N (m+1) (b,bits,d,e,f,a,c)=cond (a<f)
 (aW (K1 N (b,c,a,bits)) λg=>
 (yQ N m (b,bits,d,e,f,(wrap .i64 (a+1)),g)))
 (some (d,e,c)):=ci
def FN N m b bits d e f a c:yR N (m+1) (b,bits,d,e,f,a,c)=cond (a<f)
 (aW (eo 8 c [a]) λg=>
 (yR N m (b,bits,d,e,f,(wrap .i64 (a+1)),g)))
 (some (b,bits,d,e,c)):=ci
def Z4 N b bits e p p2 p3:K2 (N+1) (b,bits,e,p,p2,p3)=aW (Oa N bits) λf=>
 cond (f=0)
  (some (0,1,[]))
  (aW (FG N (b,e,p,p2,p3)) λc=>
  cond (!(c.2.2.1=0))
   (some (0,c.2.2.1,[]))
   (aW (yR N N (b,bits,f,c.2.1,(length b:Int),0,[])) λa=>
   aW (yQ N N (a.1,a.2.1,a.2.2.1,a.2.2.2.1,a.2.2.1,0,a.2.2.2.2)) λd=>
   some ((wrap .i64 (d.2.1*d.1)),0,d.2.2))):=ci
def qt:Do CO:=[]
def O0:PS:=bm [(0,.h j6),(1,.h j1),(5,.k (.mp 900)),(9,.h j6),(10,.h j1),(11,.h j1)] [(900,.mp (.int .i64) j1 j1)]
def O1:Do (IO×PS):=[((.exit 0),bm [(0,.h j6),(1,.h j1)] []),(.ret,bm [(4,.h .b)] [])]
def O2:Pl:=.z
def yT:Nat->Nat->aX×Int×aX×Int×Int×A1->At ((aX×Int)⊕(In)):=ga qt f229 [1,1,0,1,0,0] O0 O1 O2
noncomputable def yU:FD:=cQ 229 f229 (.n .z (.n .z (.n (.n .z (.n (.loop O0 O1 O2) .z)) .z))) [.h j6,.h j1] [] (bm [(4,.h .b)] []) false true []
def K3:Nat->aX×Int->eh:=mF qt yU
def amx:CO:=cF qt yU K3 func229
def FO N m d n f e c b:yT N (m+1) (d,n,f,e,c,b)=cond (c<e)
 (aW (ba f c) λa=>
 cond (a<0)
  (some (.inr false))
  (cond (n<=a)
   (some (.inr false))
   (cond (1<(Option.getD (bO j1 (dW j1 b a (wrap .i64 ((Option.getD (bO j1 b a) 0)+1))) a) 0))
    (some (.inr false))
    ((yT N m (d,n,f,e,(wrap .i64 (c+1)),(dW j1 b a (wrap .i64 ((Option.getD (bO j1 b a) 0)+1)))))))))
 (some (.inl (d,n))):=ci
def Z5 N a n:K3 (N+1) (a,n)=aW (yT N N (a,n,a,(length a:Int),0,[])) λc=>
 (match c with
 |.inl b=>some (decide ((length b.1:Int)=b.2))
 |.inr d=>some d):=ci
def mO:Do CO:=[amx]
def Wu:PS:=bm [(0,.h j8),(6,.k (.ow 900)),(14,.h j6),(15,.h j1),(16,.h j1)] [(900,.arr 69 j2 true)]
def Wv:Do (IO×PS):=[((.exit 0),bm [(6,.k (.ow 900))] [(900,.arr 69 j2 true)])]
def Ww:Pl:=.z
def DE:Nat->Nat->aX×aX×Int×Int×aX->nh:=ga mO f184 [1,1,1,0,1,0,0] Wu Wv Ww
noncomputable def s0:FD:=cQ 184 f184 (.n .z (.n .z (.n .z (.n (.n .z (.n (.loop Wu Wv Ww) .z)) .z)))) [.h j8,.h j6] [] (bm [(4,.k (.ow 900)),(5,.h .b)] [(900,.arr 69 j2 true)]) true true [900]
def Wx:Nat->aX×aX->At A9:=mF mO s0
def apF:CO:=cF mO s0 Wx func184
def IW N m b c d a l:DE N (m+1) (b,c,d,a,l)=cond (a<d)
 (aW (ba c a) λe=>
 aW (ba b e) λf=>
 aW (eo 4 l [f]) λg=>
 (DE N m (b,c,d,(wrap .i64 (a+1)),g)))
 (some l):=ci
def aed N b a:Wx (N+1) (b,a)=aW (K3 N (a,(length b:Int))) λc=>
 cond (!c)
  (some (false,[]))
  (aW (DE N N (b,a,(length a:Int),0,[])) λd=>
  some (true,d)):=ci
def mP:Do CO:=[]
def Wy:PS:=bm [(0,.h j8),(3,.k (.ow 900)),(9,.h j8),(10,.h j1),(11,.h j1)] [(900,.arr 4 .b true)]
def Wz:Do (IO×PS):=[((.exit 0),bm [(3,.k (.ow 900))] [(900,.arr 4 .b true)])]
def WB:Pl:=.z
def yV:Nat->Nat->aX×aX×Int×Int×br->At (br):=ga mP f186 [1,1,0,1,0,0] Wy Wz WB
noncomputable def s_:FD:=cQ 186 f186 (.n .z (.n .z (.n (.n .z (.n (.loop Wy Wz WB) .z)) .z))) [.h j8] [] (bm [(2,.k (.ow 900))] [(900,.arr 4 .b true)]) true true [900]
def WC:Nat->aX->At (br):=mF mP s_
def apG:CO:=cF mP s_ WC func186
def IX N m b d c a l:yV N (m+1) (b,d,c,a,l)=cond (a<c)
 (aW (ba d a) λe=>
 cond (a=0)
  (aW (ba l a) λg=>
  aW (ba l a) λh=>
  (yV N m (b,d,c,(wrap .i64 (a+1)),(List.set l (Int.toNat a) true))))
  (aW (ba b (wrap .i64 (a - 1))) λf=>
  aW (ba l a) λi=>
  aW (ba l a) λj=>
  (yV N m (b,d,c,(wrap .i64 (a+1)),(List.set l (Int.toNat a) (!(f=e)))))))
 (some l):=ci
def aee N a:WC (N+1) a=aW (rK (length a:Int) (1:Nat)) λb=>
 aW (yV N N (a,a,(length a:Int),(0:Int),(replicate b false))) λc=>
 some c:=ci
def qu:Do CO:=[]
def O3:PS:=bm [(1,.h .b),(5,.k (.ow 900)),(11,.h j3),(12,.h j1),(13,.h j1)] [(900,.arr 69 j2 true)]
def O4:Do (IO×PS):=[((.exit 0),bm [(5,.k (.ow 900))] [(900,.arr 69 j2 true)])]
def O5:Pl:=.z
def ta:Nat->Nat->In×br×Int×Int×aX->nh:=ga qu f231 [1,1,0,1,0,0] O3 O4 O5
noncomputable def yW:FD:=cQ 231 f231 (.n .z (.n .z (.n (.n .z (.n (.loop O3 O4 O5) .z)) .z))) [.h j3,.h .b] [] (bm [(4,.k (.ow 900))] [(900,.arr 69 j2 true)]) true true [900]
def K4:Nat->br×In->nh:=mF qu yW
def amy:CO:=cF qu yW K4 func231
def FP N m b c d a l:ta N (m+1) (b,c,d,a,l)=cond (a<d)
 (aW (ba c a) λe=>
 cond (!(e==b))
  (aW (ba l a) λf=>
  aW (ba l a) λg=>
  (ta N m (b,c,d,(wrap .i64 (a+1)),(List.set l (Int.toNat a) 1))))
  ((ta N m (b,c,d,(wrap .i64 (a+1)),l))))
 (some l):=ci
def Z6 N a b:K4 (N+1) (a,b)=aW (rK (length a:Int) (4:Nat)) λc=>
 aW (ta N N (b,a,(length a:Int),(0:Int),(replicate c (0:Int)))) λd=>
 some d:=ci
def oE:Do CO:=[ad_,SH]
def WD:PS:=bm [(0,.h j8),(9,.k (.ow 900)),(11,.h j1),(14,.h j1),(15,.k (.ow 901)),(43,.k (.ow 902)),(44,.h j1),(45,.h j1)] [(900,.arr 69 j2 true),(901,.arr 3 j1 true),(902,.arr 3 j1 true)]
def WE:Do (IO×PS):=[((.exit 0),bm [(11,.h j1),(14,.h j1),(15,.k (.ow 900))] [(900,.arr 3 j1 true)])]
def WG:Pl:=.z
def yX:Nat->Nat->aX×Int×Int×Int×Int×aX×aX×aX->At A7:=ga oE f230 [1,1,1,1,1,1,0,1,0,0] WD WE WG
noncomputable def vM:FD:=cQ 230 f230 (.n .z (.n .z (.n .z (.n .z (.n .z (.n .z (.n (.n .z (.n (.loop WD WE WG) .z)) .z))))))) [.h j8,.h j1,.ag [.h j1,.h j1,.h gO]] [] (bm [(6,.k (.ow 900)),(7,.h j1),(8,.h j1)] [(900,.arr 3 j1 true)]) true true [900]
def aef:Nat->aX×Int×Int×Int×A1->At A7:=mF oE vM
def apH:CO:=cF oE vM aef func230
def IY N m d n e f a b l c:yX N (m+1) (d,n,e,f,a,b,l,c)=cond (a<f)
 (aW (ba c a) λj=>
 aW (ba c a) λg=>
 aW (ba d g) λi=>
 cond (i=1)
  (aW (ba b g) λk=>
  aW (ba b g) λh=>
  aW (ba l h) λo=>
  aW (ba l h) λp=>
  (yX N m (d,n,e,f,(wrap .i64 (a+1)),b,(List.set l (Int.toNat h) g),c)))
  ((yX N m (d,n,e,f,(wrap .i64 (a+1)),b,l,c))))
 (some (n,e,l)):=ci
def aeg N c d p p2 p3:aef (N+1) (c,d,p,p2,p3)=aW (FG N (c,d,p,p2,p3)) λa=>
 cond (!(a.2.2.1=(0:Int)))
  (some ((0:Int),a.2.2.1,[]))
  (aW (kL N ((length c:Int),p,p2,p3)) λb=>
  cond (!(b.2.1=(0:Int)))
   (some ((0:Int),b.2.1,[]))
   (aW (rK a.1 (8:Nat)) λe=>
   aW (yX N N (c,a.2.1,b.1,(length b.2.2:Int),(0:Int),a.2.2.2,(replicate e (0:Int)),b.2.2)) λz4=>
   some ((wrap .i64 (z4.1+z4.2.1)),(0:Int),z4.2.2))):=ci
def yY:Do CO:=[amy,apH]
noncomputable def yZ:FD:=cQ 185 f185 .z [.h j3,.h j1,.ag [.h j1,.h j1,.h gO]] [] (bm [(6,.k (.ow 900)),(7,.h j1),(8,.h j1)] [(900,.arr 3 j1 true)]) true true [900]
def K5:Nat->br×Int×Int×Int×A1->At A7:=mF yY yZ
def amz:CO:=cF yY yZ K5 func185
def Z7 N c b p p2 p3:K5 (N+1) (c,b,p,p2,p3)=aW (K4 N (c,false)) λd=>
 aW (aef N (d,b,p,p2,p3)) λa=>
 some (a.1,a.2.1,a.2.2):=ci
def jW:Do CO:=[amw,apF,apG,amz]
def WH:PS:=bm [(9,.h j1),(11,.k (.ow 900)),(13,.k (.ow 901)),(14,.h j1),(15,.k (.ow 902)),(16,.k (.ow 903)),(17,.h j1),(18,.h j1),(19,.h j1),(55,.k (.ow 901)),(56,.h j1),(57,.h j1)] [(900,.arr 69 j2 true),(901,.arr 3 j1 true),(902,.arr 69 j2 true),(903,.arr 3 j1 true)]
def WI:Do (IO×PS):=[(.normal,bm [(9,.h j1),(11,.k (.ow 900)),(13,.k (.ow 901)),(14,.h j1),(15,.k (.ow 902)),(16,.k (.ow 903)),(18,.h j1),(19,.h j1),(55,.k (.ow 901)),(56,.h j1),(57,.h j1)] [(900,.arr 69 j2 true),(901,.arr 3 j1 true),(902,.arr 69 j2 true),(903,.arr 3 j1 true)])]
def WJ:Pl:=.z
def K6:Nat->Nat->Int×Int×Int×Int×Int×Int×Int×aX×aX×aX×aX->At (Int×Int×Int×Int×Int×Int×aX×aX×aX×aX):=jnF jW f143 [1,1,1,1,1,1,1,1,0,1,0,0,1,1,0,0,1,1,0] WH WI WJ
def WK:PS:=bm [(9,.h j1),(11,.k (.ow 900)),(13,.k (.ow 901)),(14,.h j1),(15,.k (.ow 902)),(16,.k (.ow 903)),(55,.k (.ow 901)),(56,.h j1),(57,.h j1)] [(900,.arr 69 j2 true),(901,.arr 3 j1 true),(902,.arr 69 j2 true),(903,.arr 3 j1 true)]
def WL:Do (IO×PS):=[((.exit 0),bm [(9,.h j1),(14,.h j1),(15,.k (.ow 900)),(16,.k (.ow 901))] [(900,.arr 69 j2 true),(901,.arr 3 j1 true)])]
def WM:Pl:=(.n .z (.n .z (.n (.n (.n .z (.n .z (.n (.join WH WI WJ) .z))) .z) .z)))
def DF:Nat->Nat->Int×Int×Int×Int×aX×aX×aX×aX->At (Int×Int×aX×aX):=ga jW f143 [1,1,1,1,1,1,1,1,0,1,0,0] WK WL WM
noncomputable def te:FD:=cQ 143 f143 (.n .z (.n .z (.n .z (.n .z (.n .z (.n .z (.n .z (.n .z (.n (.n .z (.n (.loop WK WL WM) .z)) .z))))))))) [.h j8,.ag [.h j1,.h j1,.h j1,.h j1,.h gO]] [] (bm [(4,.k (.ow 900)),(5,.k (.ow 901)),(6,.h j1),(7,.h j1)] [(900,.arr 69 j2 true),(901,.arr 3 j1 true)]) true true [900,901]
def aeh:Nat->aX×Int×Int×Int×Int×A1->At (Int×Int×aX×aX):=mF jW te
def apI:CO:=cF jW te aeh func143
def Z8 N m n f i b j g h d a c e:K6 N (m+1) (n,f,i,b,j,g,h,d,a,c,e)=cond ((wrap .i64 (i+1))<(length a:Int))
 (aW (ba a (wrap .i64 (i+1))) λl=>
 aW (ba a (wrap .i64 (i+1))) λk=>
 some (n,f,b,k,g,h,d,a,c,e))
 (some (n,f,b,j,g,h,d,a,c,e)):=ci
def IZ N m n g h b e c d f:DF N (m+1) (n,g,h,b,e,c,d,f)=cond (b<h)
 (aW (ba c b) λo=>
 aW (ba c b) λi=>
 aW (K6 N N (n,g,b,i,(length e:Int),h,b,e,c,d,f)) λa=>
 aW (ba a.2.2.2.2.2.2.1 a.2.2.1) λp=>
 aW (ba a.2.2.2.2.2.2.1 a.2.2.1) λj=>
 aW (eo 4 a.2.2.2.2.2.2.2.2.1 [j]) λk=>
 aW (eo 8 a.2.2.2.2.2.2.2.2.2 [(wrap .i64 (a.2.2.2.1 - a.2.2.1))]) λl=>
 (DF N m (a.1,a.2.1,a.2.2.2.2.1,(wrap .i64 (a.2.2.2.2.2.1+1)),a.2.2.2.2.2.2.1,a.2.2.2.2.2.2.2.1,k,l)))
 (some (n,g,d,f)):=ci
def aei N c w d e f g:aeh (N+1) (c,w,d,e,f,g)=aW (K2 N (c,w,d,e,f,g)) λb=>
 cond (!(b.2.1=0))
  (some (0,b.2.1,[],[]))
  (aW (Wx N (c,b.2.2)) λh=>
  aW (WC N h.2) λi=>
  aW (K5 N (i,d,e,f,g)) λa=>
  cond (!(a.2.1=0))
   (some (0,a.2.1,[],[]))
   (aW (DF N N (b.1,a.1,(length a.2.2:Int),0,h.2,a.2.2,[],[])) λz5=>
   some ((wrap .i64 (z5.1+z5.2.1)),0,z5.2.2.1,z5.2.2.2))):=ci
def y0:Do CO:=[apI]
noncomputable def y5:FD:=cQ 73 f73 .z [.h j8,.ag [.h j1,.h j1,.h j1,.h j1,.h gO]] [] (bm [(4,.k (.ow 900)),(5,.h j1),(6,.h j1)] [(900,.arr 69 j2 true)]) true true [900]
def K7:Nat->aX×Int×Int×Int×Int×A1->At A7:=mF y0 y5
def amA:CO:=cF y0 y5 K7 func73
def Z9 N b w c d e f:K7 (N+1) (b,w,c,d,e,f)=aW (aeh N (b,w,c,d,e,f)) λa=>
 some (a.1,a.2.1,a.2.2.1):=ci
def y6:Do CO:=[]
noncomputable def y7:FD:=cQ 74 f74 .z [.h j2] [] (bm [(2,.k (.pt 900 0))] [(900,.box 52 [.h j1,.h j1])]) false true []
def K8:Nat->Int->BD:=mF y6 y7
def amB:CO:=cF y6 y7 K8 func74
def Z_ N a:K8 (N+1) a=some ((wrap .i64 (Int.fdiv a ((2:Int)^(min (Int.toNat 16) 32)))),(wrap .i64 (wrap .u16 a))):=ci
def kU:Do CO:=[amk,amA,amB]
def WN:PS:=bm [(13,.h j1),(14,.h j1),(15,.k (.ow 901)),(48,.k (.ow 900)),(49,.h j1),(50,.h j1)] [(901,.arr 52 j5 true),(900,.arr 69 j2 true)]
def WO:Do (IO×PS):=[((.exit 2),bm [(13,.h j1),(14,.h j1),(15,.k (.ow 900))] [(900,.arr 52 j5 true)])]
def WQ:Pl:=.z
def DG:Nat->Nat->Int×Int×Int×Int×A1×aX->At (Int×Int×A1):=ga kU f29 [1,1,1,1,1,0,1,0,0] WN WO WQ
def WS:PS:=bm [(3,.k (.pt 900 0)),(7,.k (.ow 901)),(18,.h gO),(19,.h j1),(20,.h j1)] [(900,.box 38 [.h j1,.h j1,.h j1,.h j1,.h gO]),(901,.arr 69 j2 true)]
def WT:Do (IO×PS):=[((.exit 0),bm [(3,.k (.pt 900 0)),(7,.k (.ow 901))] [(900,.box 38 [.h j1,.h j1,.h j1,.h j1,.h gO]),(901,.arr 69 j2 true)]),(.ret,bm [(4,.k .nil),(5,.h j1),(6,.h j1)] [])]
def WU:Pl:=.z
def y8:Nat->Nat->A1×Int×Int×Int×Int×Int×Int×A1×aX->At ((Int×Int×Int×Int×A1×aX)⊕(Int×Int)):=ga kU f29 [1,1,0,1,0,0] WS WT WU
noncomputable def vN:FD:=cQ 29 f29 (.n .z (.n .z (.n (.n .z (.n (.loop WS WT WU) .z)) (.n .z (.n .z (.n (.n .z (.n (.loop WN WO WQ) .z)) .z)))))) [.h gO,.ag [.h j1,.h j1,.h j1,.h j1,.h gO]] [] (bm [(4,.k (.ow 900)),(5,.h j1),(6,.h j1)] [(900,.arr 52 j5 true)]) true true [900]
def I0:Nat->A1×Int×Int×Int×Int×A1->At (Int×Int×A1):=mF kU vN
def apJ:CO:=cF kU vN I0 func29
def I1 N m n e d a c b:DG N (m+1) (n,e,d,a,c,b)=cond (a<d)
 (aW (ba b a) λi=>
 aW (ba b a) λg=>
 aW (K8 N g) λf=>
 aW (eo 16 c [(f.1,f.2)]) λh=>
 (DG N m (n,e,d,(wrap .i64 (a+1)),h,b)))
 (some (n,e,c)):=ci
def I2 N m c d a w e f g h b:y8 N (m+1) (c,d,a,w,e,f,g,h,b)=cond (a<d)
 (aW (ba c a) λi=>
 aW (KM N (i.1,i.2)) λj=>
 cond (!j.2)
  (some (.inr (0,10)))
  (cond (!(i.1=i.2))
   (aW (eo 4 b [j.1]) λk=>
   (y8 N m (c,d,(wrap .i64 (a+1)),w,e,f,g,h,k)))
   ((y8 N m (c,d,(wrap .i64 (a+1)),w,e,f,g,h,b)))))
 (some (.inl (w,e,f,g,h,b))):=ci
def aej N l w d e f g:I0 (N+1) (l,w,d,e,f,g)=aW (y8 N N (l,(length l:Int),0,w,d,e,f,g,[])) λi=>
 (match i with
 |.inl a=>aW (K7 N (a.2.2.2.2.2,a.1,a.2.1,a.2.2.1,a.2.2.2.1,a.2.2.2.2.1)) λb=>
  aW (DG N N (b.1,b.2.1,(length b.2.2:Int),0,[],b.2.2)) λc=>
  some (c.1,c.2.1,c.2.2)
 |.inr h=>some (h.1,h.2,[])):=ci
def oG:Do CO:=[vw]
def WW:PS:=bm [(3,.k (.ow 900)),(10,.h iG),(11,.h j1),(12,.h j1)] [(900,.arr 52 j5 true)]
def WX:Do (IO×PS):=[((.exit 0),bm [(3,.k (.ow 900))] [(900,.arr 52 j5 true)])]
def WY:Pl:=.z
def DH:Nat->Nat->fB×Int×Int×A1->At (A1):=ga oG f25 [1,1,1,0,1,0,0] WW WX WY
noncomputable def vO:FD:=cQ 25 f25 (.n .z (.n .z (.n .z (.n (.n .z (.n (.loop WW WX WY) .z)) .z)))) [.ag [.h j1,.h iG]] [] (bm [(2,.k (.ow 900))] [(900,.arr 52 j5 true)]) true true [900]
def I3:Nat->Int×fB->At (A1):=mF oG vO
def aek:CO:=cF oG vO I3 func25
def I4 N m b c a l:DH N (m+1) (b,c,a,l)=cond (a<c)
 (aW (ba b a) λd=>
 aW (eo 16 l [(d.1,d.2.1)]) λe=>
 (DH N m (b,c,(wrap .i64 (a+1)),e)))
 (some l):=ci
def ael N g a:I3 (N+1) (g,a)=aW (nN N (g,a)) λb=>
 cond (!b)
  (some [])
  (aW (DH N N (a,(length a:Int),0,[])) λc=>
  some c):=ci
def nP:Do CO:=[]
noncomputable def nQ:FD:=cQ 151 f151 .z [.ag [.h j1,.h j1],.k (.pt 4294967296 0)] [(4294967296,.box 238 [.k (.mp 4294967297)]),(4294967297,.mp (.tuple ⟨[]⟩) j5 j1)] (bm [(3,.h .b)] [(4294967297,.mp (.tuple ⟨[]⟩) j5 j1),(4294967296,.box 238 [.k (.mp 4294967297)])]) true true [4294967297,4294967296]
def O6:Nat->Int×Int×A5->At (In×A5):=mF nP nQ
def akO:CO:=cF nP nQ O6 func151
def aem N x a h:O6 (N+1) (x,a,h)=some ((decide ((Option.getD (bO j5 h (x,a)) 0)=0)),h):=ci
def bV:Do CO:=[akO]
def aen:PS:=bm [(0,.h gO),(1,.cl (.func 151) [] [.k (.pt 4294967296 0)]),(7,.h j1),(8,.h j1)] [(4294967296,.box 238 [.k (.mp 4294967297)]),(4294967297,.mp (.tuple ⟨[]⟩) j5 j1)]
def aeo:Do (IO×PS):=[((.exit 0),bm [] [(4294967296,.box 238 [.k (.mp 4294967297)]),(4294967297,.mp (.tuple ⟨[]⟩) j5 j1)]),(.ret,bm [(4,.h j1)] [(4294967296,.box 238 [.k (.mp 4294967297)]),(4294967297,.mp (.tuple ⟨[]⟩) j5 j1)])]
def aep:Pl:=.z
def K9:Nat->Nat->A1×Int×Int×A5->At ((A5)⊕(Int×A5)):=ga bV f173 [1,0,1,0,0] aen aeo aep
noncomputable def c_:FD:=cQ 173 f173 (.n .z (.n (.n .z (.n (.loop aen aeo aep) .z)) .z)) [.h gO,.cl (.func 151) [] [.k (.pt 4294967296 0)]] [(4294967296,.box 238 [.k (.mp 4294967297)]),(4294967297,.mp (.tuple ⟨[]⟩) j5 j1)] (bm [(4,.h j1)] [(4294967296,.box 238 [.k (.mp 4294967297)]),(4294967297,.mp (.tuple ⟨[]⟩) j5 j1)]) true true [4294967296,4294967297]
def amC:Nat->A1×A5->At (Int×A5):=mF bV c_
def asp:CO:=cF bV c_ amC func173
def O7 N m s c a b:K9 N (m+1) (s,c,a,b)=cond (a<c)
 (aW (ba s a) λe=>
 aW (O6 N (e.1,e.2,b)) λd=>
 cond d.1
  (some (.inr (a,d.2)))
  ((K9 N m (s,c,(wrap .i64 (a+1)),d.2))))
 (some (.inl b)):=ci
def aiI N s h:amC (N+1) (s,h)=aW (K9 N N (s,(length s:Int),0,h)) λb=>
 (match b with
 |.inl c=>some ((-1),c)
 |.inr a=>some (a.1,a.2)):=ci
def bT:Do CO:=[asp,akO]
def aeq:PS:=bm [(0,.k (.ow 4294967296)),(1,.cl (.func 151) [] [.k (.pt 4294967297 0)]),(5,.h j1),(6,.h j1)] [(4294967296,.arr 52 j5 true),(4294967297,.box 238 [.k (.mp 4294967298)]),(4294967298,.mp (.tuple ⟨[]⟩) j5 j1)]
def aer:Do (IO×PS):=[((.exit 0),bm [(0,.k (.ow 4294967296)),(5,.h j1)] [(4294967296,.arr 52 j5 true),(4294967297,.box 238 [.k (.mp 4294967298)]),(4294967298,.mp (.tuple ⟨[]⟩) j5 j1)])]
def aes:Pl:=.z
def FQ:Nat->Nat->Int×Int×A1×A5->At (Int×A1×A5):=ga bT f150 [1,1,1,0,1,0,0] aeq aer aes
noncomputable def cT:FD:=cQ 150 f150 (.n .z (.n .z (.n .z (.n (.n .z (.n (.loop aeq aer aes) .z)) .z)))) [.k (.ow 4294967296),.cl (.func 151) [] [.k (.pt 4294967297 0)]] [(4294967296,.arr 52 j5 true),(4294967297,.box 238 [.k (.mp 4294967298)]),(4294967298,.mp (.tuple ⟨[]⟩) j5 j1)] (bm [(4,.k (.ow 900))] [(900,.arr 52 j5 true),(4294967298,.mp (.tuple ⟨[]⟩) j5 j1),(4294967297,.box 238 [.k (.mp 4294967298)])]) true true [900,4294967298,4294967297]
def aiJ:Nat->A1×A5->At (A1×A5):=mF bT cT
def asq:CO:=cF bT cT aiJ func150
def aet N m i j s b:FQ N (m+1) (i,j,s,b)=cond (j<(length s:Int))
 (aW (ba s j) λd=>
 aW (ba s j) λa=>
 aW (O6 N (a.1,a.2,b)) λc=>
 cond (!c.1)
  (aW (ba s i) λe=>
  aW (ba s i) λf=>
  (FQ N m ((wrap .i64 (i+1)),(wrap .i64 (j+1)),(List.set s (Int.toNat i) (a.1,a.2)),c.2)))
  ((FQ N m (i,(wrap .i64 (j+1)),s,c.2))))
 (some (i,s,b)):=ci
def aiK N s h:aiJ (N+1) (s,h)=aW (amC N (s,h)) λb=>
 cond (b.1=(-1))
  (some (s,b.2))
  (aW (FQ N N (b.1,(wrap .i64 (b.1+1)),s,b.2)) λa=>
  cond (((true && true) && true) && (!(mD a.2.1)))
   (aW (iR a.2.1 a.1 (length a.2.1:Int)) λe=>
   aW (Y8 a.2.1 a.1 ((length a.2.1:Int) - a.1) (0,0)) λc=>
   aW (iR c 0 a.1) λd=>
   some (d,a.2.2))
   none):=ci
def qv:Do CO:=[vw,aek,asq]
def O8:PS:=bm [(2,.k (.pt 900 0)),(6,.k (.pt 901 0)),(13,.h gO),(14,.h j1),(15,.h j1)] [(900,.box 26 [.h j1,.h iG]),(901,.box 238 [.k (.mp 902)]),(902,.mp (.tuple ⟨[]⟩) j5 j1)]
def O9:Do (IO×PS):=[((.exit 0),bm [(2,.k (.pt 900 0)),(6,.k (.pt 901 0))] [(900,.box 26 [.h j1,.h iG]),(901,.box 238 [.k (.mp 902)]),(902,.mp (.tuple ⟨[]⟩) j5 j1)]),(.ret,bm [(4,.k .nil),(5,.h j1)] [])]
def O_:Pl:=.z
def y9:Nat->Nat->A1×Int×Int×Int×fB×A5->At ((Int×fB×A5)⊕(Int)):=ga qv f82 [1,1,1,0,1,0,0] O8 O9 O_
noncomputable def y_:FD:=cQ 82 f82 (.n .z (.n .z (.n .z (.n (.n .z (.n (.loop O8 O9 O_) .z)) .z)))) [.ag [.h j1,.h iG],.h gO] [] (bm [(4,.k (.ow 900)),(5,.h j1)] [(900,.arr 52 j5 true)]) true true [900]
def AY:Nat->Int×fB×A1->At (Int×A1):=mF qv y_
def aeu:CO:=cF qv y_ AY func82
def FR N m e f c g d b:y9 N (m+1) (e,f,c,g,d,b)=cond (c<f)
 (aW (ba e c) λa=>
 cond ((if(a.2<a.1)then a.2 else a.1)<0)
  (some (.inr 10))
  (cond (g<=(if(a.2>a.1)then a.2 else a.1))
   (some (.inr 10))
   (aW (RX (dW j5 b ((if(a.2<a.1)then a.2 else a.1),(if(a.2>a.1)then a.2 else a.1)) (Option.getD (bO j5 b ((if(a.2<a.1)then a.2 else a.1),(if(a.2>a.1)then a.2 else a.1))) 0)) (((Kf j5 b ((if(a.2<a.1)then a.2 else a.1),(if(a.2>a.1)then a.2 else a.1))):Nat):Int) (wrap .i64 ((Option.getD (bO j5 b ((if(a.2<a.1)then a.2 else a.1),(if(a.2>a.1)then a.2 else a.1))) 0)+1))) λh=>
   (y9 N m (e,f,(wrap .i64 (c+1)),g,d,h)))))
 (some (.inl (g,d,b))):=ci
def aaa N g a l:AY (N+1) (g,a,l)=aW (nN N (g,a)) λc=>
 cond (!c)
  (some (1,[]))
  (aW (y9 N N (l,(length l:Int),0,g,a,[])) λd=>
  (match d with
  |.inl b=>aW (I3 N (b.1,b.2.1)) λe=>
   aW (aiJ N (e,b.2.2)) λf=>
   some (0,f.1)
  |.inr h=>some (h,[]))):=ci
def qw:Do CO:=[vw,aek,⟨dF,eU⟩]
def Pa:PS:=bm [(2,.k (.pt 900 0)),(6,.k (.mp 901)),(9,.k (.ow 902)),(26,.h gO),(27,.h j1),(28,.h j1)] [(900,.box 26 [.h j1,.h iG]),(901,.mp (.tuple ⟨[]⟩) j5 j1),(902,.arr 52 j5 true)]
def Pb:Do (IO×PS):=[((.exit 2),bm [(9,.k (.ow 900))] [(900,.arr 52 j5 true)]),(.ret,bm [(4,.k .nil),(5,.h j1)] [])]
def Pc:Pl:=.z
def pv:Nat->Nat->A1×Int×Int×Int×fB×A5×A1->At ((A1)⊕(Int)):=ga qw f75 [1,1,1,1,1,0,1,0,0] Pa Pb Pc
def Pd:PS:=bm [(1,.h gO),(2,.k (.pt 900 0)),(6,.k (.mp 901)),(17,.k (.ow 902)),(18,.h j1),(19,.h j1)] [(900,.box 26 [.h j1,.h iG]),(901,.mp (.tuple ⟨[]⟩) j5 j1),(902,.arr 52 j5 true)]
def Pe:Do (IO×PS):=[((.exit 0),bm [(1,.h gO),(2,.k (.pt 900 0)),(6,.k (.mp 901))] [(900,.box 26 [.h j1,.h iG]),(901,.mp (.tuple ⟨[]⟩) j5 j1)])]
def Pf:Pl:=.z
def za:Nat->Nat->A1×Int×Int×Int×fB×A5×A1->At (A1×Int×fB×A5):=ga qw f75 [1,1,1,0,1,0,0] Pd Pe Pf
noncomputable def FT:FD:=cQ 75 f75 (.n .z (.n .z (.n .z (.n (.n .z (.n (.loop Pd Pe Pf) .z)) (.n .z (.n (.n .z (.n (.loop Pa Pb Pc) .z)) .z)))))) [.ag [.h j1,.h iG],.h gO] [] (bm [(4,.k (.ow 900)),(5,.h j1)] [(900,.arr 52 j5 true)]) true true [900]
def AZ:Nat->Int×fB×A1->At (Int×A1):=mF qw FT
def aev:CO:=cF qw FT AZ func75
def FU N m e f b g h d c:pv N (m+1) (e,f,b,g,h,d,c)=cond (b<f)
 (aW (ba e b) λa=>
 cond ((if(a.2<a.1)then a.2 else a.1)<0)
  (some (.inr 10))
  (cond (g<=(if(a.2>a.1)then a.2 else a.1))
   (some (.inr 10))
   (cond ((if(a.2<a.1)then a.2 else a.1)<(if(a.2>a.1)then a.2 else a.1))
    (cond ((Option.getD (bO j5 d ((if(a.2<a.1)then a.2 else a.1),(if(a.2>a.1)then a.2 else a.1))) 0)=0)
     (aW (eo 16 c [((if(a.2<a.1)then a.2 else a.1),(if(a.2>a.1)then a.2 else a.1))]) λi=>
     (pv N m (e,f,(wrap .i64 (b+1)),g,h,(dW j5 d ((if(a.2<a.1)then a.2 else a.1),(if(a.2>a.1)then a.2 else a.1)) 1),i)))
     ((pv N m (e,f,(wrap .i64 (b+1)),g,h,d,c))))
    ((pv N m (e,f,(wrap .i64 (b+1)),g,h,d,c))))))
 (some (.inl c)):=ci
def FV N m l e a g c d b:za N (m+1) (l,e,a,g,c,d,b)=cond (a<e)
 (aW (ba b a) λh=>
 aW (ba b a) λf=>
 (za N m (l,e,(wrap .i64 (a+1)),g,c,(dW j5 d (f.1,f.2) 1),b)))
 (some (l,g,c,d)):=ci
def aab N g b l:AZ (N+1) (g,b,l)=aW (nN N (g,b)) λd=>
 cond (!d)
  (some (1,[]))
  (aW (I3 N (g,b)) λc=>
  aW (za N N (l,(length c:Int),0,g,b,[],c)) λa=>
  aW (pv N N (a.1,(length a.1:Int),0,a.2.1,a.2.2.1,a.2.2.2,[])) λe=>
  (match e with
  |.inl h=>aW (cq N h) λf=>
   some (0,f)
  |.inr i=>some (i,[]))):=ci
def zb:Do CO:=[vw]
noncomputable def zc:FD:=cQ 89 f89 .z [.ag [.h j1,.h iG]] [] (bm [(2,.h j1)] []) false true []
def K_:Nat->Int×fB->eQ:=mF zb zc
def amD:CO:=cF zb zc K_ func89
def aac N g a:K_ (N+1) (g,a)=aW (nN N (g,a)) λb=>
 cond (!b)
  (some 0)
  (some (wrap .i64 (400 - (length a:Int)))):=ci
def vP:Do CO:=[vw,ami,apj,apm,apJ,aeu,aev,amD]
noncomputable def vQ:FD:=cQ 33 f33 .z [.ag [.h j1,.h iG],.ag [.h j1,.h gO,.h AQ],.ag [.h j1,.h j1,.h j1,.h j1,.h gO]] [] (bm [(6,.k (.pt 900 0)),(7,.h j1),(8,.h j1)] [(900,.box 56 [.h j1,.h gO,.h AQ])]) false false []
def ru:Nat->Int×fB×Int×A1×(Do A4)×Int×Int×Int×Int×A1->At (Int×Int×Int×A1×(Do A4)):=mF vP vQ
def apK:CO:=cF vP vQ ru func33
def Pg N g e x c d w h i j k:ru (N+1) (g,e,x,c,d,w,h,i,j,k)=aW (nN N (g,e)) λm=>
 cond (!m)
  (some (0,1,0,[],[]))
  (aW (KL N (x,c,d)) λn=>
  cond (!n)
   (some (0,1,0,[],[]))
   (aW (VU N (x,c,d)) λo=>
   aW (VY N (o,g,e)) λa=>
   cond a.1
    (some (0,10,0,[],[]))
    (cond (x=3)
     (some (0,0,x,[],d))
     (aW (I0 N (c,w,h,i,j,k)) λb=>
     cond (!(b.2.1=0))
      (some (0,b.2.1,0,[],[]))
      (cond (x=2)
       (aW (AY N (a.2.1,a.2.2,b.2.2)) λl=>
       some (b.1,l.1,x,l.2,[]))
       (aW (AZ N (a.2.1,a.2.2,b.2.2)) λf=>
       aW (K_ N (a.2.1,a.2.2)) λp=>
       cond (p<(length f.2:Int))
        (some (0,2,0,[],[]))
        (some (b.1,f.1,x,f.2,[])))))))):=ci
def Ci:Do CO:=[]
noncomputable def Cj:FD:=cQ 76 f76 .z [.ag [.h j1,.h iG],.h j1] [] (bm [(4,.h .b)] []) false true []
def SI:Nat->Int×fB×Int->eh:=mF Ci Cj
def amE:CO:=cF Ci Cj SI func76
def aad N g a more:SI (N+1) (g,a,more)=some (decide ((wrap .i64 ((length a:Int)+more))<=400)):=ci
def tf:Do CO:=[vw,akF,ads]
noncomputable def tg:FD:=cQ 22 f22 .z [.ag [.h j1,.h iG],.h j1] [] (bm [(4,.k (.pt 900 0)),(5,.h j1)] [(900,.box 83 [.h j1,.h fJ])]) false false []
def Ph:Nat->Int×fB×Int->At A12:=mF tf tg
def akP:CO:=cF tf tg Ph func22
def aew N g a c:Ph (N+1) (g,a,c)=aW (nN N (g,a)) λd=>
 cond (!d)
  (some (1,0,[]))
  (aW (NG N (g,a,c)) λe=>
  aW (Fo N (g,e)) λb=>
  some (b.1,b.2.1,b.2.2)):=ci
def qx:Do CO:=[]
def Pj:PS:=bm [(0,.h j1),(13,.h gO),(14,.h j1),(15,.h j1)] []
def Pk:Do (IO×PS):=[((.exit 0),bm [] []),(.ret,bm [(4,.h j1)] [])]
def Pm:Pl:=.z
def zd:Nat->Nat->Int×A1×Int×Int->At ((Unit)⊕(Int)):=ga qx f64 [1,1,0,1,0,0] Pj Pk Pm
noncomputable def zf:FD:=cQ 64 f64 (.n .z (.n .z (.n (.n .z (.n (.loop Pj Pk Pm) .z)) .z))) [.h j1,.h gO] [] (bm [(4,.h j1)] []) false true []
def FW:Nat->Int×A1->eQ:=mF qx zf
def aex:CO:=cF qx zf FW func64
def SJ N m n c d b:zd N (m+1) (n,c,d,b)=cond (b<d)
 (aW (ba c b) λa=>
 cond ((if(a.2<a.1)then a.2 else a.1)<0)
  (some (.inr 10))
  (cond (n<=(if(a.2>a.1)then a.2 else a.1))
   (some (.inr 10))
   ((zd N m (n,c,d,(wrap .i64 (b+1)))))))
 (some (.inl ())):=ci
def aae N n l:FW (N+1) (n,l)=cond (n<1)
 (some 1)
 (cond (64<n)
  (some 1)
  (aW (zd N N (n,l,(length l:Int),0)) λa=>
  (match a with
  |.inl c=>some 0
  |.inr b=>some b))):=ci
def I5:Do CO:=[KA,KE,adm]
noncomputable def I6:FD:=cQ 63 f63 .z [.ag [.h j1,.h fJ],.h j1] [] (bm [(4,.h j1)] []) false true []
def FX:Nat->Int×A3×Int->eQ:=mF I5 I6
def aey:CO:=cF I5 I6 FX func63
def aaf N f a v:FX (N+1) (f,a,v)=aW (oz N (f,v)) λb=>
 cond (!b)
  (some (-1))
  (aW (sG N (f,a)) λc=>
  cond (!c)
   (some (-1))
   (aW (AS N (f,a,v)) λd=>
   some d)):=ci
def th:Do CO:=[adb,aey]
noncomputable def ti:FD:=cQ 188 f188 .z [.ag [.h j1,.h fJ],.h j1] [] (bm [(4,.h j1),(5,.h j1)] []) false true []
def Pn:Nat->Int×A3×Int->BD:=mF th ti
def apL:CO:=cF th ti Pn func188
def aez N f a v:Pn (N+1) (f,a,v)=aW (Iu N (f,a,[v])) λb=>
 cond (!(b=0))
  (some (0,b))
  (aW (FX N (f,a,v)) λc=>
  aW (ba a c) λd=>
  aW (ba d 0) λe=>
  some (e,0)):=ci
def lP:Do CO:=[KE,aex,apL]
def WZ:PS:=bm [(2,.k (.pt 900 0)),(7,.k (.ow 901)),(24,.h gO),(25,.h j1),(26,.h j1)] [(900,.box 83 [.h j1,.h fJ]),(901,.arr 52 j5 true)]
def W0:Do (IO×PS):=[((.exit 0),bm [(7,.k (.ow 900))] [(900,.arr 52 j5 true)])]
def W1:Pl:=.z
def DI:Nat->Nat->A1×Int×Int×Int×A3×A1->At (A1):=ga lP f145 [1,1,1,1,0,1,0,0] WZ W0 W1
noncomputable def rv:FD:=cQ 145 f145 (.n .z (.n .z (.n .z (.n .z (.n (.n .z (.n (.loop WZ W0 W1) .z)) .z))))) [.ag [.h j1,.h fJ],.h gO] [] (bm [(4,.k (.ow 900)),(5,.h j1)] [(900,.arr 52 j5 true)]) true true [900]
def W2:Nat->Int×A3×A1->At (Int×A1):=mF lP rv
def apM:CO:=cF lP rv W2 func145
def aag N m d e b f a c:DI N (m+1) (d,e,b,f,a,c)=cond (b<e)
 (aW (ba d b) λg=>
 aW (Pn N (f,a,g.1)) λh=>
 aW (Pn N (f,a,g.2)) λi=>
 aW (eo 16 c [(h.1,i.1)]) λj=>
 (DI N m (d,e,(wrap .i64 (b+1)),f,a,j)))
 (some c):=ci
def aeA N f a l:W2 (N+1) (f,a,l)=aW (sG N (f,a)) λc=>
 cond (!c)
  (some (1,[]))
  (aW (FW N (f,l)) λb=>
  cond (!(b=0))
   (some (b,[]))
   (aW (DI N N (l,(length l:Int),0,f,a,[])) λd=>
   some (0,d))):=ci
def qz:Do CO:=[]
def Po:PS:=bm [(3,.k (.ow 900)),(8,.h j1),(9,.h j1)] [(900,.arr 3 j1 true)]
def Pp:Do (IO×PS):=[((.exit 0),bm [(3,.k (.ow 900))] [(900,.arr 3 j1 true)])]
def Pq:Pl:=.z
def zg:Nat->Nat->Int×Int×aX->nh:=ga qz f65 [1,1,0,1,0,0] Po Pp Pq
noncomputable def zh:FD:=cQ 65 f65 (.n .z (.n .z (.n (.n .z (.n (.loop Po Pp Pq) .z)) .z))) [.h j1] [] (bm [(2,.k (.ow 900))] [(900,.arr 3 j1 true)]) true true [900]
def FY:Nat->Int->nh:=mF qz zh
def aeB:CO:=cF qz zh FY func65
def SK N m b a s:zg N (m+1) (b,a,s)=cond (a<b)
 (aW (ba s a) λc=>
 aW (ba s a) λd=>
 (zg N m (b,(wrap .i64 (a+1)),(List.set s (Int.toNat a) a))))
 (some s):=ci
def aah N n:FY (N+1) n=aW (rK n (8:Nat)) λa=>
 aW (zg N N ((length (replicate a (0:Int)):Int),(0:Int),(replicate a (0:Int)))) λb=>
 some b:=ci
def il:Do CO:=[]
def W3:PS:=bm [(0,.k (.ow 4294967296)),(1,.h j1)] [(4294967296,.arr 3 j1 true)]
def W4:Do (IO×PS):=[((.exit 0),bm [(1,.h j1)] [(4294967296,.arr 3 j1 true)])]
def W5:Pl:=.z
def DJ:Nat->Nat->Int×aX->At A6:=ga il f67 [1,0,0,0] W3 W4 W5
noncomputable def lh:FD:=cQ 67 f67 (.n .z (.n (.n (.loop W3 W4 W5) .z) .z)) [.k (.ow 4294967296),.h j1] [(4294967296,.arr 3 j1 true)] (bm [(4,.h j1)] [(4294967296,.arr 3 j1 true)]) true true [4294967296]
def I7:Nat->Int×aX->At A6:=mF il lh
def akQ:CO:=cF il lh I7 func67
def aai N m v s:DJ N (m+1) (v,s)=aW (ba s v) λe=>
 aW (ba s v) λd=>
 cond (!(d=v))
  (aW (ba s v) λf=>
  aW (ba s v) λb=>
  aW (ba s b) λg=>
  aW (ba s b) λa=>
  aW (ba s v) λh=>
  aW (ba s v) λi=>
  aW (ba (List.set s (Int.toNat v) a) v) λj=>
  aW (ba (List.set s (Int.toNat v) a) v) λc=>
  (DJ N m (c,(List.set s (Int.toNat v) a))))
  (some (v,s)):=ci
def aeC N v s:I7 (N+1) (v,s)=aW (DJ N N (v,s)) λa=>
 some (a.1,a.2):=ci
def lW:Do CO:=[akQ]
noncomputable def lX:FD:=cQ 136 f136 .z [.k (.ow 4294967296),.h j1,.h j1] [(4294967296,.arr 3 j1 true)] (bm [(6,.h .b)] [(4294967296,.arr 3 j1 true)]) true true [4294967296]
def W6:Nat->Int×Int×aX->At A9:=mF lW lX
def apN:CO:=cF lW lX W6 func136
def aeD N u v s:W6 (N+1) (u,v,s)=aW (I7 N (u,s)) λb=>
 aW (I7 N (v,b.2)) λa=>
 aW (ba a.2 (if(a.1>b.1)then a.1 else b.1)) λc=>
 aW (ba a.2 (if(a.1>b.1)then a.1 else b.1)) λd=>
 some ((!(b.1=a.1)),(List.set a.2 (Int.toNat (if(a.1>b.1)then a.1 else b.1)) (if(a.1<b.1)then a.1 else b.1))):=ci
def eB:Do CO:=[apN]
def W7:PS:=bm [(1,.cl (.func 136) [.k (.ow 4294967296)] []),(5,.k (.ow 900)),(8,.h gO),(9,.h j1),(10,.h j1)] [(4294967296,.arr 3 j1 true),(900,.arr 4 .b true)]
def W8:Do (IO×PS):=[((.exit 0),bm [(5,.k (.ow 900))] [(900,.arr 4 .b true),(4294967296,.arr 3 j1 true)])]
def W9:Pl:=.z
def DK:Nat->Nat->A1×Int×Int×aX×br->At (br×aX):=ga eB f135 [1,1,0,1,0,0] W7 W8 W9
noncomputable def fF:FD:=cQ 135 f135 (.n .z (.n .z (.n (.n .z (.n (.loop W7 W8 W9) .z)) .z))) [.h gO,.cl (.func 136) [.k (.ow 4294967296)] []] [(4294967296,.arr 3 j1 true)] (bm [(4,.k (.ow 900))] [(900,.arr 4 .b true),(4294967296,.arr 3 j1 true)]) true true [900,4294967296]
def aeE:Nat->A1×aX->At (br×aX):=mF eB fF
def apO:CO:=cF eB fF aeE func135
def aaj N m d e a b c:DK N (m+1) (d,e,a,b,c)=cond (a<e)
 (aW (ba d a) λf=>
 aW (W6 N (f.1,f.2,b)) λg=>
 aW (eo 1 c [g.1]) λh=>
 (DK N m (d,e,(wrap .i64 (a+1)),g.2,h)))
 (some (c,b)):=ci
def aeF N l a:aeE (N+1) (l,a)=aW (DK N N (l,(length l:Int),0,a,[])) λb=>
 some (b.1,b.2):=ci
def lj:Do CO:=[apO]
noncomputable def lk:FD:=cQ 66 f66 .z [.k (.ow 4294967296),.h gO] [(4294967296,.arr 3 j1 true)] (bm [(4,.k (.ow 900))] [(900,.arr 4 .b true),(4294967296,.arr 3 j1 true)]) true true [900,4294967296]
def Pr:Nat->A1×aX->At (br×aX):=mF lj lk
def akR:CO:=cF lj lk Pr func66
def aeG N l s:Pr (N+1) (l,s)=aW (aeE N (l,s)) λa=>
 some (a.1,a.2):=ci
def vR:Do CO:=[apM,aeB,akR]
noncomputable def vT:FD:=cQ 77 f77 .z [.ag [.h j1,.h fJ],.h gO] [] (bm [(4,.k (.ow 900)),(5,.h j1)] [(900,.arr 4 .b true)]) true true [900]
def La:Nat->Int×A3×A1->At (Int×br):=mF vR vT
def amF:CO:=cF vR vT La func77
def aak N f b l:La (N+1) (f,b,l)=aW (W2 N (f,b,l)) λa=>
 cond (!(a.1=0))
  (some (a.1,[]))
  (aW (FY N f) λc=>
  aW (Pr N (a.2,c)) λd=>
  some (0,d.1)):=ci
def gg:Do CO:=[]
noncomputable def gh:FD:=cQ 78 f78 .z [.h iG] [] (bm [(2,.k (.ow 900))] [(900,.arr 161 rh true)]) true true [900]
def W_:Nat->fB->At (fB):=mF gg gh
def apP:CO:=cF gg gh W_ func78
def aeH N s:W_ (N+1) s=cond (p_ s)
 (dem λc=>
 cond c
  (some [])
  (aW (eo 32 [] s) λa=>
  some a))
 (aW (eo 32 [] s) λb=>
 some b):=ci
def wT:Do CO:=[aev,amE,akP,amF,apP,⟨ec,fo⟩]
def Ps:PS:=bm [(2,.k (.pt 900 0)),(4,.k (.pt 901 0)),(7,.k (.ow 902)),(11,.k (.ow 903)),(13,.k (.ow 904)),(46,.k (.ow 902)),(47,.h j1),(48,.h j1)] [(900,.box 26 [.h j1,.h iG]),(901,.box 26 [.h j1,.k .nil]),(902,.arr 52 j5 true),(903,.arr 4 .b true),(904,.arr 161 rh true)]
def Pt:Do (IO×PS):=[((.exit 0),bm [(2,.k (.pt 900 0)),(4,.k (.pt 901 0)),(7,.k (.ow 902)),(13,.k (.ow 903))] [(900,.box 26 [.h j1,.h iG]),(901,.box 26 [.h j1,.k .nil]),(902,.arr 52 j5 true),(903,.arr 161 rh true)])]
def Pu:Pl:=.z
def zi:Nat->Nat->Int×Int×Int×fB×Int×A1×br×fB->At (Int×fB×Int×A1×fB):=ga wT f30 [1,1,1,1,1,1,1,0,1,0,0] Ps Pt Pu
noncomputable def FZ:FD:=cQ 30 f30 (.n .z (.n .z (.n .z (.n .z (.n .z (.n .z (.n .z (.n (.n .z (.n (.loop Ps Pt Pu) .z)) .z)))))))) [.ag [.h j1,.h iG],.h gO] [] (bm [(4,.k (.pt 900 0)),(5,.h j1),(6,.h j1)] [(900,.box 26 [.h j1,.h iG])]) false false []
def oH:Nat->Int×fB×A1->At (Int×Int×Int×fB):=mF wT FZ
def amG:CO:=cF wT FZ oH func30
def F0 N m h a g d f b c e:zi N (m+1) (h,a,g,d,f,b,c,e)=cond (a<h)
 (aW (ba b a) λl=>
 aW (ba b a) λi=>
 aW (ba c a) λn=>
 aW (ba c a) λj=>
 aW (eo 32 e [(i.1,i.2,0,j)]) λk=>
 (zi N m (h,(wrap .i64 (a+1)),g,d,f,b,c,k)))
 (some (g,d,f,b,e)):=ci
def aal N g a l:oH (N+1) (g,a,l)=aW (AZ N (g,a,l)) λb=>
 cond (!(b.1=0))
  (some (0,b.1,g,a))
  (aW (SI N (g,a,(length b.2:Int))) λe=>
  cond (!e)
   (some (0,2,g,a))
   (aW (Ph N (g,a,0)) λd=>
   aW (La N (d.2.1,d.2.2,b.2)) λf=>
   aW (W_ N a) λh=>
   aW (zi N N ((length b.2:Int),0,g,a,0,b.2,f.2,h)) λc=>
   aW (cN N c.2.2.2.2) λi=>
   some ((length c.2.2.2.1:Int),0,c.1,i))):=ci
def bM:Do CO:=[akE]
def aeI:PS:=bm [(0,.h iG),(2,.k (.v (.func (.func 129) #[] #[]))),(4,.k (.pt 900 0)),(8,.h j1),(9,.h j1),(10,.h j1)] [(900,.box 161 [.h j1,.h j1,.h j1,.h .b])]
def aeJ:Do (IO×PS):=[((.exit 0),bm [(0,.h iG),(2,.k (.v (.func (.func 129) #[] #[]))),(4,.k (.pt 900 0)),(8,.h j1),(9,.h j1)] [(900,.box 161 [.h j1,.h j1,.h j1,.h .b])])]
def aeK:Pl:=.z
def F1:Nat->Nat->fB×Int×Int×Int×Int×Int×Int×In->At (fB×Int×Int×Int×Int×Int×In):=ga bM f273 [1,1,1,0,0,0] aeI aeJ aeK
noncomputable def cI:FD:=cQ 273 f273 (.n .z (.n .z (.n .z (.n (.n (.loop aeI aeJ aeK) .z) .z)))) [.h iG,.ag [.h j1,.h j1,.h j1,.h .b],.k (.v (.func (.func 129) #[] #[]))] [] (bm [(6,.h j1),(7,.h .b)] []) false true []
def aiL:Nat->fB×Int×Int×Int×In->At (Int×In):=mF bM cI
def asr:CO:=cF bM cI aiL func273
def F2 N m x n i j a b c d:F1 N (m+1) (x,n,i,j,a,b,c,d)=cond (i<j)
 (aW (ba x (wrap .i64 (Int.fdiv (wrap .u64 (wrap .i64 (i+j))) ((2:Int)^(min (Int.toNat 1) 64))))) λe=>
 aW (Ff N (e.1,e.2.1,e.2.2.1,e.2.2.2,a,b,c,d)) λf=>
 cond (f<0)
  ((F1 N m (x,n,(wrap .i64 ((wrap .i64 (Int.fdiv (wrap .u64 (wrap .i64 (i+j))) ((2:Int)^(min (Int.toNat 1) 64))))+1)),j,a,b,c,d)))
  ((F1 N m (x,n,i,(wrap .i64 (Int.fdiv (wrap .u64 (wrap .i64 (i+j))) ((2:Int)^(min (Int.toNat 1) 64)))),a,b,c,d))))
 (some (x,n,i,a,b,c,d)):=ci
def aiM N x c d e f:aiL (N+1) (x,c,d,e,f)=aW (F1 N N (x,(length x:Int),0,(length x:Int),c,d,e,f)) λa=>
 cond (a.2.2.1<a.2.1)
  (aW (ba a.1 a.2.2.1) λb=>
  aW (Ff N (b.1,b.2.1,b.2.2.1,b.2.2.2,a.2.2.2.1,a.2.2.2.2.1,a.2.2.2.2.2.1,a.2.2.2.2.2.2)) λg=>
  some (a.2.2.1,(decide (g=0))))
  (some (a.2.2.1,false)):=ci
def vU:Do CO:=[asr]
noncomputable def vV:FD:=cQ 245 f245 .z [.ag [.h j1,.h iG],.h j1,.h j1] [] (bm [(6,.h j1),(7,.h .b)] []) false true []
def aeL:Nat->Int×fB×Int×Int->At (Int×In):=mF vU vV
def apQ:CO:=cF vU vV aeL func245
def aeM N g a u v:aeL (N+1) (g,a,u,v)=aW (aiL N (a,(if(v<u)then v else u),(if(v>u)then v else u),0,false)) λb=>
 some (b.1,b.2):=ci
def zj:Do CO:=[vw,apQ]
noncomputable def zk:FD:=cQ 200 f200 .z [.ag [.h j1,.h iG],.h j1,.h j1] [] (bm [(6,.h j1)] []) false true []
def Lb:Nat->Int×fB×Int×Int->eQ:=mF zj zk
def amH:CO:=cF zj zk Lb func200
def aam N g a u v:Lb (N+1) (g,a,u,v)=aW (nN N (g,a)) λc=>
 cond (!c)
  (some (-1))
  (aW (aeL N (g,a,u,v)) λb=>
  cond (!b.2)
   (some (-1))
   (some b.1)):=ci
def vW:Do CO:=[vw,amH]
noncomputable def vX:FD:=cQ 152 f152 .z [.ag [.h j1,.h iG],.h j1,.h j1] [] (bm [(6,.h j1),(7,.h j1)] []) false true []
def F3:Nat->Int×fB×Int×Int->BD:=mF vW vX
def akS:CO:=cF vW vX F3 func152
def Pv N g a u v:F3 (N+1) (g,a,u,v)=aW (nN N (g,a)) λc=>
 cond (!c)
  (some (0,1))
  (cond ((if(v<u)then v else u)<0)
   (some (0,10))
   (cond (g<=(if(v>u)then v else u))
    (some (0,10))
    (aW (Lb N (g,a,u,v)) λb=>
    cond (b<0)
     (some (0,6))
     (some (b,0))))):=ci
def dD:Do CO:=[⟨gx,jD⟩]
def Xa:PS:=bm [(6,.k (.ow 900)),(25,.h j22),(26,.h j1),(27,.h j1)] [(900,.arr 161 rh true)]
def Xb:Do (IO×PS):=[((.exit 2),bm [(6,.k (.ow 900))] [(900,.arr 161 rh true)])]
def Xc:Pl:=.z
def DL:Nat->Nat->(Do fB)×Int×Int×fB->At (fB):=ga dD f153 [1,1,1,1,0,1,0,0] Xa Xb Xc
def Xd:PS:=bm [(0,.h j22),(3,.h j1),(9,.h j22),(10,.h j1),(11,.h j1)] []
def Xe:Do (IO×PS):=[((.exit 0),bm [(0,.h j22),(3,.h j1)] [])]
def Xf:Pl:=.z
def DM:Nat->Nat->(Do fB)×Int×(Do fB)×Int×Int->At ((Do fB)×Int):=ga dD f153 [1,1,0,1,0,0] Xd Xe Xf
noncomputable def fR:FD:=cQ 153 f153 (.n .z (.n .z (.n (.n .z (.n (.loop Xd Xe Xf) .z)) (.n .z (.n (.n .z (.n (.loop Xa Xb Xc) .z)) .z))))) [.h j22] [] (bm [(2,.k (.ow 900))] [(900,.arr 161 rh true)]) true true [900]
def Xg:Nat->(Do fB)->At (fB):=mF dD fR
def apR:CO:=cF dD fR Xg func153
def A0 N m c d a b:DL N (m+1) (c,d,a,b)=cond (a<d)
 (aW (ba c a) λe=>
 aW (eo 32 b e) λf=>
 (DL N m (c,d,(wrap .i64 (a+1)),f)))
 (some b):=ci
def A_ N m c a e d b:DM N (m+1) (c,a,e,d,b)=cond (b<d)
 (aW (ba e b) λf=>
 cond ((wrap .i64 (a+(length f:Int)))<0)
  none
  ((DM N m (c,(wrap .i64 (a+(length f:Int))),e,d,(wrap .i64 (b+1))))))
 (some (c,a)):=ci
def aeN N a:Xg (N+1) a=aW (DM N N (a,0,a,(length a:Int),0)) λb=>
 aW (eN N b.2) λd=>
 aW (DL N N (b.1,(length b.1:Int),0,[])) λc=>
 some c:=ci
def jt:Do CO:=[]
noncomputable def ju:FD:=cQ 118 f118 .z [.h j6] [] (bm [(2,.k (.ow 900))] [(900,.arr 3 j1 true)]) true true [900]
def Xh:Nat->aX->nh:=mF jt ju
def apS:CO:=cF jt ju Xh func118
def aeO N s:Xh (N+1) s=cond (p_ s)
 (dem λc=>
 cond c
  (some [])
  (aW (eo 8 [] s) λa=>
  some a))
 (aW (eo 8 [] s) λb=>
 some b):=ci
def ll:Do CO:=[]
noncomputable def ln:FD:=cQ 275 f275 .z [.h j1,.fp [.h j1,.h fJ]] [] (bm [(3,.h .b)] []) false true []
def Pw:Nat->Int×Int×A3->eh:=mF ll ln
def akT:CO:=cF ll ln Pw func275
def aeP N t a b:Pw (N+1) (t,a,b)=some (decide (a<=t)):=ci
def cE:Do CO:=[akT]
def Xi:PS:=bm [(0,.h j6),(1,.cl (.func 275) [] [.fp [.h j1,.h fJ]]),(7,.h j1),(8,.h j1)] []
def Xj:Do (IO×PS):=[((.exit 0),bm [] []),(.ret,bm [(4,.h j1)] [])]
def Xk:Pl:=.z
def DN:Nat->Nat->aX×Int×A3×Int×Int->At ((Unit)⊕(Int)):=ga cE f121 [1,0,1,0,0] Xi Xj Xk
noncomputable def dN:FD:=cQ 121 f121 (.n .z (.n (.n .z (.n (.loop Xi Xj Xk) .z)) .z)) [.h j6,.cl (.func 275) [] [.fp [.h j1,.h fJ]]] [] (bm [(4,.h j1)] []) false true []
def aeQ:Nat->aX×Int×A3->eQ:=mF cE dN
def apT:CO:=cF cE dN aeQ axs
def I8 N m s f b c a:DN N (m+1) (s,f,b,c,a)=cond (a<c)
 (aW (ba s a) λd=>
 aW (Pw N (d,f,b)) λe=>
 cond e
  (some (.inr a))
  ((DN N m (s,f,b,c,(wrap .i64 (a+1))))))
 (some (.inl ())):=ci
def aeR N s f a:aeQ (N+1) (s,f,a)=aW (DN N N (s,f,a,(length s:Int),0)) λb=>
 (match b with
 |.inl d=>some (-1)
 |.inr c=>some c):=ci
def cg:Do CO:=[apT,akT]
def aeS:PS:=bm [(0,.k (.ow 4294967296)),(1,.cl (.func 275) [] [.fp [.h j1,.h fJ]]),(5,.h j1),(6,.h j1)] [(4294967296,.arr 3 j1 true)]
def aeT:Do (IO×PS):=[((.exit 0),bm [(0,.k (.ow 4294967296)),(5,.h j1)] [(4294967296,.arr 3 j1 true)])]
def aeU:Pl:=.z
def F4:Nat->Nat->Int×A3×Int×Int×aX->At A6:=ga cg f274 [1,1,1,0,1,0,0] aeS aeT aeU
noncomputable def dz:FD:=cQ 274 f274 (.n .z (.n .z (.n .z (.n (.n .z (.n (.loop aeS aeT aeU) .z)) .z)))) [.k (.ow 4294967296),.cl (.func 275) [] [.fp [.h j1,.h fJ]]] [(4294967296,.arr 3 j1 true)] (bm [(4,.k (.ow 900))] [(900,.arr 3 j1 true)]) true true [900]
def aiN:Nat->Int×A3×aX->nh:=mF cg dz
def ass:CO:=cF cg dz aiN func274
def aeV N m a b i j s:F4 N (m+1) (a,b,i,j,s)=cond (j<(length s:Int))
 (aW (ba s j) λe=>
 aW (ba s j) λc=>
 aW (Pw N (c,a,b)) λd=>
 cond (!d)
  (aW (ba s i) λf=>
  aW (ba s i) λg=>
  (F4 N m (a,b,(wrap .i64 (i+1)),(wrap .i64 (j+1)),(List.set s (Int.toNat i) c))))
  ((F4 N m (a,b,i,(wrap .i64 (j+1)),s))))
 (some (i,s)):=ci
def aiO N b c s:aiN (N+1) (b,c,s)=aW (aeQ N (s,b,c)) λd=>
 cond (d=(-1))
  (some s)
  (aW (F4 N N (b,c,d,(wrap .i64 (d+1)),s)) λa=>
  cond (((true && true) && true) && (!(mD a.2)))
   (aW (iR a.2 a.1 (length a.2:Int)) λg=>
   aW (Y8 a.2 a.1 ((length a.2:Int) - a.1) 0) λe=>
   aW (iR e 0 a.1) λf=>
   some f)
   none):=ci
def pw:Do CO:=[adb,aey,apS,ass,⟨iY,l7⟩]
noncomputable def py:FD:=cQ 246 f246 .z [.ag [.h j1,.h fJ],.h j1] [] (bm [(4,.k (.ow 900)),(5,.h j1)] [(900,.arr 3 j1 true)]) true true [900]
def Px:Nat->Int×A3×Int->At A6:=mF pw py
def apU:CO:=cF pw py Px func246
def aeW N f a v:Px (N+1) (f,a,v)=aW (Iu N (f,a,[v])) λb=>
 cond (!(b=0))
  (some (b,[]))
  (aW (FX N (f,a,v)) λc=>
  aW (ba a c) λd=>
  aW (Xh N d) λe=>
  aW (aiN N (f,a,e)) λg=>
  aW (ei N g) λh=>
  some (0,h)):=ci
def zl:Do CO:=[akS,akP,apU,Vj,⟨fN,fO⟩,⟨l5,lM⟩]
noncomputable def zm:FD:=cQ 202 f202 .z [.ag [.h j1,.h iG],.h j1,.h j1,.h j1] [] (bm [(8,.k (.ow 900)),(9,.h j1)] [(900,.arr 3 j1 true)]) true true [900]
def F5:Nat->Int×fB×Int×Int×Int->At A6:=mF zl zm
def amI:CO:=cF zl zm F5 func202
def I9 N g e u v f:F5 (N+1) (g,e,u,v,f)=aW (F3 N (g,e,u,v)) λb=>
 cond (b.2=1)
  (some (b.2,[]))
  (cond (b.2=10)
   (some (b.2,[]))
   (aW (Ph N (g,e,f)) λc=>
   aW (Px N (c.2.1,c.2.2,u)) λa=>
   aW (Px N (c.2.1,c.2.2,v)) λd=>
   aW (Fh N (a.2,v)) λk=>
   cond k
    (some (5,[]))
    (aW (cM N ((length a.2:Int),(length d.2:Int))) λl=>
    aW (ba a.2 0) λn=>
    aW (ba a.2 0) λm=>
    aW (ba d.2 0) λo=>
    aW (ba d.2 0) λh=>
    aW (cM N (m,h)) λi=>
    aW (gN N [l,i]) λj=>
    cond (j<0)
     (some (0,a.2))
     (some (0,d.2))))):=ci
def jv:Do CO:=[]
noncomputable def jw:FD:=cQ 203 f203 .z [.ag [.h j1,.h j1,.h j1,.h .b],.k (.pt 4294967296 0)] [(4294967296,.box 201 [.k (.mp 4294967297)]),(4294967297,.mp (.int .i64) j1 j1)] (bm [(3,.h j1)] [(4294967297,.mp (.int .i64) j1 j1),(4294967296,.box 201 [.k (.mp 4294967297)])]) true true [4294967297,4294967296]
def Xl:Nat->Int×Int×Int×In×A1->At (Int×A1):=mF jv jw
def apV:CO:=cF jv jw Xl func203
def Py N t a b c h:Xl (N+1) (t,a,b,c,h)=some ((wrap .i64 ((Option.getD (bO j1 h t) 0)+(Option.getD (bO j1 h a) 0))),h):=ci
def fv:Do CO:=[]
noncomputable def fw:FD:=cQ 204 f204 .z [.k (.pt 4294967296 0),.pe 4294967297 4 0] [(4294967296,.box 250 [.h j1,.k (.ow 4294967297),.h .b,.h .b,.h j1,.h j1,.h j1,.h j1]),(4294967297,.arr 161 rh true)] (bm [] [(4294967296,.box 250 [.h j1,.k (.ow 4294967297),.h .b,.h .b,.h j1,.h j1,.h j1,.h j1]),(4294967297,.arr 161 rh true)]) true true [4294967296,4294967297]
def Pz:Nat->Int×Int×In×In×Int×Int×Int×Int×fB->At (Int×In×In×Int×Int×Int×Int×fB):=mF fv fw
def apW:CO:=cF fv fw Pz func204
def aeX N t s d e f g h a b:Pz (N+1) (t,s,d,e,f,g,h,a,b)=aW (ba b t) λi=>
 aW (ba b t) λc=>
 some (s,d,e,f,g,(wrap .i64 (h+1)),a,(List.set b (Int.toNat t) (c.1,c.2.1,(if((wrap .i64 (i.2.2.1+1))<a)then(wrap .i64 (i.2.2.1+1))else a),c.2.2.2))):=ci
def dt:Do CO:=[amI,apV,apW]
def Xm:PS:=bm [(0,.k (.pt 4294967296 0)),(14,.cl (.func 203) [] [.k (.pt 900 0)]),(86,.k (.ow 901)),(87,.h j1),(88,.h j1)] [(4294967296,.box 250 [.h j1,.k (.ow 4294967297),.h .b,.h .b,.h j1,.h j1,.h j1,.h j1]),(900,.box 201 [.k (.mp 902)]),(901,.qr 306 4294967297 4),(4294967297,.arr 161 rh true),(902,.mp (.int .i64) j1 j1)]
def Xn:Do (IO×PS):=[((.exit 5),bm [] [(4294967296,.box 250 [.h j1,.k (.ow 4294967297),.h .b,.h .b,.h j1,.h j1,.h j1,.h j1]),(4294967297,.arr 161 rh true)]),(.ret,bm [(8,.h .b)] [(4294967296,.box 250 [.h j1,.k (.ow 4294967297),.h .b,.h .b,.h j1,.h j1,.h j1,.h j1]),(4294967297,.arr 161 rh true)])]
def Xo:Pl:=.z
def uH:Nat->Nat->Int×Int×Int×In×In×Int×Int×Int×Int×aX×fB×A1->At ((Int×In×In×Int×Int×Int×Int×fB)⊕(In×Int×In×In×Int×Int×Int×Int×fB)):=ga dt f154 [1,1,1,1,1,1,1,0,1,0,0] Xm Xn Xo
def Xp:PS:=bm [(0,.k (.pt 4294967296 0)),(3,.h j1),(14,.cl (.func 203) [] [.k (.pt 900 0)]),(15,.k (.ow 902)),(47,.h j1),(48,.h j1)] [(4294967296,.box 250 [.h j1,.k (.ow 4294967297),.h .b,.h .b,.h j1,.h j1,.h j1,.h j1]),(900,.box 201 [.k (.mp 901)]),(902,.qr 306 4294967297 4),(4294967297,.arr 161 rh true),(901,.mp (.int .i64) j1 j1)]
def Xq:Do (IO×PS):=[((.exit 2),bm [(0,.k (.pt 4294967296 0)),(14,.cl (.func 203) [] [.k (.pt 900 0)]),(15,.k (.ow 901))] [(4294967296,.box 250 [.h j1,.k (.ow 4294967297),.h .b,.h .b,.h j1,.h j1,.h j1,.h j1]),(900,.box 201 [.k (.mp 902)]),(901,.qr 306 4294967297 4),(4294967297,.arr 161 rh true),(902,.mp (.int .i64) j1 j1)])]
def Xr:Pl:=.z
def qA:Nat->Nat->Int×Int×Int×Int×In×In×Int×Int×Int×Int×aX×fB×A1->At (Int×In×In×Int×Int×Int×Int×aX×fB×A1):=ga dt f154 [1,1,1,1,1,1,0,1,0,0] Xp Xq Xr
def Xs:PS:=bm [(0,.k (.pt 4294967296 0)),(3,.h j1),(11,.k (.pt 900 0)),(32,.k (.ow 901)),(33,.h j1),(34,.h j1)] [(4294967296,.box 250 [.h j1,.k (.ow 4294967297),.h .b,.h .b,.h j1,.h j1,.h j1,.h j1]),(900,.box 201 [.k (.mp 902)]),(901,.arr 3 j1 true),(4294967297,.arr 161 rh true),(902,.mp (.int .i64) j1 j1)]
def Xt:Do (IO×PS):=[((.exit 0),bm [(0,.k (.pt 4294967296 0)),(3,.h j1),(11,.k (.pt 900 0))] [(4294967296,.box 250 [.h j1,.k (.ow 4294967297),.h .b,.h .b,.h j1,.h j1,.h j1,.h j1]),(900,.box 201 [.k (.mp 901)]),(4294967297,.arr 161 rh true),(901,.mp (.int .i64) j1 j1)])]
def Xu:Pl:=.z
def DO:Nat->Nat->Int×Int×Int×Int×In×In×Int×Int×Int×Int×aX×fB×A1->At (Int×Int×In×In×Int×Int×Int×Int×fB×A1):=ga dt f154 [1,1,1,0,1,0,0] Xs Xt Xu
noncomputable def gV:FD:=cQ 154 f154 (.n .z (.n .z (.n .z (.n (.n .z (.n (.loop Xs Xt Xu) .z)) (.n .z (.n .z (.n (.n .z (.n (.loop Xp Xq Xr) .z)) (.n (.n .z (.n (.loop Xm Xn Xo) .z)) .z)))))))) [.k (.pt 4294967296 0),.h j1,.h j1,.h j1] [(4294967296,.box 250 [.h j1,.k (.ow 4294967297),.h .b,.h .b,.h j1,.h j1,.h j1,.h j1]),(4294967297,.arr 161 rh true)] (bm [(8,.h .b)] [(4294967297,.arr 161 rh true),(4294967296,.box 250 [.h j1,.k (.ow 4294967297),.h .b,.h .b,.h j1,.h j1,.h j1,.h j1])]) true true [4294967297,4294967296]
def Xv:Nat->Int×Int×Int×Int×In×In×Int×Int×Int×Int×fB->At (In×fB×Int×In×In×Int×Int×Int×Int):=mF dt gV
def apX:CO:=cF dt gV Xv func154
def I_ N m o e s f k l n g h i a q:uH N (m+1) (o,e,s,f,k,l,n,g,h,i,a,q)=cond (e<o)
 (aW (ba i e) λu=>
 aW (ba i e) λc=>
 aW (ba a c) λp=>
 aW (Xl N (p.1,p.2.1,p.2.2.1,p.2.2.2,q)) λj=>
 cond (j.1=0)
  ((uH N m (o,(wrap .i64 (e+1)),s,f,k,l,n,g,h,i,a,j.2)))
  (cond (j.1=2)
   (aW (Pz N (c,s,f,k,l,n,g,h,a)) λd=>
   (uH N m (o,(wrap .i64 (e+1)),d.1,d.2.1,d.2.2.1,d.2.2.2.1,d.2.2.2.2.1,d.2.2.2.2.2.1,d.2.2.2.2.2.2.1,i,d.2.2.2.2.2.2.2,j.2)))
   (cond (j.1=1)
    (aW (ba a c) λb=>
    aW (ba (List.set a (Int.toNat c) (b.1,b.2.1,b.2.2.1,true)) c) λr=>
    aW (ba (List.set a (Int.toNat c) (b.1,b.2.1,b.2.2.1,true)) c) λt=>
    some (.inr (true,s,f,true,r.1,t.2.1,g,h,(List.set a (Int.toNat c) (b.1,b.2.1,b.2.2.1,true)))))
    ((uH N m (o,(wrap .i64 (e+1)),s,f,k,l,n,g,h,i,a,j.2))))))
 (some (.inl (s,f,k,l,n,g,h,a))):=ci
def Ja N m k l a s e f g h i j d b n:qA N (m+1) (k,l,a,s,e,f,g,h,i,j,d,b,n)=cond (a<l)
 (aW (ba b a) λu=>
 aW (ba b a) λq=>
 cond (!(q.2.2.1=k))
  ((qA N m (k,l,(wrap .i64 (a+1)),s,e,f,g,h,i,j,d,b,n)))
  (aW (ba b a) λr=>
  cond (!r.2.2.2)
   (aW (eo 8 d [a]) λt=>
   (qA N m (k,l,(wrap .i64 (a+1)),s,e,f,g,h,i,j,t,b,n)))
   (aW (ba b a) λo=>
   aW (Xl N (o.1,o.2.1,o.2.2.1,o.2.2.2,n)) λp=>
   cond (p.1=2)
    (aW (Pz N (a,s,e,f,g,h,i,j,b)) λc=>
    (qA N m (k,l,(wrap .i64 (a+1)),c.1,c.2.1,c.2.2.1,c.2.2.2.1,c.2.2.2.2.1,c.2.2.2.2.2.1,c.2.2.2.2.2.2.1,d,c.2.2.2.2.2.2.2,p.2)))
    ((qA N m (k,l,(wrap .i64 (a+1)),s,e,f,g,h,i,j,d,b,p.2))))))
 (some (s,e,f,g,h,i,j,d,b,n)):=ci
def Jb N m i j a s c d e f g h b k l:DO N (m+1) (i,j,a,s,c,d,e,f,g,h,b,k,l)=cond (a<j)
 (aW (ba b a) λo=>
 aW (ba b a) λn=>
 (DO N m (i,j,(wrap .i64 (a+1)),s,c,d,e,f,g,h,b,k,(dW j1 l n 1))))
 (some (i,s,c,d,e,f,g,h,k,l)):=ci
def aeY N u v e s f g i j k l h:Xv (N+1) (u,v,e,s,f,g,i,j,k,l,h)=aW (F5 N (s,h,u,v,e)) λm=>
 aW (DO N N (e,(length m.2:Int),0,s,f,g,i,j,k,l,m.2,h,[])) λa=>
 aW (qA N N (a.1,(length a.2.2.2.2.2.2.2.2.1:Int),0,a.2.1,a.2.2.1,a.2.2.2.1,a.2.2.2.2.1,a.2.2.2.2.2.1,a.2.2.2.2.2.2.1,a.2.2.2.2.2.2.2.1,[],a.2.2.2.2.2.2.2.2.1,a.2.2.2.2.2.2.2.2.2)) λb=>
 aW (uH N N ((length b.2.2.2.2.2.2.2.1:Int),0,b.1,b.2.1,b.2.2.1,b.2.2.2.1,b.2.2.2.2.1,b.2.2.2.2.2.1,b.2.2.2.2.2.2.1,b.2.2.2.2.2.2.2.1,b.2.2.2.2.2.2.2.2.1,b.2.2.2.2.2.2.2.2.2)) λn=>
 (match n with
 |.inl d=>some (false,d.2.2.2.2.2.2.2,d.1,d.2.1,d.2.2.1,d.2.2.2.1,d.2.2.2.2.1,d.2.2.2.2.2.1,d.2.2.2.2.2.2.1)
 |.inr c=>some (c.1,c.2.2.2.2.2.2.2.2,c.2.1,c.2.2.1,c.2.2.2.1,c.2.2.2.2.1,c.2.2.2.2.2.1,c.2.2.2.2.2.2.1,c.2.2.2.2.2.2.2.1)):=ci
def tj:Do CO:=[akS,apR,acY,apX]
def PA:PS:=bm [(6,.k (.pt 900 0)),(7,.k (.pt 901 0)),(11,.k (.pt 902 0)),(12,.k (.pt 903 0)),(13,.h j1)] [(900,.box 26 [.h j1,.k .nil]),(901,.box 183 [.h .b,.h .b,.h j1,.h j1,.h j1]),(902,.box 161 [.h j1,.h j1,.h j1,.h .b]),(903,.box 250 [.h j1,.k (.ow 904),.h .b,.h .b,.h j1,.h j1,.h j1,.h j1]),(904,.arr 161 rh true)]
def PB:Do (IO×PS):=[((.exit 0),bm [(6,.k (.pt 900 0)),(7,.k (.pt 901 0)),(12,.k (.pt 902 0))] [(900,.box 26 [.h j1,.k .nil]),(901,.box 183 [.h .b,.h .b,.h j1,.h j1,.h j1]),(902,.box 250 [.h j1,.k (.ow 903),.h .b,.h .b,.h j1,.h j1,.h j1,.h j1]),(903,.arr 161 rh true)])]
def PC:Pl:=.z
def zn:Nat->Nat->Int×Int×In×In×Int×Int×Int×Int×Int×Int×In×Int×In×In×Int×Int×Int×Int×fB->At (Int×In×In×Int×Int×Int×Int×In×In×Int×Int×Int×Int×fB):=ga tj f83 [1,1,1,1,1,0,1,0,0] PA PB PC
noncomputable def Ck:FD:=cQ 83 f83 (.n .z (.n .z (.n .z (.n .z (.n .z (.n (.n .z (.n (.loop PA PB PC) .z)) .z)))))) [.ag [.h j1,.h iG],.h j1,.h j1] [] (bm [(6,.k (.pt 900 0)),(7,.k (.pt 901 0)),(8,.h j1)] [(900,.box 26 [.h j1,.h iG]),(901,.box 183 [.h .b,.h .b,.h j1,.h j1,.h j1])]) false false []
def Lc:Nat->Int×fB×Int×Int->At (Int×Int×fB×In×In×Int×Int×Int):=mF tj Ck
def amJ:CO:=cF tj Ck Lc func83
def SL N m o b c d e f g t q u r s h i j k l n p:zn N (m+1) (o,b,c,d,e,f,g,t,q,u,r,s,h,i,j,k,l,n,p)=cond r
 (cond (0<=o)
  (aW (Xv N (t,q,o,s,h,i,j,k,l,n,p)) λa=>
  cond (!a.1)
   ((zn N m ((wrap .i64 (o - 1)),b,c,d,e,f,g,t,q,u,r,a.2.2.1,a.2.2.2.1,a.2.2.2.2.1,a.2.2.2.2.2.1,a.2.2.2.2.2.2.1,a.2.2.2.2.2.2.2.1,a.2.2.2.2.2.2.2.2,a.2.1)))
   (some (b,c,d,e,f,g,a.2.2.1,a.2.2.2.1,a.2.2.2.2.1,a.2.2.2.2.2.1,a.2.2.2.2.2.2.1,a.2.2.2.2.2.2.2.1,a.2.2.2.2.2.2.2.2,a.2.1)))
  (some (b,c,d,e,f,g,s,h,i,j,k,l,n,p)))
 (some (b,c,d,e,f,g,s,h,i,j,k,l,n,p)):=ci
def aan N g a u v:Lc (N+1) (g,a,u,v)=aW (F3 N (g,a,u,v)) λd=>
 cond (!(d.2=0))
  (some (d.2,g,a,false,false,0,0,0))
  (aW (ba a d.1) λc=>
  aW (iR a 0 d.1) λe=>
  aW (iR a (wrap .i64 (d.1+1)) (length a:Int)) λf=>
  aW (Xg N [e,f]) λh=>
  aW (Fe N g) λi=>
  aW (zn N N (c.2.2.1,0,false,false,0,0,0,c.1,c.2.1,c.2.2.1,c.2.2.2,g,c.2.2.2,false,0,0,0,i,h)) λb=>
  some (0,b.2.2.2.2.2.2.1,b.2.2.2.2.2.2.2.2.2.2.2.2.2,b.2.2.2.2.2.2.2.1,b.2.2.2.2.2.2.2.2.1,b.2.2.2.2.2.2.2.2.2.1,b.2.2.2.2.2.2.2.2.2.2.1,b.2.2.2.2.2.2.2.2.2.2.2.1)):=ci
def qF:Do CO:=[aeu,amJ]
def PE:PS:=bm [(2,.k (.pt 900 0)),(4,.k (.pt 901 0)),(9,.k (.ow 904)),(10,.k (.pt 902 0)),(27,.k (.ow 903)),(28,.h j1),(29,.h j1)] [(900,.box 26 [.h j1,.h iG]),(901,.box 26 [.h j1,.k .nil]),(904,.arr 183 j21 true),(902,.box 26 [.h j1,.h iG]),(903,.arr 52 j5 true)]
def PF:Do (IO×PS):=[((.exit 0),bm [(4,.k (.pt 900 0)),(9,.k (.ow 901)),(10,.k (.pt 902 0))] [(900,.box 26 [.h j1,.k .nil]),(901,.arr 183 j21 true),(902,.box 26 [.h j1,.h iG])]),(.ret,bm [(4,.k (.pt 900 0)),(5,.k .nil),(6,.h j1)] [(900,.box 26 [.h j1,.h iG])])]
def PH:Pl:=.z
def zo:Nat->Nat->Int×Int×Int×fB×Int×A13×Int×fB×A1->At ((Int×A13×Int×fB)⊕(Int×Int×fB)):=ga qF f31 [1,1,1,1,1,0,1,0,0] PE PF PH
noncomputable def zp:FD:=cQ 31 f31 (.n .z (.n .z (.n .z (.n .z (.n .z (.n (.n .z (.n (.loop PE PF PH) .z)) .z)))))) [.ag [.h j1,.h iG],.h gO] [] (bm [(4,.k (.pt 900 0)),(5,.k (.ow 901)),(6,.h j1)] [(900,.box 26 [.h j1,.h iG]),(901,.arr 183 j21 true)]) true false [901]
def tk:Nat->Int×fB×A1->At (Int×Int×fB×A13):=mF qF zp
def amK:CO:=cF qF zp tk func31
def F6 N m h b g f i all d e c:zo N (m+1) (h,b,g,f,i,all,d,e,c)=cond (b<h)
 (aW (ba c b) λl=>
 aW (ba c b) λj=>
 aW (Lc N (d,e,j.1,j.2)) λa=>
 cond (!(a.1=0))
  (some (.inr (a.1,g,f)))
  (aW (eo 32 all [(a.2.2.2.1,a.2.2.2.2.1,(a.2.2.2.2.2.1,a.2.2.2.2.2.2.1),a.2.2.2.2.2.2.2)]) λk=>
  (zo N m (h,(wrap .i64 (b+1)),g,f,i,k,a.2.1,a.2.2.1,c))))
 (some (.inl (i,all,d,e))):=ci
def aao N g a l:tk (N+1) (g,a,l)=aW (AY N (g,a,l)) λb=>
 cond (!(b.1=0))
  (some (b.1,g,a,[]))
  (aW (zo N N ((length b.2:Int),0,g,a,0,[],g,a,b.2)) λe=>
  (match e with
  |.inl c=>some (0,c.2.2.1,c.2.2.2,c.2.1)
  |.inr d=>some (d.1,d.2.1,d.2.2,[]))):=ci
def mQ:Do CO:=[aex,aeB,akR,akQ]
def Xw:PS:=bm [(7,.k (.ow 900)),(21,.h j1),(22,.h j1)] [(900,.arr 3 j1 true)]
def Xx:Do (IO×PS):=[((.exit 0),bm [(7,.k (.ow 900))] [(900,.arr 3 j1 true)])]
def Xy:Pl:=.z
def DP:Nat->Nat->Int×Int×aX->nh:=ga mQ f24 [1,1,1,1,0,1,0,0] Xw Xx Xy
noncomputable def tl:FD:=cQ 24 f24 (.n .z (.n .z (.n .z (.n .z (.n (.n .z (.n (.loop Xw Xx Xy) .z)) .z))))) [.h j1,.h gO] [] (bm [(4,.k (.ow 900)),(5,.h j1)] [(900,.arr 3 j1 true)]) true true [900]
def Xz:Nat->Int×A1->At A6:=mF mQ tl
def apY:CO:=cF mQ tl Xz func24
def aap N m c a s:DP N (m+1) (c,a,s)=cond (a<c)
 (aW (I7 N (a,s)) λb=>
 aW (ba b.2 a) λd=>
 aW (ba b.2 a) λe=>
 (DP N m (c,(wrap .i64 (a+1)),(List.set b.2 (Int.toNat a) b.1))))
 (some s):=ci
def aeZ N n l:Xz (N+1) (n,l)=aW (FW N (n,l)) λa=>
 cond (!(a=0))
  (some (a,[]))
  (aW (FY N n) λc=>
  aW (Pr N (l,c)) λb=>
  aW (DP N N ((length b.2:Int),0,b.2)) λd=>
  some (0,d)):=ci
def PI:Do CO:=[vw,aek,apY]
noncomputable def PJ:FD:=cQ 210 f210 .z [.ag [.h j1,.h iG]] [] (bm [(2,.k (.ow 900)),(3,.h .b)] [(900,.arr 3 j1 true)]) true true [900]
def SM:Nat->Int×fB->At A9:=mF PI PJ
def amL:CO:=cF PI PJ SM func210
def aaq N g a:SM (N+1) (g,a)=aW (nN N (g,a)) λb=>
 cond (!b)
  (some (false,[]))
  (aW (I3 N (g,a)) λc=>
  aW (Xz N (g,c)) λd=>
  some (true,d.2)):=ci
def iM:Do CO:=[]
noncomputable def iN:FD:=cQ 280 f280 .z [.h j1,.k (.pt 4294967296 0)] [(4294967296,.box 311 [.h j6])] (bm [(3,.h .b)] [(4294967296,.box 311 [.h j6])]) true false [4294967296]
def ae0:Nat->Int×aX->At A9:=mF iM iN
def apZ:CO:=cF iM iN ae0 func280
def ae1 N v a:ae0 (N+1) (v,a)=cond (v<0)
 (some (true,a))
 (some ((decide ((length a:Int)<=v)),a)):=ci
def bZ:Do CO:=[apZ]
def ae2:PS:=bm [(0,.h j6),(1,.cl (.func 280) [] [.k (.pt 4294967296 0)]),(7,.h j1),(8,.h j1)] [(4294967296,.box 311 [.h j6])]
def ae3:Do (IO×PS):=[((.exit 0),bm [] [(4294967296,.box 311 [.h j6])]),(.ret,bm [(4,.h j1)] [(4294967296,.box 311 [.h j6])])]
def ae4:Pl:=.z
def Ld:Nat->Nat->aX×Int×Int×aX->At ((aX)⊕A6):=ga bZ f121 [1,0,1,0,0] ae2 ae3 ae4
noncomputable def dj:FD:=cQ 121 f121 (.n .z (.n (.n .z (.n (.loop ae2 ae3 ae4) .z)) .z)) [.h j6,.cl (.func 280) [] [.k (.pt 4294967296 0)]] [(4294967296,.box 311 [.h j6])] (bm [(4,.h j1)] [(4294967296,.box 311 [.h j6])]) true false [4294967296]
def amM:Nat->aX×aX->At A6:=mF bZ dj
def ast:CO:=cF bZ dj amM axs
def PL N m s b a f:Ld N (m+1) (s,b,a,f)=cond (a<b)
 (aW (ba s a) λd=>
 aW (ae0 N (d,f)) λc=>
 cond c.1
  (some (.inr (a,c.2)))
  ((Ld N m (s,b,(wrap .i64 (a+1)),c.2))))
 (some (.inl f)):=ci
def aiP N s f:amM (N+1) (s,f)=aW (Ld N N (s,(length s:Int),0,f)) λb=>
 (match b with
 |.inl c=>some ((-1),c)
 |.inr a=>some (a.1,a.2)):=ci
def cY:Do CO:=[ast]
noncomputable def cZ:FD:=cQ 53 f53 .z [.h j6,.cl (.func 280) [] [.k (.pt 4294967296 0)]] [(4294967296,.box 311 [.h j6])] (bm [(4,.h .b)] [(4294967296,.box 311 [.h j6])]) true false [4294967296]
def amN:Nat->aX×aX->At A9:=mF cY cZ
def asu:CO:=cF cY cZ amN axU
def aiQ N s f:amN (N+1) (s,f)=aW (amM N (s,f)) λa=>
 some ((decide (0<=a.1)),a.2):=ci
def lq:Do CO:=[asu]
noncomputable def lu:FD:=cQ 253 f253 .z [.h j6,.h j6] [] (bm [(4,.h .b)] []) false true []
def Jc:Nat->aX×aX->eh:=mF lq lu
def ap0:CO:=cF lq lu Jc func253
def ae5 N c a:Jc (N+1) (c,a)=aW (amN N (a,c)) λb=>
 some (!b.1):=ci
def gi:Do CO:=[]
noncomputable def gj:FD:=cQ 255 f255 .z [.h j1,.h j1,.k (.pt 4294967296 0),.k (.pt 4294967297 0)] [(4294967296,.box 311 [.h j6]),(4294967297,.box 58 [.h j1,.h j1,.h j1])] (bm [(6,.h .b)] [(4294967297,.box 58 [.h j1,.h j1,.h j1]),(4294967296,.box 311 [.h j6])]) true false [4294967297,4294967296]
def ae6:Nat->Int×Int×aX×Int×Int×Int->At (In×Int×Int×Int×aX):=mF gi gj
def ap1:CO:=cF gi gj ae6 func255
def ae7 N f c a d b e:ae6 (N+1) (f,c,a,d,b,e)=aW (ba a b) λg=>
 some ((decide (c=g)),d,b,e,a):=ci
def cj:Do CO:=[ap1]
def ae8:PS:=bm [(1,.cl (.func 255) [] [.k (.pt 4294967296 0),.k (.pt 4294967297 0)]),(4,.h j1),(7,.h j6),(8,.h j1),(9,.h j1)] [(4294967296,.box 311 [.h j6]),(4294967297,.box 58 [.h j1,.h j1,.h j1])]
def ae9:Do (IO×PS):=[((.exit 0),bm [(4,.h j1)] [(4294967296,.box 311 [.h j6]),(4294967297,.box 58 [.h j1,.h j1,.h j1])])]
def ae_:Pl:=.z
def F7:Nat->Nat->Int×aX×Int×Int×aX×Int×Int×Int->At (Int×aX×Int×Int×Int):=ga cj f254 [1,0,1,0,0] ae8 ae9 ae_
noncomputable def dA:FD:=cQ 254 f254 (.n .z (.n (.n .z (.n (.loop ae8 ae9 ae_) .z)) .z)) [.h j6,.cl (.func 255) [] [.k (.pt 4294967296 0),.k (.pt 4294967297 0)]] [(4294967296,.box 311 [.h j6]),(4294967297,.box 58 [.h j1,.h j1,.h j1])] (bm [(4,.h j1)] [(4294967296,.box 311 [.h j6]),(4294967297,.box 58 [.h j1,.h j1,.h j1])]) true false [4294967296,4294967297]
def afa:Nat->aX×aX×Int×Int×Int->At (Int×aX×Int×Int×Int):=mF cj dA
def asv:CO:=cF cj dA afa func254
def PM N m n c d b e f g h:F7 N (m+1) (n,c,d,b,e,f,g,h)=cond (b<d)
 (aW (ba c b) λi=>
 aW (ae6 N (b,i,e,f,g,h)) λa=>
 cond a.1
  ((F7 N m ((wrap .i64 (n+1)),c,d,(wrap .i64 (b+1)),a.2.2.2.2,a.2.1,a.2.2.1,a.2.2.2.1)))
  ((F7 N m (n,c,d,(wrap .i64 (b+1)),a.2.2.2.2,a.2.1,a.2.2.1,a.2.2.2.1))))
 (some (n,e,f,g,h)):=ci
def aiR N c b d e f:afa (N+1) (c,b,d,e,f)=aW (F7 N N (0,c,(length c:Int),0,b,d,e,f)) λa=>
 some (a.1,a.2.1,a.2.2.1,a.2.2.2.1,a.2.2.2.2):=ci
def jz:Do CO:=[]
noncomputable def jA:FD:=cQ 256 f256 .z [.h j1,.h j1] [] (bm [(4,.h .b)] []) false true []
def afb:Nat->Int×Int->eh:=mF jz jA
def ap2:CO:=cF jz jA afb func256
def afc N v a:afb (N+1) (v,a)=some (decide (v=a)):=ci
def dg:Do CO:=[ap2]
def XA:PS:=bm [(1,.k (.v (.func (.func 256) #[] #[]))),(4,.h j1),(7,.h j6),(8,.h j1),(9,.h j1)] []
def XB:Do (IO×PS):=[((.exit 0),bm [(4,.h j1)] [])]
def XC:Pl:=.z
def zq:Nat->Nat->Int×aX×Int×Int->eQ:=ga dg f254 [1,0,1,0,0] XA XB XC
noncomputable def eI:FD:=cQ 254 f254 (.n .z (.n (.n .z (.n (.loop XA XB XC) .z)) .z)) [.h j6,.k (.v (.func (.func 256) #[] #[]))] [] (bm [(4,.h j1)] []) false true []
def PN:Nat->aX->eQ:=mF dg eI
def ap3:CO:=cF dg eI PN func254
def Jd N m n b c a:zq N (m+1) (n,b,c,a)=cond (a<c)
 (aW (ba b a) λd=>
 aW (afb N (a,d)) λe=>
 cond e
  ((zq N m ((wrap .i64 (n+1)),b,c,(wrap .i64 (a+1)))))
  ((zq N m (n,b,c,(wrap .i64 (a+1))))))
 (some n):=ci
def afd N c:PN (N+1) c=aW (zq N N (0,c,(length c:Int),0)) λa=>
 some a:=ci
def hB:Do CO:=[ap0,asv,ap3]
def XD:PS:=bm [(2,.k (.pt 900 0)),(3,.k (.pt 901 0)),(7,.h j1)] [(900,.box 311 [.h j6]),(901,.box 58 [.h j1,.h j1,.h j1])]
def XE:Do (IO×PS):=[(.normal,bm [(2,.k (.pt 900 0)),(3,.k (.pt 901 0)),(7,.h j1),(31,.h .b)] [(900,.box 311 [.h j6]),(901,.box 58 [.h j1,.h j1,.h j1])])]
def XF:Pl:=.z
def XG:Nat->Nat->Int×aX×Int×Int×Int->At (Int×In×aX×Int×Int×Int):=jnF hB f211 [1,0,1,0,1,1,0] XD XE XF
noncomputable def kD:FD:=cQ 211 f211 (.n .z (.n (.n .z (.n (.n .z (.n .z (.n (.join XD XE XF) .z))) .z)) .z)) [.h j6,.ag [.h j1,.h j1,.h j1]] [] (bm [(4,.h j1),(5,.h j1)] []) false true []
def XH:Nat->aX×Int×Int×Int->BD:=mF hB kD
def ap4:CO:=cF hB kD XH func211
def aar N m b c a d e:XG N (m+1) (b,c,a,d,e)=cond (b=2)
 (some (b,true,c,a,d,e))
 (some (b,(decide (b=3)),c,a,d,e)):=ci
def afe N c a d e:XH (N+1) (c,a,d,e)=cond (a=1)
 (aW (Jc N (c,[d,e])) λf=>
 cond (!f)
  (some (0,10))
  (aW (ba c d) λg=>
  aW (ba c e) λh=>
  cond (g=h)
   (some (1,0))
   (some (0,0))))
 (aW (XG N N (a,c,a,d,e)) λb=>
 cond b.2.1
  (aW (Jc N (b.2.2.1,[b.2.2.2.2.1])) λi=>
  cond (!i)
   (some (0,10))
   (cond (b.2.2.2.1=2)
    (aW (ba b.2.2.1 b.2.2.2.2.1) λj=>
    some (j,0))
    (aW (afa N (b.2.2.1,b.2.2.1,b.2.2.2.1,b.2.2.2.2.1,b.2.2.2.2.2)) λk=>
    some (k.1,0))))
  (cond (b.1=4)
   (aW (PN N b.2.2.1) λl=>
   some (l,0))
   (some (0,1)))):=ci
def oJ:Do CO:=[amL,ap4]
def XI:PS:=bm [(6,.k (.ow 900)),(8,.k (.ow 901)),(20,.h AQ),(21,.h j1),(22,.h j1)] [(900,.arr 3 j1 true),(901,.arr 3 j1 true)]
def XJ:Do (IO×PS):=[((.exit 0),bm [(8,.k (.ow 900))] [(900,.arr 3 j1 true)]),(.ret,bm [(4,.k .nil),(5,.h j1)] [])]
def XK:Pl:=.z
def DQ:Nat->Nat->(Do A4)×Int×Int×aX×aX->At ((aX)⊕(Int)):=ga oJ f172 [1,1,1,1,0,1,0,0] XI XJ XK
noncomputable def vY:FD:=cQ 172 f172 (.n .z (.n .z (.n .z (.n .z (.n (.n .z (.n (.loop XI XJ XK) .z)) .z))))) [.ag [.h j1,.h iG],.h AQ] [] (bm [(4,.k (.ow 900)),(5,.h j1)] [(900,.arr 3 j1 true)]) true true [900]
def zr:Nat->Int×fB×(Do A4)->At A6:=mF oJ vY
def ap5:CO:=cF oJ vY zr func172
def Je N m d e a c b:DQ N (m+1) (d,e,a,c,b)=cond (a<e)
 (aW (ba d a) λf=>
 aW (XH N (c,f.1,f.2.1,f.2.2)) λg=>
 cond (!(g.2=0))
  (some (.inr g.2))
  (aW (eo 8 b [g.1]) λh=>
  (DQ N m (d,e,(wrap .i64 (a+1)),c,h))))
 (some (.inl b)):=ci
def aff N g a l:zr (N+1) (g,a,l)=aW (SM N (g,a)) λb=>
 cond (!b.1)
  (some (1,[]))
  (aW (DQ N N (l,(length l:Int),0,b.2,[])) λc=>
  (match c with
  |.inl d=>some (0,d)
  |.inr e=>some (e,[]))):=ci
def F8:Do CO:=[]
noncomputable def F9:FD:=cQ 7 Tryz.f7 .z [] [] (bm [(0,.k (.pt 900 0))] [(900,.box 38 [.h j1,.h j1,.h j1,.h j1,.h gO])]) false false []
def F_:Nat->Unit->At (Int×Int×Int×Int×A1):=mF F8 F9
def amO:CO:=cF F8 F9 F_ func7
def aas N:F_ (N+1) ()=some (8,3,2,3,[(0,1),(1,0),(2,0)]):=ci
def qG:Do CO:=[]
def PQ:PS:=bm [(2,.k (.pt 900 0)),(3,.k (.pt 901 0)),(5,.h j1)] [(900,.box 26 [.h j1,.h iG]),(901,.box 26 [.h j1,.h iG])]
def PR:Do (IO×PS):=[((.exit 0),bm [] []),(.ret,bm [(4,.h .b)] [])]
def PU:Pl:=.z
def zt:Nat->Nat->Int×Int×fB×Int×fB->At ((Unit)⊕(In)):=ga qG f46 [1,1,0,1,0,0] PQ PR PU
noncomputable def zu:FD:=cQ 46 f46 (.n .z (.n .z (.n (.n .z (.n (.loop PQ PR PU) .z)) .z))) [.ag [.h j1,.h iG],.ag [.h j1,.h iG]] [] (bm [(4,.h .b)] []) false true []
def Le:Nat->Int×fB×Int×fB->eh:=mF qG zu
def amP:CO:=cF qG zu Le func46
def Gb N m i a c b f:zt N (m+1) (i,a,c,b,f)=cond (i<(length c:Int))
 (aW (ba c i) λd=>
 aW (ba f i) λe=>
 cond (!((decide (d.1=e.1)) && ((decide (d.2.1=e.2.1)) && ((decide (d.2.2.1=e.2.2.1)) && (d.2.2.2==e.2.2.2)))))
  (some (.inr false))
  ((zt N m ((wrap .i64 (i+1)),a,c,b,f))))
 (some (.inl ())):=ci
def aat N a c b d:Le (N+1) (a,c,b,d)=cond (!(a=b))
 (some false)
 (cond (!((length c:Int)=(length d:Int)))
  (some false)
  (aW (zt N N (0,a,c,b,d)) λe=>
  (match e with
  |.inl g=>some true
  |.inr f=>some f))):=ci
def zw:Do CO:=[amP]
noncomputable def zx:FD:=cQ 10 f10 .z [.ag [.h j1,.h iG,.h j1,.h j1],.ag [.h j1,.h iG,.h j1,.h j1]] [] (bm [(4,.h .b)] []) false true []
def Gc:Nat->Int×fB×Int×Int×Int×fB×Int×Int->eh:=mF zw zx
def amQ:CO:=cF zw zx Gc func10
def aau N a c d e b f g h:Gc (N+1) (a,c,d,e,b,f,g,h)=aW (Le N (a,c,b,f)) λi=>
 cond i
  (cond (d=g)
   (some (decide (e=h)))
   (some false))
  (some false):=ci
def qI:Do CO:=[]
def PW:PS:=bm [(0,.h j6),(1,.h j6),(5,.h j1)] []
def PX:Do (IO×PS):=[((.exit 0),bm [] []),(.ret,bm [(4,.h .b)] [])]
def PY:Pl:=.z
def zy:Nat->Nat->aX×aX×Int->At ((Unit)⊕(In)):=ga qI f34 [1,1,0,1,0,0] PW PX PY
noncomputable def zA:FD:=cQ 34 f34 (.n .z (.n .z (.n (.n .z (.n (.loop PW PX PY) .z)) .z))) [.h j6,.h j6] [] (bm [(4,.h .b)] []) false true []
def Lf:Nat->aX×aX->eh:=mF qI zA
def amR:CO:=cF qI zA Lf func34
def Ge N m a b i:zy N (m+1) (a,b,i)=cond (i<(length a:Int))
 (aW (ba a i) λc=>
 aW (ba b i) λd=>
 cond (!(c=d))
  (some (.inr false))
  ((zy N m (a,b,(wrap .i64 (i+1))))))
 (some (.inl ())):=ci
def aav N a b:Lf (N+1) (a,b)=cond (!((length a:Int)=(length b:Int)))
 (some false)
 (aW (zy N N (a,b,0)) λc=>
 (match c with
 |.inl e=>some true
 |.inr d=>some d)):=ci
def afg(e:Int)(f:e≠0):Zn Tryz.prog 171 [] [.v (.int .i64 e)] [{v:=nq e,recovered:=false}]:=by
 refine⟨⟨f171,ayG,by kernel_rfl,by kernel_rfl⟩,λB Rd e0 w d g a=>?_⟩;obtain⟨v,i,k⟩:=a.get (j:=0) (c:=.v (.int .i64 e)) rfl;obtain rfl:=k.bL;have:d=[.int .i64 e]:=by
  match d,a.1,i with
  |[u],_,h=>simpa using h
 subst this;exact(acM e w f).mono λx l b=>⟨b.1,e0,b.2▸g.nil⟩
noncomputable def zB:FD:=⟨171,f171,.z,[.h (.i .i64)],[],[.i .i64],⟨[],[],[]⟩,false,true,[]⟩
noncomputable def dR:Nat->Int->At Unit:=mF [] zB
noncomputable def Lg:CO:=cF [] zB dR ayG
def rz N e:dR (N+1) e=cond (!(e=0)) none (some ()):=ci
noncomputable def Lh:Do CO:=[apK,SH,Lg,amG,amK,ap5]
noncomputable def Li:FD:=⟨103,f103,.z,[.k (.pt 4294967296 0),.ag [.h j1,.h gO,.h AQ],.ag [.h j1,.h j1,.h j1,.h j1,.h gO]],[(4294967296,.box 211 [.h j1,.h iG,.h j1,.h j1,.h j1,.h j1,.h j6])],[j1,gO,AQ,j1,j1,j1,j1,gO,j1,iG,j1,j1,j1,j1,j6],⟨[],[(4294967296,.box 211 [.h j1,.h iG,.h j1,.h j1,.h j1,.h j1,.h j6])],[j1,iG,j1,j1,j1,j1,j6]⟩,true,false,[4294967296]⟩
noncomputable def Ba:Nat->kf Li.cs->At (kf Li.rs.c):=mF Lh Li
def aaw N k p q l m g P j n b d f e i h:Ba (N+1) (k,p,q,l,m,g,P,j,n,b,d,f,e,i,h)=
 aW (ru N (n,b,k,p,q,l,m,g,P,j)) λc=>aW (dR N c.2.1) λ_=>
 aW (kL N (wrap .i64 (((c.2.2.2.1.length:Nat):Int)+((c.2.2.2.2.length:Nat):Int)),g,P,j)) λo=>aW (dR N o.2.1) λ_=>
 cond (c.2.2.1=1)
  (aW (oH N (n,b,c.2.2.2.1)) λa=>aW (dR N a.2.1) λ_=>some (a.2.2.1,a.2.2.2,wrap .i64 (d+1),wrap .i64 (f+wrap .i64 (c.1+o.1)),e,a.1,h))
  (cond (c.2.2.1=2)
   (aW (tk N (n,b,c.2.2.2.1)) λa=>aW (dR N a.1) λ_=>some (a.2.1,a.2.2.1,wrap .i64 (d+1),wrap .i64 (f+wrap .i64 (c.1+o.1)),e,((c.2.2.2.1.length:Nat):Int),h))
   (cond (c.2.2.1=3)
    (aW (zr N (n,b,c.2.2.2.2)) λa=>aW (dR N a.1) λ_=>some (n,b,wrap .i64 (d+1),wrap .i64 (f+wrap .i64 (c.1+o.1)),e,i,a.2))
    (aW (dR N o.2.1) λ_=>some (n,b,wrap .i64 (d+1),wrap .i64 (f+wrap .i64 (c.1+o.1)),e,i,h)))):=ci
noncomputable def kM:CO:=cF Lh Li Ba func103
variable{b:Code}{d:b_}{h:FuncId}{c:Int}{a:Nat}{e g:EQ}{i:jH}
def kGo{R:Type}(f:b_->At R):IO->b_->At R
 |.normal,E=>f E
 |_,_=>none
def slI(E:b_)(i:Nat):q8:=match cy E.t i with
 |.sc (.i .i64) e=>some e
 |_=>none
def amS(h:slI d a=some c):cy d.t a=.sc (.i .i64) c:=by
 unfold slI at h;split at h
 ·rename_i e b;cases h;exact b
 ·cases h
section
variable{P:Fd}{ca:IO->St->Prop}{T:EQ->bu}{CT:Do iS}{N:Nat}
def TC.SN(m:Place P T CT){c a:Code}(g:uY c=true){o:Pl}{R:Type}{f:b_->At R}{r:R}(h:ra T CT N c o d R (kGo f)=some r)(j:∀e,e.n=d.n->f e=some r->TC P a (bg e) ca):TC P (.seq c a) (bg d) ca:=by
 refine TC.seq ((TC.ex m g h).mono λx s n=>?_);obtain⟨e,rfl,k,b⟩:=n;cases x with
 |normal=>exact j e k b
 |_=>cases b
def TC.asw{id:Nat}{l:bp}{j k s:Nat}{p1 p2:String}{o q:dm}{F:hX}(z:l=[⟨some j,.move (.tmp s),e,p1,o,none⟩,⟨some k,.call ⟨.value (.func h), #[.tmp j],F⟩,g,p2,q,none⟩])
 (y:Zn P h [] [.v (.int .i64 c)] i) (v:slI d s=some c) (u:j<d.n) (r:Hi (1000*(k+1)) []=true) (A:∀E,ca (.panic i) E):TC P (.seq (.region id l.toArray false) b) (bg d) ca:=by
 refine TC.seq (TC.region ?_);subst z;have x:(bg d).ev (.tmp s)=.v (.int .i64 c):=by
  show bD (bg d).t s=_;rw[show(bg d).t=fI d.t from rfl,cc,amS v];rfl
 refine TL.cons λI t=>GS.plain rfl (SS.read (RS.akq x) u (t _ (TL.last rfl ?_)));refine SP.T9 (D:=[]) (h':=(bg d).h) y (JV.func (args:= #[.tmp j])) (λH n e0 w G B C=>?_) r (A _);refine⟨e0,od.refl B,(λp f a=>by cases a),(λp ob a=>by cases a),?_⟩;have:([.tmp j]:nA).map (St.ev ⟨(bg d).n,(j,.v (.int .i64 c))::(bg d).t,(bg d).h⟩)=[.v (.int .i64 c)]:=by
  simp only[auL,avy,St.ev,bD,au2]
 have m:LR (VR (bN H n e0 (bg d).h w) (some e0)) (([.tmp j]:nA).map (St.ev ⟨(bg d).n,(j,.v (.int .i64 c))::(bg d).t,(bg d).h⟩)) G:=C;rw[this]at m;exact m
end
noncomputable def tb:Code:=eT f103
noncomputable def tq(i:Nat):Code:=gw (replicate i 1++[0]) tb
noncomputable def tz:Code:=gw [1,1,1,1,1,1,1] tb
def afh:tb=.seq (tq 0) (.seq (tq 1) (.seq (tq 2) (.seq (tq 3) (.seq (tq 4) (.seq (tq 5) (.seq (tq 6) tz)))))):=ci
def PZ(s:Nat)(c:Code):Prop:=∃(id a b:Nat) (g h:EQ) (p1 p2:String) (d e:dm) (f:hX),c=.region id [⟨some a,.move (.tmp s),g,p1,d,none⟩,⟨some b,.call ⟨.value (.func 171), #[.tmp a],f⟩,h,p2,e,none⟩].toArray false/\a<130/\Hi (1000*(b+1)) []=true
def ap6:PZ 8 (tq 2):=⟨_,_,_,_,_,_,_,_,_,_,rfl,d6,rfl⟩
def ap7:PZ 8 (tq 4):=⟨_,_,_,_,_,_,_,_,_,_,rfl,d6,rfl⟩
def ap8:PZ 8 (tq 6):=⟨_,_,_,_,_,_,_,_,_,_,rfl,d6,rfl⟩
def PZ.tc{P:Fd}{ca:IO->St->Prop}{b y:Code}(h:PZ a b)(j:Zn P 171 [] [.v (.int .i64 c)] i)(g:slI d a=some c)(k:d.n=130)(l:∀m,ca (.panic i) m):TC P (.seq b y) (bg d) ca:=by
 obtain⟨id,p,q,s,t,p1,p2,n,o,r,rfl,e,f⟩:=h;exact TC.asw rfl j g (by rw[k];exact e) f l
abbrev TA:Type:=Int×bh×fU×Int×Int×Int×Int×bh×Int×Do cA×Int×Int×Int×Int×aX
noncomputable def tE(N:Nat)(x:TA):b_:=⟨130,wH 0 ((kM.c N).as x),(kM.c N).H0 x⟩
noncomputable abbrev tx(N:Nat):=λ(c:Code) (E:b_) (f:b_->q8)=>ra T (Mg Lh N) N c .z E Int (kGo f)
noncomputable def Jf(N:Nat):TA->q8:=λ(k,h,i,e,f,g,P,d,n,b,l,q,p,m,j)=>
 aW (ru N (n,b,k,h,i,e,f,g,P,d)) λc=>cond (!(decide (c.2.1=0))) (some c.2.1) (
 aW (kL N (wrap .i64 (((c.2.2.2.1.length:Nat):Int)+((c.2.2.2.2.length:Nat):Int)),g,P,d)) λo=>cond (!(decide (o.2.1=0))) (some o.2.1) (
 cond (decide (c.2.2.1=1)) (aW (oH N (n,b,c.2.2.2.1)) λa=>some a.2.1)
  (cond (decide (c.2.2.1=2)) (aW (tk N (n,b,c.2.2.2.1)) λa=>some a.1)
   (cond (decide (c.2.2.1=3)) (aW (zr N (n,b,c.2.2.2.2)) λa=>some a.1) (some o.2.1)))))
def asx N k d f a b g P e n h j o m l i:tx N (tq 0) (tE N (k,d,f,a,b,g,P,e,n,h,j,o,m,l,i)) (λE=>tx N (tq 1) E λE=>slI E 8)=
 aW (ru N (n,h,k,d,f,a,b,g,P,e)) λc=>some c.2.1:=ci
def asy N k e f b d g P a n h j p m l i:tx N (tq 0) (tE N (k,e,f,b,d,g,P,a,n,h,j,p,m,l,i)) (λE=>tx N (tq 1) E λE=>tx N (tq 2) E λE=>tx N (tq 3) E λE=>slI E 8)=
 aW (ru N (n,h,k,e,f,b,d,g,P,a)) λc=>aW (dR N c.2.1) λ_=>
 aW (kL N (wrap .i64 (((c.2.2.2.1.length:Nat):Int)+((c.2.2.2.2.length:Nat):Int)),g,P,a)) λo=>some o.2.1:=ci
def asz N k h i e f g P d n b l q p m j:tx N (tq 0) (tE N (k,h,i,e,f,g,P,d,n,b,l,q,p,m,j)) (λE=>tx N (tq 1) E λE=>tx N (tq 2) E λE=>tx N (tq 3) E λE=>tx N (tq 4) E λE=>tx N (tq 5) E λE=>slI E 8)=
 aW (ru N (n,b,k,h,i,e,f,g,P,d)) λc=>aW (dR N c.2.1) λ_=>
 aW (kL N (wrap .i64 (((c.2.2.2.1.length:Nat):Int)+((c.2.2.2.2.length:Nat):Int)),g,P,d)) λo=>aW (dR N o.2.1) λ_=>
 cond (c.2.2.1=1) (aW (oH N (n,b,c.2.2.2.1)) λa=>some a.2.1)
  (cond (c.2.2.1=2) (aW (tk N (n,b,c.2.2.2.1)) λa=>some a.1)
   (cond (c.2.2.1=3) (aW (zr N (n,b,c.2.2.2.2)) λa=>some a.1) (some o.2.1))):=ci
def SO{N:Nat}{x:TA}(h:TC Tryz.prog tb (bg (tE N x)) λy _=>y=.panic i):Zn Tryz.prog 103 (bs ((kM.c N).H0 x)) (bS ((kM.c N).as x)) i:=by
 refine Zn.intro func103 ci (c:=tb) ci (by show _<=130;rw[show(bS ((kM.c N).as x)).length=3 from rfl];decide) (by show(130:Nat)<=1000000;decide) ?_;have e:(⟨f103.ntmps,oU 0 (bS ((kM.c N).as x)),bs ((kM.c N).H0 x)⟩:St)=bg (tE N x):=by
  unfold bg tE;simp only[k_];rfl
 rw[e];exact h
def afi{N:Nat}{x:TA}(h:Jf (N+1) x=some c)(W:c≠0):Zn Tryz.prog 103 (bs ((kM.c (N+1)).H0 x)) (bS ((kM.c (N+1)).as x)) [{v:=nq c,recovered:=false}]:=by
 refine SO ?_;obtain⟨k,i,j,e,f,g,P,d,n,l,p,t,r,q,m⟩:=x;have b:=ot Lh (N+1);have B:=afg c W;have G:uY (tq 0)=true:=ci
 have H:uY (tq 1)=true:=ci
 have M:uY (tq 2)=true:=ci
 have O:uY (tq 3)=true:=ci
 have Z:uY (tq 4)=true:=ci
 have n5:uY (tq 5)=true:=ci
 have I:=asx (N+1) k i j e f g P d n l p t r q m;have u:=asy (N+1) k i j e f g P d n l p t r q m;have s:=asz (N+1) k i j e f g P d n l p t r q m;have L:dR (N+1) 0=some ():=by rw[rz];rfl
 have S:tx (N+1) (tq 0) (tE (N+1) (k,i,j,e,f,g,P,d,n,l,p,t,r,q,m)) (λE=>tx (N+1) (tq 1) E λE=>slI E 8)=some c->TC Tryz.prog tb (bg (tE (N+1) (k,i,j,e,f,g,P,d,n,l,p,t,r,q,m))) λy _=>y=.panic [{v:=nq c,recovered:=false}]:=λh=>by
  rw[afh];exact TC.SN b G h λJ w h=>TC.SN b H h λK z h=>ap6.tc B h (z.trans w) λ_=>rfl
 have U:tx (N+1) (tq 0) (tE (N+1) (k,i,j,e,f,g,P,d,n,l,p,t,r,q,m)) (λE=>tx (N+1) (tq 1) E λE=>tx (N+1) (tq 2) E λE=>tx (N+1) (tq 3) E λE=>slI E 8)=some c->TC Tryz.prog tb (bg (tE (N+1) (k,i,j,e,f,g,P,d,n,l,p,t,r,q,m))) λy _=>y=.panic [{v:=nq c,recovered:=false}]:=λh=>by
  rw[afh];exact TC.SN b G h λJ w h=>TC.SN b H h λK z h=>TC.SN b M h λQ D h=>TC.SN b O h λR F h=>ap7.tc B h (F.trans (D.trans (z.trans w))) λ_=>rfl
 have V:tx (N+1) (tq 0) (tE (N+1) (k,i,j,e,f,g,P,d,n,l,p,t,r,q,m)) (λE=>tx (N+1) (tq 1) E λE=>tx (N+1) (tq 2) E λE=>tx (N+1) (tq 3) E λE=>tx (N+1) (tq 4) E λE=>tx (N+1) (tq 5) E λE=>slI E 8)=some c->TC Tryz.prog tb (bg (tE (N+1) (k,i,j,e,f,g,P,d,n,l,p,t,r,q,m))) λy _=>y=.panic [{v:=nq c,recovered:=false}]:=λh=>by
  rw[afh];exact TC.SN b G h λJ w h=>TC.SN b H h λK z h=>TC.SN b M h λQ D h=>TC.SN b O h λR F h=>TC.SN b Z h λE5 X h=>TC.SN b n5 h λE6 Y h=>ap8.tc B h (Y.trans (X.trans (F.trans (D.trans (z.trans w))))) λ_=>rfl
 unfold Jf at h;simp only at h;generalize ru (N+1) (n,l,k,i,j,e,f,g,P,d)=oc at h I u s;cases oc with
 |none=>cases h
 |some a=>
  simp only[aW]at h I u s;by_cases A:a.2.1=0
  ·rw[A,L]at u s
   rw[A]at h;simp only[avF,auH,auv]at h u s;generalize kL (N+1) (wrap .i64 (((a.2.2.2.1.length:Nat):Int)+((a.2.2.2.2.length:Nat):Int)),g,P,d)=oo at h u s;cases oo with
   |none=>cases h
   |some o=>
    simp only at h u s;by_cases C:o.2.1=0
    ·rw[C,L]at s
     rw[C]at h;simp only[avF,auH,auv]at h s;exact V (s.trans h)
    ·rw[auW C]at h
     exact U (u.trans h)
  ·rw[auW A]at h
   exact S (I.trans h)
def Bs.mb(B:Bs)(l:u_):Bs:=⟨B.w,B.own,B.bW,B.sv,l⟩
section
variable{P:Fd}{B:Bs}{Rd:bF}{e:Env}{h:Hp}{w:GE}{st:St}{a:Act}
def SR.mb(b:SR B Rd e h w)(l:u_):SR (B.mb l) Rd e h w:=
 ⟨⟨b.ext.os,b.ext.tape,b.ext.output,b.ext.size,b.ext.block,b.ext.drawn⟩,b.kg,b.ob,b.base,b.inj,b.rL⟩
def SR.Co{l:u_}(b:SR (B.mb l) Rd e h w):SR B Rd e h w:=
 ⟨⟨b.ext.os,b.ext.tape,b.ext.output,b.ext.size,b.ext.block,b.ext.drawn⟩,b.kg,b.ob,b.base,b.inj,b.rL⟩
def Ga.mb(b:Ga B Rd e st a w)(l:u_):Ga (B.mb l) Rd e st {a with defers:=l} w:=
 ⟨b.n,rfl,b.sr.mb l,b.tr⟩
def Jg{id d:Nat}{I s:EQ}{p1 p2:String}{t o:dm}{g:FuncId}{b:gp}{r:hX}{l:bp}{Q:IO->Act->GE->Prop}
 (D:l=[⟨some d,.makeFunc (.func g) #[] b,I,p1,t,none⟩,⟨none,.defer ⟨.value (.tmp d), #[],r⟩,s,p2,o,none⟩]) (k:Ga B Rd e st a w) (p:d<st.n)
 (F:∀m:Act,Ga (B.mb ({target:=.fn (.func g) (b.map a.eval),args:= #[]}::B.df)) Rd e ⟨st.n,(d,.cl (.func g) [] (b.toList.map st.ev))::st.t,st.h⟩ m w->Q .normal m w):(Code.region id l.toArray false).wp P Q a w:=by
 subst D;refine wp_region_lit (axa λJ z=>?_);rw[auo (by simp[Region.wanted])];have H:VR (bN B Rd e st.h w) (some e) (.cl (.func g) [] (b.toList.map st.ev)) (.func (.func g) #[] (b.map a.eval)):=by
  have f:=k.args b;have:=VR.cl (Rd:=bN B Rd e st.h w) (E:=some e) (fn:=.func g) (fs:=[]) [] _ rfl f.1 (λj c u C=>by cases C) f.2;have x:(b.toList.map a.eval).toArray=b.map a.eval:=by rw[<-av5]
  rw[x]at this;exact this
 refine eu (v:=.func (.func g) #[] (b.map a.eval)) (w':=w) (by simp[execOp,Instr.makeFunc]) (z _ _ ?_);have i:=k.put p H;have q:(a.put (some d) (.func (.func g) #[] (b.map a.eval))).eval (.tmp d)=.func (.func g) #[] (b.map a.eval):=by
  have y:d<a.tmps.size:=by rw[k.n.1];exact p
  simp[Act.eval,Act.put,y]
 generalize a.put (some d) (.func (.func g) #[] (b.map a.eval))=n at i q;refine axa λK A=>?_;rw[auo (by simp[Region.wanted])];have G:(execOp n.eval ⟨none,.defer ⟨.value (.tmp d), #[],r⟩,s,p2,o,none⟩).run P w=.ok (.defer {target:=.fn (.func g) (b.map a.eval),args:= #[]}) w:=by
  simp[execOp,resolve,q,Deferred.ofValue]
 unfold Oper.wp;rw[G];refine A _ _ (F _ ?_);have f:=i.mb ({target:=.fn (.func g) (b.map a.eval),args:= #[]}::n.defers);rw[i.d]at f⊢;exact f
end
noncomputable def pb:Code:=eT f42
noncomputable def pq(i:a_):Code:=gw i pb
def ap9:pb=.seq (pq [0]) (.seq (pq [1,0]) (.seq (pq [1,1,0]) (.seq (pq [1,1,1,0]) (.seq (pq [1,1,1,1,0]) (pq [1,1,1,1,1]))))):=ci
def amT(c:Code):Prop:=∃(id:Nat) (g i:EQ) (p1 p2:String) (b d:dm) (f:hX),c=.region id [⟨some 14,.makeFunc (.func 102) #[] #[.tmp 3,.tmp 6,.tmp 7],g,p1,b,none⟩,⟨none,.defer ⟨.value (.tmp 14), #[],f⟩,i,p2,d,none⟩].toArray false
def aiS:amT (pq [1,1,0]):=⟨_,_,_,_,_,_,_,_,rfl⟩
noncomputable def gb:Code:=eT f102
noncomputable def gq(i:a_):Code:=gw i gb
def amU(c:Code):Prop:=∃(id:Nat) (f g:EQ) (p1 p2:String) (a b:dm) (e:hX),c=.region id [⟨some 6,.call ⟨.builtin .recover, #[],e⟩,f,p1,a,none⟩,⟨some 3,.assign (.tmp 6),g,p2,b,none⟩].toArray false
def ap_:amU (gq [0]):=⟨_,_,_,_,_,_,_,_,rfl⟩
noncomputable def asL:bp:=match gq [1,0]with
 |.region _ a _=>a.toList.drop 2
 |_=>[]
section
variable{P:Fd}{st:St}{d:iC}{ty:EQ}{pos:String}{af:dm}{gd:fH}
def RS.assert{x:If}{v:Id}{c:AV}(l:∃m,P.underlying g=some (.struct m))(o:st.ev x=.v (.iface g v))(n:∀Rd E,VR Rd E c v):RS P ⟨d,.typeAssert x e g true,ty,pos,af,gd⟩ st (.tu [c,.v (.bool true)]):=λs p b a w h=>by
 obtain⟨m,l⟩:=l;have i:=h.ev x;rw[o]at i;have i:=i.bL;refine⟨.tuple #[v,.bool true],?_,λr _=>?_⟩
 ·exact .tu [v,.bool true] rfl λj q u f k=>by
   match j with
   |0=>simp at f k;subst f;subst k;exact n _ _
   |1=>simp at f k;subst f;subst k;exact .v
   |j+2=>simp at f
 ·simp[execOp,i,Instr.typeAssert,auR l]
def aiT(h:amU b){Q:IO->Act->Do Frame->GE->Prop}{a:Act}{w:GE}{c:Frame}{e:Do Frame}{v:Id}(j:c.mode=.panicking [{v:=v,recovered:=false}])(m:6<a.tmps.size)
 (k:Q .normal ((a.put (some 6) v).put (some 3) v) ({c with mode:=.panicking [{v:=v,recovered:=true}]}::e) w):b.wpS P Q a (c::e) w:=by
 obtain⟨id,q,r,p1,p2,f,g,p,rfl⟩:=h;refine wpS_region ?_;have i:(a.put (some 6) v).eval (.tmp 6)=v:=by simp[Act.eval,Act.put,m]
 have n:(execOp a.eval ⟨some 6,.call ⟨.builtin .recover, #[],p⟩,q,p1,f,none⟩).run P w=.ok .recover w:=by simp[execOp,resolve,invoke,builtin]
 have o:(execOp (a.put (some 6) v).eval ⟨some 3,.assign (.tmp 6),r,p2,g,none⟩).run P w=.ok (.value v) w:=by simp[execOp,i]
 have l:recoverD (c::e)=some (v,{c with mode:=.panicking [{v:=v,recovered:=true}]}::e):=by simp[recoverD,j]
 show wpOpsS P _ Q [0,1] a (c::e) w;simp only[wpOpsS,avR,axV,av_,Region.wanted,n,o,l,au2,Oper.upon_value];exact k
end
section
section
variable{P:Fd}
def DCX(P:Fd)(f:FuncId)(a:Hp)(c:Do AV)(u g:FrameMode)(K:Hp->Prop):Prop:=
 ∀B Rd e w b,SR B Rd e a w->LR (VR (bN B Rd e a w) (some e)) c b->CallsD P f b.toArray u w λx h i=>(∃v,x=.returned v)/\h=g/\∃d H,K H/\SR B Rd d H i
def Ga.enter{fn:Func}{B:Bs}{Rd:bF}{e:Env}{w:GE}{H0:Hp}{av:Do AV}{vs:bC}(k:B.df=[])(n:av.length<=fn.ntmps)(j:fn.ntmps<=1000000)(m:SR B Rd e H0 w)(c:LR (VR (bN B Rd e H0 w) (some e)) av vs):
 Ga B Rd e ⟨fn.ntmps,oU 0 av,H0⟩ {tmps:=vs.toArray++Array.replicate (fn.ntmps - vs.toArray.size) undef,defers:=[]} w:=by
 refine⟨⟨by simp[c.1];omega,j⟩,by rw[k],m,λi=>?_⟩;rw[xu];simp only[auS,au2,axd];by_cases b:i<av.length
 ·have d:av[i]? =some av[i]:=auy b
  obtain⟨u,g,l⟩:=c.get d;have a:av.getD i .un=av[i]:=by simp[List.getD,d]
  have h:(vs.toArray++Array.replicate (fn.ntmps - vs.toArray.size) undef).getD i undef=u:=by
   have f:i<vs.length:=by rw[c.1];exact b
   simp[avA,axe,f];rw[auy f]at g;simpa using g
  rw[a,h];exact l
 ·have a:av.getD i .un=.un:=by simp[List.getD,au5 (awt b)]
  rw[a];exact .un
def DCX.rec{fn:Func}{c0 c1:Code}{i:Hp}{b:Do AV}{v:Id}{K:Hp->Prop}(z:P.funcs[h]? =some fn)(u:fn.body=some (.seq c0 c1))(t:amU c0)(E:b.length<=fn.ntmps)(y:fn.ntmps<=1000000)(n:6<fn.ntmps)(F:fn.results.toList=[])
 (a:TC P c1 ⟨fn.ntmps,(3,.v v)::(6,.v v)::oU 0 b,i⟩ λx r=>(x=.normal\/x=.ret)/\K r.h):DCX P h i b (.panicking [{v:=v,recovered:=false}]) (.panicking [{v:=v,recovered:=true}]) K:=by
 intro B Rd e w I G q;refine ayK z u λc J H=>wpS_seq (aiT t H (by simp[q.1];omega) ?_);have A:=Ga.enter (fn:=fn) (B:=B.mb []) (H0:=i) (av:=b) (vs:=I) rfl E y (G.mb []) q;have C:=A.put (d:=6) (c:=.v v) n .v;have D:=C.put (d:=3) (c:=.v v) (Nat.lt_trans d6 n) .v;refine wpS_of_wp (a _ _ _ _ _ _ D λx r k m l s j=>?_);have p:l.defers=[]:=j.d;have f:∃g,(results fn l.tmps).run P s=.ok g s:=by
  refine⟨.tuple #[],?_⟩;have:fn.results= #[]:=by simpa using F
  simp[results,this]
 obtain⟨g,f⟩:=f;obtain⟨k,o⟩:=k;rcases k with rfl|rfl
 ·exact⟨p,_,rfl,g,f,⟨_,rfl⟩,rfl,m,_,o,j.sr.Co⟩
 ·exact⟨p,_,rfl,g,f,⟨_,rfl⟩,rfl,m,_,o,j.sr.Co⟩
