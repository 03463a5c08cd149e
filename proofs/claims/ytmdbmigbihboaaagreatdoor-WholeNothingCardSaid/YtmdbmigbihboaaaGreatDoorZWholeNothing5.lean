/- part 5 -/
import Derived.Test.YtmdbmigbihboaaaGreatDoorZWholeNothing4
set_option linter.all false
noncomputable section
open Go Go.RowKit
open IntKind (wrap)
set_option maxRecDepth 100000
namespace Go.Proofs.YtmdbmigbihboaaaGreatDoor
abbrev j1:Sc:=.i .i64
abbrev j2:Sc:=.i .u32
abbrev j3:Sc:=.sl .b
abbrev j4:Sc:=.i .u64
abbrev j5:Sc:=.pr j1 j1
abbrev j6:Sc:=.sl j1
abbrev j7:Sc:=.pr j1 .b
abbrev j8:Sc:=.sl j2
abbrev j9:Sc:=.pr j1 j7
abbrev cj:Sc:=.sl j6
abbrev j11:Sc:=.pr j1 j5
abbrev cy:Sc:=.sl j5
abbrev j13:Sc:=.pr j5 j1
abbrev qj:Sc:=.pr j1 j9
abbrev j15:Sc:=.pr j1 j11
abbrev pv:Sc:=.sl j11
abbrev Ph:Sc:=.sl j13
abbrev j18:Sc:=.pr .b j13
abbrev c5:Sc:=.sl qj
abbrev fw:Sc:=.sl j15
abbrev j21:Sc:=.pr .b j18
abbrev j22:Sc:=.sl c5
abbrev j23:Sc:=.sl j21
abbrev A1:Type:=bh
abbrev A2:Type:=Int×(Int×Bool)
abbrev A3:Type:=bM
abbrev A4:Type:=Int×(Int×Int)
abbrev A5:Type:=CH
abbrev A6:Type:=Int×aX
abbrev A7:Type:=Int×Int×aX
abbrev A8:Type:=Bool×((Int×Int)×Int)
abbrev A9:Type:=Bool×aX
abbrev fx:Type:=List (Int×A2)
abbrev mR:Type:=List (Int×A4)
abbrev A12:Type:=Int×Int×A3
abbrev A13:Type:=List (Bool×A8)
abbrev A14:Type:=Int×mR×Int×bq×A3×Bool×Int×Int×fx
def uj:List CO:=[]
noncomputable def uk:FD:=⟨122,Tryz.f122,.z,[.h j1],[],[j1],⟨[(2,.h .b)],[],[.b]⟩,false,true,[]⟩
def LN:Nat->Int->eA:=mF uj uk
def aht:CO:=cF uj uk LN Tryz.func122
def aaJ N n:LN (N+1) n=cond (1<=n)
 (some (decide (n<=64)))
 (some false):=by kernel_rfl
def gY:List CO:=[]
def Sx:PS:=⟨[(0,.h j4),(2,.h j1)],[],[j4,j1]⟩
def Sy:List (Exit×PS):=[(.normal,⟨[(0,.h j4),(2,.h j1)],[],[j4,j1]⟩)]
def Sz:Pl:=.z
def SA:Nat->Nat->Int×Int->Pk:=jnF gY Tryz.f196 [1,1,0] Sx Sy Sz
def SB:PS:=⟨[(0,.h j4),(2,.h j1)],[],[j4,j1]⟩
def SC:List (Exit×PS):=[(.normal,⟨[(0,.h j4),(2,.h j1)],[],[j4,j1]⟩)]
def SD:Pl:=.z
def SE:Nat->Nat->Int×Int->Pk:=jnF gY Tryz.f196 [1,0] SB SC SD
noncomputable def mS:FD:=⟨196,Tryz.f196,(.n .z (.n (.join SB SC SD) (.n (.join Sx Sy Sz) .z))),[.h j4],[],[j4],⟨[(2,.h j1)],[],[j1]⟩,false,true,[]⟩
def SF:Nat->Int->eR:=mF gY mS
def alh:CO:=cF gY mS SF Tryz.func196
def Xf N m x n:SA N (m+1) (x,n)=cond (65536<=x)
 (some ((Int.fdiv x ((2:Int)^(min (Int.toNat 16) 64))),(wrap .i64 (n+16))))
 (some (x,n)):=by kernel_rfl
def Xg N m x n:SE N (m+1) (x,n)=cond (4294967296<=x)
 (some ((Int.fdiv x ((2:Int)^(min (Int.toNat 32) 64))),32))
 (some (x,n)):=by kernel_rfl
def aaK N x:SF (N+1) x=aW (SE N N (x,0)) λb=>
 aW (SA N N (b.1,b.2)) λa=>
 cond (256<=a.1)
  (aW (afb ⟨#[0,1,2,2,3,3,3,3,4,4,4,4,4,4,4,4,5,5,5,5,5,5,5,5,5,5,5,5,5,5,5,5,6,6,6,6,6,6,6,6,6,6,6,6,6,6,6,6,6,6,6,6,6,6,6,6,6,6,6,6,6,6,6,6,7,7,7,7,7,7,7,7,7,7,7,7,7,7,7,7,7,7,7,7,7,7,7,7,7,7,7,7,7,7,7,7,7,7,7,7,7,7,7,7,7,7,7,7,7,7,7,7,7,7,7,7,7,7,7,7,7,7,7,7,7,7,7,7,8,8,8,8,8,8,8,8,8,8,8,8,8,8,8,8,8,8,8,8,8,8,8,8,8,8,8,8,8,8,8,8,8,8,8,8,8,8,8,8,8,8,8,8,8,8,8,8,8,8,8,8,8,8,8,8,8,8,8,8,8,8,8,8,8,8,8,8,8,8,8,8,8,8,8,8,8,8,8,8,8,8,8,8,8,8,8,8,8,8,8,8,8,8,8,8,8,8,8,8,8,8,8,8,8,8,8,8,8,8,8,8,8,8,8,8,8,8,8,8,8,8,8,8,8,8,8,8]⟩ (wrap .u8 (Int.fdiv a.1 ((2:Int)^(min (Int.toNat 8) 64))))) λc=>
  some (wrap .i64 ((wrap .i64 (a.2+8))+(wrap .i64 c))))
  (aW (afb ⟨#[0,1,2,2,3,3,3,3,4,4,4,4,4,4,4,4,5,5,5,5,5,5,5,5,5,5,5,5,5,5,5,5,6,6,6,6,6,6,6,6,6,6,6,6,6,6,6,6,6,6,6,6,6,6,6,6,6,6,6,6,6,6,6,6,7,7,7,7,7,7,7,7,7,7,7,7,7,7,7,7,7,7,7,7,7,7,7,7,7,7,7,7,7,7,7,7,7,7,7,7,7,7,7,7,7,7,7,7,7,7,7,7,7,7,7,7,7,7,7,7,7,7,7,7,7,7,7,7,8,8,8,8,8,8,8,8,8,8,8,8,8,8,8,8,8,8,8,8,8,8,8,8,8,8,8,8,8,8,8,8,8,8,8,8,8,8,8,8,8,8,8,8,8,8,8,8,8,8,8,8,8,8,8,8,8,8,8,8,8,8,8,8,8,8,8,8,8,8,8,8,8,8,8,8,8,8,8,8,8,8,8,8,8,8,8,8,8,8,8,8,8,8,8,8,8,8,8,8,8,8,8,8,8,8,8,8,8,8,8,8,8,8,8,8,8,8,8,8,8,8,8,8,8,8,8,8]⟩ (wrap .u8 a.1)) λd=>
  some (wrap .i64 (a.2+(wrap .i64 d)))):=by kernel_rfl
def qk:List CO:=[alh]
noncomputable def ql:FD:=⟨142,Tryz.f142,.z,[.h j4],[],[j4],⟨[(2,.h j1)],[],[j1]⟩,false,true,[]⟩
def aaL:Nat->Int->eR:=mF qk ql
def ali:CO:=cF qk ql aaL Tryz.func142
def aaM N x:aaL (N+1) x=aW (SF N x) λa=>
 some a:=by kernel_rfl
def Az:List CO:=[aht,ali]
noncomputable def AA:FD:=⟨123,Tryz.f123,.z,[.h j1],[],[j1],⟨[(2,.h j1)],[],[j1]⟩,false,true,[]⟩
def DH:Nat->Int->eR:=mF Az AA
def aaN:CO:=cF Az AA DH Tryz.func123
def Xh N n:DH (N+1) n=aW (LN N n) λa=>
 cond (!a)
  (some 0)
  (aW (aaL N (wrap .u64 (wrap .i64 (n - 1)))) λb=>
  some b):=by kernel_rfl
def qm:List CO:=[⟨fJ,fK⟩,⟨lG,lg⟩]
noncomputable def qn:FD:=⟨124,Tryz.f124,.z,[.ag [.h j1,.h j1,.h j1,.h .b],.ag [.h j1,.h j1,.h j1,.h .b]],[],[j1,j1,j1,.b,j1,j1,j1,.b],⟨[(4,.h j1)],[],[j1]⟩,false,true,[]⟩
def DI:Nat->Int×Int×Int×Bool×Int×Int×Int×Bool->eR:=mF qm qn
def ahu:CO:=cF qm qn DI Tryz.func124
def aaO N a c e f b d g h:DI (N+1) (a,c,e,f,b,d,g,h)=aW (cI N (a,b)) λi=>
 aW (cI N (c,d)) λj=>
 aW (gG N [i,j]) λk=>
 some k:=by kernel_rfl
def nD:List CO:=[]
def SG:PS:=⟨[(1,.h j1),(5,.k (.ow 900)),(9,.h c5),(10,.h j1),(11,.h j1)],[(900,.arr 46 j5 true)],[j1,c5,j1,j1,cy]⟩
def SH:List (Exit×PS):=[((.exit 0),⟨[(5,.k (.ow 900))],[(900,.arr 46 j5 true)],[cy]⟩)]
def SI:Pl:=.z
def tf:Nat->Nat->Int×fx×Int×Int×A1->Option (A1):=gh nD Tryz.f56 [1,1,0,1,0,0] SG SH SI
noncomputable def um:FD:=⟨56,Tryz.f56,(.n .z (.n .z (.n (.n .z (.n (.loop SG SH SI) .z)) .z))),[.ag [.h j1,.h c5],.h j1],[],[j1,c5,j1],⟨[(4,.k (.ow 900))],[(900,.arr 46 j5 true)],[cy]⟩,true,true,[900]⟩
def LO:Nat->Int×fx×Int->Option (A1):=mF nD um
def ahv:CO:=cF nD um LO Tryz.func56
def tg N m b d c a l:tf N (m+1) (b,d,c,a,l)=cond (a<c)
 (aW (ba d a) λe=>
 cond e.2.2.2
  (cond (b<=e.2.2.1)
   (aW (eN 16 l [(e.1,e.2.1)]) λf=>
   (tf N m (b,d,c,(wrap .i64 (a+1)),f)))
   ((tf N m (b,d,c,(wrap .i64 (a+1)),l))))
  ((tf N m (b,d,c,(wrap .i64 (a+1)),l))))
 (some l):=by kernel_rfl
def aaP N g a b:LO (N+1) (g,a,b)=aW (tf N N (b,a,(List.length a:Int),0,[])) λc=>
 some c:=by kernel_rfl
def wH:List CO:=[]
noncomputable def wI:FD:=⟨91,Tryz.f91,.z,[.h j1],[],[j1],⟨[(2,.h .b)],[],[.b]⟩,false,true,[]⟩
def vu:Nat->Int->eA:=mF wH wI
def IP:CO:=cF wH wI vu Tryz.func91
def Xi N n:vu (N+1) n=cond (1<=n)
 (some (decide (n<=64)))
 (some false):=by kernel_rfl
def rA:List CO:=[IP]
def LP:PS:=⟨[(2,.k (.pt 900 0)),(4,.k (.pt 901 0)),(12,.h j1),(13,.h j1)],[(900,.box 80 [.h j1,.k .nil]),(901,.box 80 [.h j1,.k (.ow 902)]),(902,.arr 33 j6 true)],[j1,j1,j1,j1,cj]⟩
def LQ:List (Exit×PS):=[((.exit 0),⟨[(2,.k (.pt 900 0)),(4,.k (.pt 901 0))],[(900,.box 80 [.h j1,.k .nil]),(901,.box 80 [.h j1,.k (.ow 902)]),(902,.arr 33 j6 true)],[j1,j1,cj]⟩)]
def LS:Pl:=.z
def wJ:Nat->Nat->Int×Int×Int×Int×A3->Option A12:=gh rA Tryz.f125 [1,1,1,0,1,0,0] LP LQ LS
noncomputable def AB:FD:=⟨125,Tryz.f125,(.n .z (.n .z (.n .z (.n (.n .z (.n (.loop LP LQ LS) .z)) .z)))),[.h j1],[],[j1],⟨[(2,.k (.pt 900 0)),(3,.h j1)],[(900,.box 80 [.h j1,.h cj])],[j1,j1,cj]⟩,false,false,[]⟩
def IQ:Nat->Int->Option A12:=mF rA AB
def aiT:CO:=cF rA AB IQ Tryz.func125
def DJ N m b a c f d:wJ N (m+1) (b,a,c,f,d)=cond (a<b)
 (aW (eN 24 d [[a]]) λe=>
 (wJ N m (b,(wrap .i64 (a+1)),c,f,e)))
 (some (c,f,d)):=by kernel_rfl
def Xj N n:IQ (N+1) n=aW (vu N n) λb=>
 cond (!b)
  (some (1,0,[]))
  (aW (wJ N N (n,0,0,n,[])) λa=>
  some (0,a.2.1,a.2.2)):=by kernel_rfl
def nE:List CO:=[]
def SJ:PS:=⟨[(3,.k (.ow 900)),(6,.h cy),(7,.h j1),(8,.h j1)],[(900,.arr 3 j1 true)],[cy,j1,j1,j6]⟩
def SK:List (Exit×PS):=[((.exit 0),⟨[(3,.k (.ow 900))],[(900,.arr 3 j1 true)],[j6]⟩)]
def SL:Pl:=.z
def BZ:Nat->Nat->A1×Int×Int×aX->mC:=gh nE Tryz.f212 [1,1,0,1,0,0] SJ SK SL
noncomputable def uo:FD:=⟨212,Tryz.f212,(.n .z (.n .z (.n (.n .z (.n (.loop SJ SK SL) .z)) .z))),[.h cy],[],[cy],⟨[(2,.k (.ow 900))],[(900,.arr 3 j1 true)],[j6]⟩,true,true,[900]⟩
def SM:Nat->A1->mC:=mF nE uo
def alj:CO:=cF nE uo SM Tryz.func212
def Gy N m c d a b:BZ N (m+1) (c,d,a,b)=cond (a<d)
 (aW (ba c a) λe=>
 aW (eN 8 b [e.1,e.2]) λf=>
 (BZ N m (c,d,(wrap .i64 (a+1)),f)))
 (some b):=by kernel_rfl
def aaQ N l:SM (N+1) l=aW (BZ N N (l,(List.length l:Int),0,[])) λa=>
 some a:=by kernel_rfl
def rB:List CO:=[]
noncomputable def rC:FD:=⟨162,Tryz.f162,.z,[.h j1],[],[j1],⟨[(2,.h .b)],[],[.b]⟩,false,true,[]⟩
def SN:Nat->Int->eA:=mF rB rC
def alk:CO:=cF rB rC SN Tryz.func162
def aaR N t:SN (N+1) t=cond (t<0)
 (some true)
 (some (decide (10000<t))):=by kernel_rfl
def dz:List CO:=[alk]
def SO:PS:=⟨[(0,.h j6),(1,.k (.v (.func (.func 162) #[] #[]))),(7,.h j1),(8,.h j1)],[],[j6,j1,j1]⟩
def SQ:List (Exit×PS):=[((.exit 0),⟨[],[],[]⟩),(.ret,⟨[(4,.h j1)],[],[j1]⟩)]
def SU:Pl:=.z
def B0:Nat->Nat->aX×Int×Int->Option ((Unit)⊕(Int)):=gh dz Tryz.f116 [1,0,1,0,0] SO SQ SU
noncomputable def eK:FD:=⟨116,Tryz.f116,(.n .z (.n (.n .z (.n (.loop SO SQ SU) .z)) .z)),[.h j6,.k (.v (.func (.func 162) #[] #[]))],[],[j6],⟨[(4,.h j1)],[],[j1]⟩,false,true,[]⟩
def aaS:Nat->aX->eR:=mF dz eK
def alm:CO:=cF dz eK aaS as5
def Gz N m s b a:B0 N (m+1) (s,b,a)=cond (a<b)
 (aW (ba s a) λc=>
 aW (SN N c) λd=>
 cond d
  (some (.inr a))
  ((B0 N m (s,b,(wrap .i64 (a+1))))))
 (some (.inl ())):=by kernel_rfl
def aaT N s:aaS (N+1) s=aW (B0 N N (s,(List.length s:Int),0)) λa=>
 (match a with
 |.inl c=>some (-1)
 |.inr b=>some b):=by kernel_rfl
def eC:List CO:=[alm]
noncomputable def eD:FD:=⟨48,Tryz.f48,.z,[.h j6,.k (.v (.func (.func 162) #[] #[]))],[],[j6],⟨[(4,.h .b)],[],[.b]⟩,false,true,[]⟩
def SX:Nat->aX->eA:=mF eC eD
def aln:CO:=cF eC eD SX ats
def aaU N s:SX (N+1) s=aW (aaS N s) λa=>
 some (decide (0<=a)):=by kernel_rfl
def lh:List CO:=[]
def SY:PS:=⟨[(0,.h j6),(3,.k (.mp 900)),(7,.h j6),(8,.h j1),(9,.h j1)],[(900,.mp (.int .i64) j1 j1)],[j6,j6,j1,j1,cy]⟩
def SZ:List (Exit×PS):=[((.exit 0),⟨[(0,.h j6),(3,.k (.mp 900))],[(900,.mp (.int .i64) j1 j1)],[j6,cy]⟩)]
def S0:Pl:=.z
def B1:Nat->Nat->aX×aX×Int×Int×A1->Option (aX×A1):=gh lh Tryz.f163 [1,1,0,1,0,0] SY SZ S0
noncomputable def qo:FD:=⟨163,Tryz.f163,(.n .z (.n .z (.n (.n .z (.n (.loop SY SZ S0) .z)) .z))),[.h j6],[],[j6],⟨[(2,.h .b)],[],[.b]⟩,false,true,[]⟩
def S2:Nat->aX->eA:=mF lh qo
def alo:CO:=cF lh qo S2 Tryz.func163
def GA N m l c d b a:B1 N (m+1) (l,c,d,b,a)=cond (b<d)
 (aW (ba c b) λe=>
 (B1 N m (l,c,d,(wrap .i64 (b+1)),(dS j1 a e (wrap .i64 ((Option.getD (bJ j1 a e) 0)+1))))))
 (some (l,a)):=by kernel_rfl
def aaV N l:S2 (N+1) l=aW (B1 N N (l,l,(List.length l:Int),0,[])) λa=>
 some (decide ((List.length a.2:Int)=(List.length a.1:Int))):=by kernel_rfl
def wK:List CO:=[aln,alo]
noncomputable def wL:FD:=⟨92,Tryz.f92,.z,[.h j6],[],[j6],⟨[(2,.h .b)],[],[.b]⟩,false,true,[]⟩
def zG:Nat->aX->eA:=mF wK wL
def Qr:CO:=cF wK wL zG Tryz.func92
def Xk N l:zG (N+1) l=cond (1000<(List.length l:Int))
 (some false)
 (aW (SX N l) λa=>
 cond (!a)
  (aW (S2 N l) λb=>
  some b)
  (some false)):=by kernel_rfl
def gW:List CO:=[]
def S3:PS:=⟨[(0,.h j6),(3,.h j1),(4,.h j1)],[],[j6,j1,j1]⟩
def S4:List (Exit×PS):=[((.exit 0),⟨[(3,.h j1)],[],[j1]⟩)]
def S5:Pl:=.z
def B2:Nat->Nat->aX×Int×Int->eR:=gh gW Tryz.f93 [1,1,1,0,1,0,0] S3 S4 S5
noncomputable def jY:FD:=⟨93,Tryz.f93,(.n .z (.n .z (.n .z (.n (.n .z (.n (.loop S3 S4 S5) .z)) .z)))),[.h j6],[],[j6],⟨[(2,.h j1)],[],[j1]⟩,false,true,[]⟩
def LU:Nat->aX->eR:=mF gW jY
def ahw:CO:=cF gW jY LU Tryz.func93
def GB N m x a i:B2 N (m+1) (x,a,i)=cond (i<(List.length x:Int))
 (aW (ba x i) λb=>
 (B2 N m (x,(if(b<a)then b else a),(wrap .i64 (i+1)))))
 (some a):=by kernel_rfl
def aaW N x:LU (N+1) x=cond ((List.length x:Int)<1)
 none
 (aW (ba x 0) λa=>
 aW (B2 N N (x,a,1)) λb=>
 some b):=by kernel_rfl
def GC:List CO:=[IP]
noncomputable def GD:FD:=⟨128,Tryz.f128,.z,[.h j1,.h j1],[],[j1,j1],⟨[(4,.h .b)],[],[.b]⟩,false,true,[]⟩
def nF:Nat->Int×Int->eA:=mF GC GD
def IS:CO:=cF GC GD nF Tryz.func128
def Xl N n v:nF (N+1) (n,v)=aW (vu N n) λa=>
 cond a
  (cond (0<=v)
   (some (decide (v<n)))
   (some false))
  (some false):=by kernel_rfl
def wM:List CO:=[IP]
noncomputable def wN:FD:=⟨164,Tryz.f164,.z,[.h j1,.h j1],[],[j1,j1],⟨[(4,.h j1),(5,.h j1),(6,.h .b),(7,.h .b)],[],[j1,j1,.b,.b]⟩,false,true,[]⟩
def IT:Nat->Int×Int->Option (Int×Int×Bool×Bool):=mF wM wN
def aiU:CO:=cF wM wN IT Tryz.func164
def Xm N n a:IT (N+1) (n,a)=aW (vu N n) λd=>
 cond (!d)
  (some (0,0,false,false))
  (cond (a<0)
   (some (0,0,false,false))
   (cond ((wrap .i64 (n*(wrap .i64 (n+1))))<=a)
    (some (0,0,false,false))
    (cond (a<n)
     (some (a,0,false,true))
     (aW (PC a n) λb=>
     aW (FQ a n) λc=>
     cond ((wrap .i64 ((wrap .i64 b) - 1))=c)
      (some (0,0,false,false))
      (some ((wrap .i64 ((wrap .i64 b) - 1)),c,true,true)))))):=by kernel_rfl
def jb:List CO:=[]
noncomputable def jc:FD:=⟨165,Tryz.f165,.z,[.k (.pt 4294967296 0),.h j1,.h j1],[(4294967296,.box 268 [.k (.ow 4294967297),.k (.mp 4294967298),.k (.mp 4294967299)]),(4294967297,.arr 3 j1 true),(4294967298,.mp (.int .i64) j1 j1),(4294967299,.mp (.int .i64) j1 j1)],[j1,j1,j6,cy,cy],⟨[(6,.h .b)],[(4294967298,.mp (.int .i64) j1 j1),(4294967299,.mp (.int .i64) j1 j1),(4294967296,.box 268 [.k (.ow 900),.k (.mp 4294967298),.k (.mp 4294967299)]),(900,.arr 3 j1 true)],[.b,cy,cy,j6]⟩,true,true,[4294967298,4294967299,4294967296,900]⟩
def S6:Nat->Int×Int×aX×A1×A1->Option (Bool×A1×A1×aX):=mF jb jc
def alp:CO:=cF jb jc S6 Tryz.func165
def aaX N u v h a b:S6 (N+1) (u,v,h,a,b)=aW (ba h (wrap .i64 ((List.length h:Int) - 1))) λi=>
 aW (ba h (wrap .i64 ((List.length h:Int) - 1))) λc=>
 cond (!(c=u))
  (some (false,a,b,h))
  (cond (0<(wrap .i64 ((List.length h:Int) - 1)))
   (aW (ba h (wrap .i64 ((wrap .i64 ((List.length h:Int) - 1)) - 1))) λj=>
   aW (ba h (wrap .i64 ((wrap .i64 ((List.length h:Int) - 1)) - 1))) λd=>
   cond (d=v)
    (aW (jm h 0 (wrap .i64 ((List.length h:Int) - 1))) λe=>
    some (true,a,b,e))
    (cond (0<(Option.getD (bJ j1 a v) 0))
     (some (false,a,b,h))
     (aW (eN 8 h [v]) λf=>
     some (true,(dS j1 a v (wrap .i64 ((Option.getD (bJ j1 a v) 0)+1))),b,f))))
   (cond (0<(Option.getD (bJ j1 a v) 0))
    (some (false,a,b,h))
    (aW (eN 8 h [v]) λg=>
    some (true,(dS j1 a v (wrap .i64 ((Option.getD (bJ j1 a v) 0)+1))),b,g)))):=by kernel_rfl
def rD:List CO:=[IS,aiU,alp]
def LV:PS:=⟨[(0,.h j1),(5,.k (.pt 900 0)),(30,.h j6),(31,.h j1),(32,.h j1)],[(900,.box 268 [.k (.ow 901),.k (.mp 902),.k (.mp 903)]),(901,.arr 3 j1 true),(902,.mp (.int .i64) j1 j1),(903,.mp (.int .i64) j1 j1)],[j1,j6,j1,j1,j6,cy,cy]⟩
def LW:List (Exit×PS):=[((.exit 0),⟨[(5,.k (.pt 900 0))],[(900,.box 268 [.k (.ow 901),.k (.mp 902),.k (.mp 903)]),(901,.arr 3 j1 true),(902,.mp (.int .i64) j1 j1),(903,.mp (.int .i64) j1 j1)],[j6,cy,cy]⟩),(.ret,⟨[(4,.h .b)],[],[.b]⟩)]
def LX:Pl:=.z
def hZ:Nat->Nat->Int×aX×Int×Int×aX×A1×A1->Option ((aX×A1×A1)⊕(Bool)):=gh rD Tryz.f94 [1,1,1,0,1,0,0] LV LW LX
noncomputable def AD:FD:=⟨94,Tryz.f94,(.n .z (.n .z (.n .z (.n (.n .z (.n (.loop LV LW LX) .z)) .z)))),[.h j1,.h j6],[],[j1,j6],⟨[(4,.h .b)],[],[.b]⟩,false,true,[]⟩
def IU:Nat->Int×aX->eA:=mF rD AD
def aiV:CO:=cF rD AD IU Tryz.func94
def Qs N m n e f c d h g:hZ N (m+1) (n,e,f,c,d,h,g)=cond (c<f)
 (aW (ba e c) λi=>
 aW (IT N (n,i)) λa=>
 cond (!a.2.2.2)
  (some (.inr false))
  (cond a.2.2.1
   (aW (S6 N (a.1,a.2.1,d,h,g)) λb=>
   cond (!b.1)
    (some (.inr false))
    (cond (!a.2.2.1)
     (aW (ba b.2.2.2 (wrap .i64 ((List.length b.2.2.2:Int) - 1))) λl=>
     aW (ba b.2.2.2 (wrap .i64 ((List.length b.2.2.2:Int) - 1))) λj=>
     cond (!(j=a.1))
      (some (.inr false))
      (cond (!a.2.2.1)
       ((hZ N m (n,e,f,(wrap .i64 (c+1)),b.2.2.2,b.2.1,(dS j1 b.2.2.1 a.1 (wrap .i64 ((Option.getD (bJ j1 b.2.2.1 a.1) 0)+1))))))
       ((hZ N m (n,e,f,(wrap .i64 (c+1)),b.2.2.2,b.2.1,b.2.2.1)))))
     (cond (!a.2.2.1)
      ((hZ N m (n,e,f,(wrap .i64 (c+1)),b.2.2.2,b.2.1,(dS j1 b.2.2.1 a.1 (wrap .i64 ((Option.getD (bJ j1 b.2.2.1 a.1) 0)+1))))))
      ((hZ N m (n,e,f,(wrap .i64 (c+1)),b.2.2.2,b.2.1,b.2.2.1))))))
   (cond (!a.2.2.1)
    (aW (ba d (wrap .i64 ((List.length d:Int) - 1))) λo=>
    aW (ba d (wrap .i64 ((List.length d:Int) - 1))) λk=>
    cond (!(k=a.1))
     (some (.inr false))
     (cond (!a.2.2.1)
      ((hZ N m (n,e,f,(wrap .i64 (c+1)),d,h,(dS j1 g a.1 (wrap .i64 ((Option.getD (bJ j1 g a.1) 0)+1))))))
      ((hZ N m (n,e,f,(wrap .i64 (c+1)),d,h,g)))))
    (cond (!a.2.2.1)
     ((hZ N m (n,e,f,(wrap .i64 (c+1)),d,h,(dS j1 g a.1 (wrap .i64 ((Option.getD (bJ j1 g a.1) 0)+1))))))
     ((hZ N m (n,e,f,(wrap .i64 (c+1)),d,h,g)))))))
 (some (.inl (d,h,g))):=by kernel_rfl
def Xn N n l:IU (N+1) (n,l)=aW (ba l 0) λb=>
 aW (nF N (n,b)) λc=>
 cond (!c)
  (some false)
  (aW (ba l 0) λd=>
  aW (ba l 0) λe=>
  aW (hZ N N (n,l,(List.length l:Int),0,[d],(dS j1 [] e 1),[])) λf=>
  (match f with
  |.inl a=>cond ((List.length a.1:Int)=1)
   (some (decide ((List.length a.2.2:Int)=(List.length a.2.1:Int))))
   (some false)
  |.inr g=>some g)):=by kernel_rfl
def jF:List CO:=[IP,Qr,ahw,aiV]
def LY:PS:=⟨[(3,.k (.mp 900)),(78,.h j1),(79,.h j1)],[(900,.mp (.int .i64) j1 j1)],[j1,j1,cy]⟩
def LZ:List (Exit×PS):=[((.exit 4),⟨[],[],[]⟩),(.ret,⟨[(2,.h .b)],[],[.b]⟩)]
def L0:Pl:=.z
def wO:Nat->Nat->Int×Int×A1->Option ((Unit)⊕(Bool)):=gh jF Tryz.f36 [1,1,1,1,1,0,1,0,0] LY LZ L0
def L1:PS:=⟨[(1,.k (.pt 900 0)),(3,.k (.mp 901)),(4,.h j1),(16,.h cj),(17,.h j1),(18,.h j1),(55,.h j6),(56,.h j1),(57,.h j1)],[(900,.box 80 [.h j1,.h cj]),(901,.mp (.int .i64) j1 j1)],[j1,cj,j1,j1,j6,j1,j1,j1,cj,cy]⟩
def L2:List (Exit×PS):=[((.exit 2),⟨[(1,.k (.pt 900 0)),(3,.k (.mp 901)),(4,.h j1),(16,.h cj),(17,.h j1),(18,.h j1)],[(900,.box 80 [.h j1,.h cj]),(901,.mp (.int .i64) j1 j1)],[j1,cj,j1,j1,j1,cj,cy]⟩),(.ret,⟨[(2,.h .b)],[],[.b]⟩)]
def L3:Pl:=.z
def rE:Nat->Nat->Int×A3×Int×Int×aX×Int×Int×Int×A3×A1->Option ((Int×A3×Int×Int×Int×A3×A1)⊕(Bool)):=gh jF Tryz.f36 [1,1,1,1,0,1,0,0,1,1,0,0,1,1,1,1,0,0] L1 L2 L3
def L4:PS:=⟨[(1,.k (.pt 900 0)),(3,.k (.mp 901)),(4,.h j1),(16,.h cj),(17,.h j1),(18,.h j1)],[(900,.box 80 [.h j1,.h cj]),(901,.mp (.int .i64) j1 j1)],[j1,cj,j1,j1,j1,cj,cy]⟩
def L5:List (Exit×PS):=[((.exit 0),⟨[(1,.k (.pt 900 0)),(3,.k (.mp 901))],[(900,.box 80 [.h j1,.h cj]),(901,.mp (.int .i64) j1 j1)],[j1,cj,cy]⟩),(.ret,⟨[(2,.h .b)],[],[.b]⟩)]
def L6:Pl:=(.n .z (.n .z (.n (.n (.n .z (.n .z (.n .z (.n .z (.n (.loop L1 L2 L3) .z))))) .z) .z)))
def wP:Nat->Nat->Int×A3×Int×Int×Int×A3×A1->Option ((Int×A3×A1)⊕(Bool)):=gh jF Tryz.f36 [1,1,1,1,0,1,0,0] L4 L5 L6
noncomputable def wQ:FD:=⟨36,Tryz.f36,(.n .z (.n .z (.n .z (.n .z (.n (.n .z (.n (.loop L4 L5 L6) .z)) (.n (.n .z (.n (.loop LY LZ L0) .z)) .z)))))),[.ag [.h j1,.h cj]],[],[j1,cj],⟨[(2,.h .b)],[],[.b]⟩,false,true,[]⟩
def rF:Nat->Int×A3->eA:=mF jF wQ
def IV:CO:=cF jF wQ rF Tryz.func36
def Qt N m c a b:wO N (m+1) (c,a,b)=cond (a<c)
 (cond ((Option.getD (bJ j1 b a) 0)=0)
  (some (.inr false))
  ((wO N m (c,(wrap .i64 (a+1)),b))))
 (some (.inl ())):=by kernel_rfl
def Qu N m e g h i j k c f d a:rE N (m+1) (e,g,h,i,j,k,c,f,d,a)=cond (c<k)
 (aW (ba j c) λb=>
 cond (b<f)
  (cond (0<(Option.getD (bJ j1 a b) 0))
   (some (.inr false))
   ((rE N m (e,g,h,i,j,k,(wrap .i64 (c+1)),f,d,(dS j1 a b (wrap .i64 ((Option.getD (bJ j1 a b) 0)+1)))))))
  ((rE N m (e,g,h,i,j,k,(wrap .i64 (c+1)),f,d,(dS j1 a b (wrap .i64 ((Option.getD (bJ j1 a b) 0)+1)))))))
 (some (.inl (e,g,h,i,f,d,a))):=by kernel_rfl
def Qv N m i g h c f d e:wP N (m+1) (i,g,h,c,f,d,e)=cond (c<h)
 (aW (ba g c) λa=>
 cond ((List.length a:Int)=0)
  (some (.inr false))
  (aW (ba a 0) λj=>
  cond (j<=i)
   (some (.inr false))
   (aW (zG N a) λk=>
   cond (!k)
    (some (.inr false))
    (aW (LU N a) λl=>
    aW (ba a 0) λn=>
    cond (!(l=n))
     (some (.inr false))
     (aW (IU N (f,a)) λo=>
     cond (!o)
      (some (.inr false))
      (aW (ba a 0) λp=>
      aW (rE N N (p,g,h,c,a,(List.length a:Int),0,f,d,e)) λq=>
      (match q with
      |.inl b=>(wP N m (b.1,b.2.1,b.2.2.1,(wrap .i64 (b.2.2.2.1+1)),b.2.2.2.2.1,b.2.2.2.2.2.1,b.2.2.2.2.2.2))
      |.inr r=>some (.inr r))))))))
 (some (.inl (f,d,e))):=by kernel_rfl
def Xo N f a:rF (N+1) (f,a)=aW (vu N f) λc=>
 cond (!c)
  (some false)
  (aW (wP N N ((-1),a,(List.length a:Int),0,f,a,[])) λd=>
  (match d with
  |.inl b=>aW (wO N N (b.1,0,b.2.2)) λe=>
   (match e with
   |.inl i=>some true
   |.inr g=>some g)
  |.inr h=>some h)):=by kernel_rfl
def kL:List CO:=[]
noncomputable def kM:FD:=⟨127,Tryz.f127,.z,[.h j1,.k (.pt 4294967296 0)],[(4294967296,.box 80 [.h j1,.h cj])],[j1,j1,cj],⟨[(3,.h .b)],[(4294967296,.box 80 [.h j1,.h cj])],[.b,j1,cj]⟩,true,false,[4294967296]⟩
def S7:Nat->Int×Int×A3->Option (Bool×Int×A3):=mF kL kM
def alq:CO:=cF kL kM S7 Tryz.func127
def aaY N v a b:S7 (N+1) (v,a,b)=cond (v<0)
 (some (true,a,b))
 (some ((decide (a<=v)),a,b)):=by kernel_rfl
def cq:List CO:=[alq]
def S8:PS:=⟨[(0,.h j6),(1,.cl (.func 127) [] [.k (.pt 4294967296 0)]),(7,.h j1),(8,.h j1)],[(4294967296,.box 80 [.h j1,.h cj])],[j6,j1,j1,j1,cj]⟩
def S9:List (Exit×PS):=[((.exit 0),⟨[],[(4294967296,.box 80 [.h j1,.h cj])],[j1,cj]⟩),(.ret,⟨[(4,.h j1)],[(4294967296,.box 80 [.h j1,.h cj])],[j1,j1,cj]⟩)]
def S_:Pl:=.z
def B3:Nat->Nat->aX×Int×Int×Int×A3->Option ((Int×A3)⊕A12):=gh cq Tryz.f116 [1,0,1,0,0] S8 S9 S_
noncomputable def dK:FD:=⟨116,Tryz.f116,(.n .z (.n (.n .z (.n (.loop S8 S9 S_) .z)) .z)),[.h j6,.cl (.func 127) [] [.k (.pt 4294967296 0)]],[(4294967296,.box 80 [.h j1,.h cj])],[j6,j1,cj],⟨[(4,.h j1)],[(4294967296,.box 80 [.h j1,.h cj])],[j1,j1,cj]⟩,true,false,[4294967296]⟩
def aaZ:Nat->aX×Int×A3->Option A12:=mF cq dK
def alr:CO:=cF cq dK aaZ as5
def Xp N m s d a f c:B3 N (m+1) (s,d,a,f,c)=cond (a<d)
 (aW (ba s a) λe=>
 aW (S7 N (e,f,c)) λb=>
 cond b.1
  (some (.inr (a,b.2.1,b.2.2)))
  ((B3 N m (s,d,(wrap .i64 (a+1)),b.2.1,b.2.2))))
 (some (.inl (f,c))):=by kernel_rfl
def aa0 N s f b:aaZ (N+1) (s,f,b)=aW (B3 N N (s,(List.length s:Int),0,f,b)) λd=>
 (match d with
 |.inl c=>some ((-1),c.1,c.2)
 |.inr a=>some (a.1,a.2.1,a.2.2)):=by kernel_rfl
def dt:List CO:=[alr]
noncomputable def du:FD:=⟨48,Tryz.f48,.z,[.h j6,.cl (.func 127) [] [.k (.pt 4294967296 0)]],[(4294967296,.box 80 [.h j1,.h cj])],[j6,j1,cj],⟨[(4,.h .b)],[(4294967296,.box 80 [.h j1,.h cj])],[.b,j1,cj]⟩,true,false,[4294967296]⟩
def aiW:Nat->aX×Int×A3->Option (Bool×Int×A3):=mF dt du
def aon:CO:=cF dt du aiW ats
def afZ N s f b:aiW (N+1) (s,f,b)=aW (aaZ N (s,f,b)) λa=>
 some ((decide (0<=a.1)),a.2.1,a.2.2):=by kernel_rfl
def rG:List CO:=[IV,aon]
noncomputable def rH:FD:=⟨57,Tryz.f57,.z,[.ag [.h j1,.h cj],.h j6],[],[j1,cj,j6],⟨[(4,.h j1)],[],[j1]⟩,false,true,[]⟩
def GG:Nat->Int×A3×aX->eR:=mF rG rH
def aa1:CO:=cF rG rH GG Tryz.func57
def aa2 N f a b:GG (N+1) (f,a,b)=aW (rF N (f,a)) λc=>
 cond (!c)
  (some 1)
  (aW (aiW N (b,f,a)) λd=>
  cond d.1
   (some 10)
   (some 0)):=by kernel_rfl
def wR:List CO:=[IV,IS]
noncomputable def wS:FD:=⟨213,Tryz.f213,.z,[.ag [.h j1,.h cj],.h j1,.h j1],[],[j1,cj,j1,j1],⟨[(6,.h j1)],[],[j1]⟩,false,true,[]⟩
def IW:Nat->Int×A3×Int×Int->eR:=mF wR wS
def aiX:CO:=cF wR wS IW Tryz.func213
def Xq N f a u v:IW (N+1) (f,a,u,v)=aW (rF N (f,a)) λb=>
 cond (!b)
  (some 1)
  (aW (nF N (f,u)) λc=>
  cond (!c)
   (some 10)
   (aW (nF N (f,v)) λd=>
   cond (!d)
    (some 10)
    (some 0))):=by kernel_rfl
def gi:List CO:=[]
def Ta:PS:=⟨[(0,.h j6),(1,.h j1),(7,.h j1),(8,.h j1)],[],[j6,j1,j1,j1]⟩
def Tb:List (Exit×PS):=[((.exit 0),⟨[],[],[]⟩),(.ret,⟨[(4,.h j1)],[],[j1]⟩)]
def Tc:Pl:=.z
def B4:Nat->Nat->aX×Int×Int×Int->Option ((Unit)⊕(Int)):=gh gi Tryz.f119 [1,0,1,0,0] Ta Tb Tc
noncomputable def jd:FD:=⟨119,Tryz.f119,(.n .z (.n (.n .z (.n (.loop Ta Tb Tc) .z)) .z)),[.h j6,.h j1],[],[j6,j1],⟨[(4,.h j1)],[],[j1]⟩,false,true,[]⟩
def GH:Nat->aX×Int->eR:=mF gi jd
def aa3:CO:=cF gi jd GH Tryz.func119
def GI N m s v b a:B4 N (m+1) (s,v,b,a)=cond (a<b)
 (aW (ba s a) λc=>
 cond (v=c)
  (some (.inr a))
  ((B4 N m (s,v,b,(wrap .i64 (a+1))))))
 (some (.inl ())):=by kernel_rfl
def aa4 N s v:GH (N+1) (s,v)=aW (B4 N N (s,v,(List.length s:Int),0)) λa=>
 (match a with
 |.inl c=>some (-1)
 |.inr b=>some b):=by kernel_rfl
def h8:List CO:=[aa3]
noncomputable def h9:FD:=⟨179,Tryz.f179,.z,[.h j6,.h j1],[],[j6,j1],⟨[(4,.h .b)],[],[.b]⟩,false,true,[]⟩
def DK:Nat->aX×Int->eA:=mF h8 h9
def Td:CO:=cF h8 h9 DK Tryz.func179
def aa5 N s v:DK (N+1) (s,v)=aW (GH N (s,v)) λa=>
 some (decide (0<=a)):=by kernel_rfl
def mT:List CO:=[Td]
noncomputable def mU:FD:=⟨178,Tryz.f178,.z,[.h j6,.k (.pt 4294967296 0)],[(4294967296,.box 3 [.h j1])],[j6,j1],⟨[(3,.h .b)],[(4294967296,.box 3 [.h j1])],[.b,j1]⟩,true,true,[4294967296]⟩
def aa6:Nat->aX×Int->Option (Bool×Int):=mF mT mU
def als:CO:=cF mT mU aa6 Tryz.func178
def aa7 N l a:aa6 (N+1) (l,a)=aW (DK N (l,a)) λb=>
 some (b,a):=by kernel_rfl
def cz:List CO:=[als]
def Te:PS:=⟨[(0,.h cj),(1,.cl (.func 178) [] [.k (.pt 4294967296 0)]),(7,.h j1),(8,.h j1)],[(4294967296,.box 3 [.h j1])],[cj,j1,j1,j1]⟩
def Tf:List (Exit×PS):=[((.exit 0),⟨[],[(4294967296,.box 3 [.h j1])],[j1]⟩),(.ret,⟨[(4,.h j1)],[(4294967296,.box 3 [.h j1])],[j1,j1]⟩)]
def Tg:Pl:=.z
def B5:Nat->Nat->A3×Int×Int×Int->Option ((Int)⊕(Int×Int)):=gh cz Tryz.f177 [1,0,1,0,0] Te Tf Tg
noncomputable def dN:FD:=⟨177,Tryz.f177,(.n .z (.n (.n .z (.n (.loop Te Tf Tg) .z)) .z)),[.h cj,.cl (.func 178) [] [.k (.pt 4294967296 0)]],[(4294967296,.box 3 [.h j1])],[cj,j1],⟨[(4,.h j1)],[(4294967296,.box 3 [.h j1])],[j1,j1]⟩,true,true,[4294967296]⟩
def aa8:Nat->A3×Int->Pk:=mF cz dN
def alu:CO:=cF cz dN aa8 Tryz.func177
def Xr N m s b a f:B5 N (m+1) (s,b,a,f)=cond (a<b)
 (aW (ba s a) λd=>
 aW (aa6 N (d,f)) λc=>
 cond c.1
  (some (.inr (a,c.2)))
  ((B5 N m (s,b,(wrap .i64 (a+1)),c.2))))
 (some (.inl f)):=by kernel_rfl
def aa9 N s f:aa8 (N+1) (s,f)=aW (B5 N N (s,(List.length s:Int),0,f)) λb=>
 (match b with
 |.inl c=>some ((-1),c)
 |.inr a=>some (a.1,a.2)):=by kernel_rfl
def wT:List CO:=[alu]
noncomputable def wV:FD:=⟨129,Tryz.f129,.z,[.ag [.h j1,.h cj],.h j1],[],[j1,cj,j1],⟨[(4,.h j1)],[],[j1]⟩,false,true,[]⟩
def zH:Nat->Int×A3×Int->eR:=mF wT wV
def aa_:CO:=cF wT wV zH Tryz.func129
def Xs N f a v:zH (N+1) (f,a,v)=aW (aa8 N (a,v)) λb=>
 some b.1:=by kernel_rfl
def nG:List CO:=[Qr,aa3,Td]
def Th:PS:=⟨[(0,.h j6),(6,.k (.ow 900)),(12,.h j6),(13,.h j1),(14,.h j1)],[(900,.arr 3 j1 true)],[j6,j6,j1,j1,j6]⟩
def Ti:List (Exit×PS):=[((.exit 0),⟨[(6,.k (.ow 900))],[(900,.arr 3 j1 true)],[j6]⟩)]
def Tj:Pl:=.z
def B6:Nat->Nat->aX×aX×Int×Int×aX->mC:=gh nG Tryz.f254 [1,1,1,0,1,0,0] Th Ti Tj
noncomputable def uq:FD:=⟨254,Tryz.f254,(.n .z (.n .z (.n .z (.n (.n .z (.n (.loop Th Ti Tj) .z)) .z)))),[.h j6,.h j6],[],[j6,j6],⟨[(4,.k (.ow 900)),(5,.h .b)],[(900,.arr 3 j1 true)],[.b,j6]⟩,true,true,[900]⟩
def Tl:Nat->aX×aX->Option A9:=mF nG uq
def alv:CO:=cF nG uq Tl Tryz.func254
def GJ N m l b c a d:B6 N (m+1) (l,b,c,a,d)=cond (a<c)
 (aW (ba b a) λe=>
 aW (GH N (l,e)) λf=>
 aW (eN 8 d [f]) λg=>
 (B6 N m (l,b,c,(wrap .i64 (a+1)),g)))
 (some d):=by kernel_rfl
def aba N l a:Tl (N+1) (l,a)=aW (zG N l) λc=>
 cond (!c)
  (some (false,[]))
  (aW (B6 N N (l,a,(List.length a:Int),0,[])) λb=>
  aW (DK N (b,(-1))) λd=>
  some ((!d),b)):=by kernel_rfl
def eP:List CO:=[⟨jE,mH⟩]
def Tm:PS:=⟨[(6,.k (.ow 900)),(25,.h cj),(26,.h j1),(27,.h j1)],[(900,.arr 3 j1 true)],[cj,j1,j1,j6]⟩
def Tn:List (Exit×PS):=[((.exit 2),⟨[(6,.k (.ow 900))],[(900,.arr 3 j1 true)],[j6]⟩)]
def To:Pl:=.z
def th:Nat->Nat->A3×Int×Int×aX->mC:=gh eP Tryz.f108 [1,1,1,1,0,1,0,0] Tm Tn To
def Tp:PS:=⟨[(0,.h cj),(3,.h j1),(9,.h cj),(10,.h j1),(11,.h j1)],[],[cj,j1,cj,j1,j1]⟩
def Tq:List (Exit×PS):=[((.exit 0),⟨[(0,.h cj),(3,.h j1)],[],[cj,j1]⟩)]
def Ts:Pl:=.z
def ti:Nat->Nat->A3×Int×A3×Int×Int->Option (A3×Int):=gh eP Tryz.f108 [1,1,0,1,0,0] Tp Tq Ts
noncomputable def iQ:FD:=⟨108,Tryz.f108,(.n .z (.n .z (.n (.n .z (.n (.loop Tp Tq Ts) .z)) (.n .z (.n (.n .z (.n (.loop Tm Tn To) .z)) .z))))),[.h cj],[],[cj],⟨[(2,.k (.ow 900))],[(900,.arr 3 j1 true)],[j6]⟩,true,true,[900]⟩
def GK:Nat->A3->mC:=mF eP iQ
def ahx:CO:=cF eP iQ GK Tryz.func108
def tj N m c d a b:th N (m+1) (c,d,a,b)=cond (a<d)
 (aW (ba c a) λe=>
 aW (eN 8 b e) λf=>
 (th N m (c,d,(wrap .i64 (a+1)),f)))
 (some b):=by kernel_rfl
def tk N m c a e d b:ti N (m+1) (c,a,e,d,b)=cond (b<d)
 (aW (ba e b) λf=>
 cond ((wrap .i64 (a+(List.length f:Int)))<0)
  none
  ((ti N m (c,(wrap .i64 (a+(List.length f:Int))),e,d,(wrap .i64 (b+1))))))
 (some (c,a)):=by kernel_rfl
def L7 N a:GK (N+1) a=aW (ti N N (a,0,a,(List.length a:Int),0)) λb=>
 aW (eY N b.2) λd=>
 aW (th N N (b.1,(List.length b.1:Int),0,[])) λc=>
 some c:=by kernel_rfl
def ur:List CO:=[ahx]
noncomputable def uu:FD:=⟨255,Tryz.f255,.z,[.h j6,.h j1],[],[j6,j1],⟨[(4,.k (.ow 900))],[(900,.arr 3 j1 true)],[j6]⟩,true,true,[900]⟩
def L8:Nat->aX×Int->mC:=mF ur uu
def ahy:CO:=cF ur uu L8 Tryz.func255
def abb N l a:L8 (N+1) (l,a)=aW (jm l a (List.length l:Int)) λb=>
 aW (jm l 0 a) λc=>
 aW (GK N [b,c]) λd=>
 some d:=by kernel_rfl
def AE:List CO:=[alv,ahy]
noncomputable def AF:FD:=⟨214,Tryz.f214,.z,[.h j6,.h j1],[],[j6,j1],⟨[(4,.k (.ow 900)),(5,.h .b)],[(900,.arr 3 j1 true)],[.b,j6]⟩,true,true,[900]⟩
def DL:Nat->aX×Int->Option A9:=mF AE AF
def aiY:CO:=cF AE AF DL Tryz.func214
def Xt N l b:DL (N+1) (l,b)=aW (Tl N (l,[b])) λa=>
 cond (!a.1)
  (some (false,[]))
  (aW (ba a.2 0) λe=>
  aW (ba a.2 0) λc=>
  aW (L8 N (l,c)) λd=>
  some (true,d)):=by kernel_rfl
def DM:List CO:=[IS]
noncomputable def DN:FD:=⟨215,Tryz.f215,.z,[.h j1,.h j1,.h j1],[],[j1,j1,j1],⟨[(6,.h j1)],[],[j1]⟩,false,true,[]⟩
def DO:Nat->Int×Int×Int->eR:=mF DM DN
def aiZ:CO:=cF DM DN DO Tryz.func215
def Xu N n u v:DO (N+1) (n,u,v)=cond (u=v)
 (some (-1))
 (aW (nF N (n,u)) λa=>
 cond (!a)
  (some (-1))
  (aW (nF N (n,v)) λb=>
  cond (!b)
   (some (-1))
   (some (wrap .i64 ((wrap .i64 (n*(wrap .i64 (u+1))))+v))))):=by kernel_rfl
def wW:List CO:=[Qr,ahw,aa3,ahy]
noncomputable def wX:FD:=⟨256,Tryz.f256,.z,[.h j6],[],[j6],⟨[(2,.k (.ow 900))],[(900,.arr 3 j1 true)],[j6]⟩,true,true,[900]⟩
def IX:Nat->aX->mC:=mF wW wX
def ai0:CO:=cF wW wX IX Tryz.func256
def Xv N l:IX (N+1) l=aW (zG N l) λa=>
 cond (!a)
  (some [])
  (cond ((List.length l:Int)=0)
   (some [])
   (aW (LU N l) λb=>
   aW (GH N (l,b)) λc=>
   aW (L8 N (l,c)) λd=>
   some d)):=by kernel_rfl
def mV:List CO:=[Td,ai0,⟨eF,fZ⟩]
def L9:PS:=⟨[(3,.k (.pt 900 0)),(6,.k (.pt 901 0)),(7,.k (.ow 902)),(29,.h cj),(30,.h j1),(31,.h j1)],[(900,.box 80 [.h j1,.h cj]),(901,.box 80 [.h j1,.k .nil]),(902,.arr 33 j6 true)],[cj,j1,j1,j1,cj,j1,cj]⟩
def L_:List (Exit×PS):=[((.exit 2),⟨[(3,.k (.pt 900 0)),(6,.k (.pt 901 0)),(7,.k (.ow 902))],[(900,.box 80 [.h j1,.h cj]),(901,.box 80 [.h j1,.k .nil]),(902,.arr 33 j6 true)],[j1,cj,j1,cj]⟩)]
def Ma:Pl:=.z
def wY:Nat->Nat->A3×Int×Int×Int×A3×Int×A3->Option (Int×A3×Int×A3):=gh mV Tryz.f216 [1,1,1,0,1,0,0] L9 L_ Ma
def Mb:PS:=⟨[(1,.h j6),(2,.h cj),(3,.k (.pt 900 0)),(6,.k (.pt 901 0)),(7,.k (.ow 902)),(13,.h cj),(14,.h j1),(15,.h j1)],[(900,.box 80 [.h j1,.h cj]),(901,.box 80 [.h j1,.k .nil]),(902,.arr 33 j6 true)],[j6,cj,cj,j1,j1,j1,cj,j1,cj]⟩
def Mc:List (Exit×PS):=[((.exit 0),⟨[(2,.h cj),(3,.k (.pt 900 0)),(6,.k (.pt 901 0)),(7,.k (.ow 902))],[(900,.box 80 [.h j1,.h cj]),(901,.box 80 [.h j1,.k .nil]),(902,.arr 33 j6 true)],[cj,j1,cj,j1,cj]⟩)]
def Md:Pl:=.z
def ox:Nat->Nat->aX×A3×A3×Int×Int×Int×A3×Int×A3->Option (A3×Int×A3×Int×A3):=gh mV Tryz.f216 [1,1,0,1,0,0] Mb Mc Md
noncomputable def AG:FD:=⟨216,Tryz.f216,(.n .z (.n .z (.n (.n .z (.n (.loop Mb Mc Md) .z)) (.n (.n .z (.n (.loop L9 L_ Ma) .z)) .z)))),[.ag [.h j1,.h cj],.h j6,.h cj],[],[j1,cj,j6,cj],⟨[(6,.k (.pt 900 0))],[(900,.box 80 [.h j1,.h cj])],[j1,cj]⟩,false,false,[]⟩
def IY:Nat->Int×A3×aX×A3->Option (Int×A3):=mF mV AG
def ai1:CO:=cF mV AG IY Tryz.func216
def DP N m c d a f b e l:wY N (m+1) (c,d,a,f,b,e,l)=cond (a<d)
 (aW (ba c a) λg=>
 aW (IX N g) λh=>
 aW (eN 24 l [h]) λi=>
 (wY N m (c,d,(wrap .i64 (a+1)),f,b,e,i)))
 (some (f,b,e,l)):=by kernel_rfl
def vv N m b c e g a f d h l:ox N (m+1) (b,c,e,g,a,f,d,h,l)=cond (a<g)
 (aW (ba e a) λi=>
 aW (DK N (b,a)) λj=>
 cond (!j)
  (aW (eN 24 l [i]) λk=>
  (ox N m (b,c,e,g,(wrap .i64 (a+1)),f,d,h,k)))
  ((ox N m (b,c,e,g,(wrap .i64 (a+1)),f,d,h,l))))
 (some (c,f,d,h,l)):=by kernel_rfl
def Xw N f b c d:IY (N+1) (f,b,c,d)=aW (ox N N (c,d,b,(List.length b:Int),0,f,b,0,[])) λa=>
 aW (wY N N (a.1,(List.length a.1:Int),0,a.2.1,a.2.2.1,a.2.2.2.1,a.2.2.2.2)) λe=>
 aW (bw N e.2.2.2) λg=>
 some (e.1,g):=by kernel_rfl
def AH:List CO:=[aiX,aa_,aiY,aiZ,ahx,ai1]
noncomputable def AI:FD:=⟨176,Tryz.f176,.z,[.ag [.h j1,.h cj],.h j1,.h j1],[],[j1,cj,j1,j1],⟨[(6,.k (.pt 900 0)),(7,.h j1)],[(900,.box 80 [.h j1,.h cj])],[j1,j1,cj]⟩,false,false,[]⟩
def IZ:Nat->Int×A3×Int×Int->Option A12:=mF AH AI
def ai2:CO:=cF AH AI IZ Tryz.func176
def Xx N f a u v:IZ (N+1) (f,a,u,v)=aW (IW N (f,a,u,v)) λe=>
 cond (!(e=0))
  (some (e,f,a))
  (aW (zH N (f,a,u)) λb=>
  aW (zH N (f,a,v)) λc=>
  cond (b=c)
   (some (5,f,a))
   (aW (ba a b) λk=>
   aW (DL N (k,u)) λd=>
   aW (ba a c) λl=>
   aW (DL N (l,v)) λm=>
   aW (jm d.2 0 1) λn=>
   aW (DO N (f,u,v)) λo=>
   aW (DO N (f,v,u)) λh=>
   aW (jm d.2 1 (List.length d.2:Int)) λi=>
   aW (GK N [n,[o],m.2,[h],i]) λj=>
   aW (IY N (f,a,[b,c],[j])) λg=>
   some (0,g.1,g.2))):=by kernel_rfl
def gj:List CO:=[alj,aa1,ai2]
def Tt:PS:=⟨[(2,.k (.v (.func (.func 176) #[] #[]))),(3,.k (.pt 900 0)),(6,.k (.pt 901 0)),(10,.k (.ow 902)),(23,.h cy),(24,.h j1),(25,.h j1)],[(900,.box 80 [.h j1,.h cj]),(901,.box 80 [.h j1,.k .nil]),(902,.arr 4 .b true)],[cy,j1,j1,j1,cj,j1,j3]⟩
def Tu:List (Exit×PS):=[((.exit 0),⟨[(3,.k (.pt 900 0)),(6,.k (.pt 901 0)),(10,.k (.ow 902))],[(900,.box 80 [.h j1,.h cj]),(901,.box 80 [.h j1,.k .nil]),(902,.arr 4 .b true)],[j1,cj,j1,j3]⟩)]
def Tv:Pl:=.z
def B7:Nat->Nat->A1×Int×Int×Int×A3×Int×bq->Option (Int×A3×Int×bq):=gh gj Tryz.f175 [1,1,1,0,1,0,0] Tt Tu Tv
noncomputable def je:FD:=⟨175,Tryz.f175,(.n .z (.n .z (.n .z (.n (.n .z (.n (.loop Tt Tu Tv) .z)) .z)))),[.ag [.h j1,.h cj],.h cy,.k (.v (.func (.func 176) #[] #[]))],[],[j1,cj,cy],⟨[(6,.k (.pt 900 0)),(7,.k (.ow 901)),(8,.h j1)],[(900,.box 80 [.h j1,.h cj]),(901,.arr 4 .b true)],[j1,j1,cj,j3]⟩,true,false,[901]⟩
def abc:Nat->Int×A3×A1->Option (Int×Int×A3×bq):=mF gj je
def alw:CO:=cF gj je abc Tryz.func175
def GL N m d e a f b g c:B7 N (m+1) (d,e,a,f,b,g,c)=cond (a<e)
 (aW (ba d a) λi=>
 aW (IZ N (f,b,i.1,i.2)) λh=>
 aW (eN 1 c [(decide (h.1=0))]) λj=>
 (B7 N m (d,e,(wrap .i64 (a+1)),h.2.1,h.2.2,g,j)))
 (some (f,b,g,c)):=by kernel_rfl
def abd N f a l:abc (N+1) (f,a,l)=aW (SM N l) λd=>
 aW (GG N (f,a,d)) λc=>
 cond (!(c=0))
  (some (c,f,a,[]))
  (aW (B7 N N (l,(List.length l:Int),0,f,a,0,[])) λb=>
  some (0,b.1,b.2.1,b.2.2.2)):=by kernel_rfl
def rI:List CO:=[alw]
noncomputable def rJ:FD:=⟨126,Tryz.f126,.z,[.ag [.h j1,.h cj],.h cy],[],[j1,cj,cy],⟨[(4,.k (.pt 900 0)),(5,.k (.ow 901)),(6,.h j1)],[(900,.box 80 [.h j1,.h cj]),(901,.arr 4 .b true)],[j1,j1,cj,j3]⟩,true,false,[901]⟩
def Tw:Nat->Int×A3×A1->Option (Int×Int×A3×bq):=mF rI rJ
def alx:CO:=cF rI rJ Tw Tryz.func126
def abe N f b l:Tw (N+1) (f,b,l)=aW (abc N (f,b,l)) λa=>
 some (a.1,a.2.1,a.2.2.1,a.2.2.2):=by kernel_rfl
def AJ:List CO:=[aiT,alx]
noncomputable def AK:FD:=⟨55,Tryz.f55,.z,[.h j1,.h cy],[],[j1,cy],⟨[(4,.k (.pt 900 0)),(5,.h j1)],[(900,.box 80 [.h j1,.h cj])],[j1,j1,cj]⟩,false,false,[]⟩
def DQ:Nat->Int×A1->Option A12:=mF AJ AK
def abf:CO:=cF AJ AK DQ Tryz.func55
def Xy N n l:DQ (N+1) (n,l)=aW (IQ N n) λa=>
 cond (!(a.1=0))
  (some (a.1,0,[]))
  (aW (Tw N (a.2.1,a.2.2,l)) λb=>
  cond (!(b.1=0))
   (some (b.1,0,[]))
   (some (0,b.2.1,b.2.2.1))):=by kernel_rfl
def nH:List CO:=[aht,aaN,ahu,ahv,abf]
def Tx:PS:=⟨[(1,.k (.pt 900 0)),(3,.h j1),(23,.h c5),(24,.h j1),(25,.h j1)],[(900,.box 24 [.h j1,.h c5])],[j1,c5,j1,j1,j1,c5]⟩
def Ty:List (Exit×PS):=[((.exit 0),⟨[(1,.k (.pt 900 0))],[(900,.box 24 [.h j1,.h c5])],[j1,c5]⟩),(.ret,⟨[(2,.h .b)],[],[.b]⟩)]
def Tz:Pl:=.z
def tl:Nat->Nat->Int×fx×Int×Int×Int×fx->Option ((Int×fx)⊕(Bool)):=gh nH Tryz.f54 [1,1,1,0,1,0,0] Tx Ty Tz
noncomputable def uv:FD:=⟨54,Tryz.f54,(.n .z (.n .z (.n .z (.n (.n .z (.n (.loop Tx Ty Tz) .z)) .z)))),[.ag [.h j1,.h c5]],[],[j1,c5],⟨[(2,.h .b)],[],[.b]⟩,false,true,[]⟩
def mW:Nat->Int×fx->eA:=mF nH uv
def uw:CO:=cF nH uv mW Tryz.func54
def GM N m d e f b g c:tl N (m+1) (d,e,f,b,g,c)=cond (b<f)
 (aW (ba e b) λa=>
 cond (a.1<0)
  (some (.inr false))
  (cond (a.2.1<=a.1)
   (some (.inr false))
   (cond (g<=a.2.1)
    (some (.inr false))
    (cond (a.2.2.1<0)
     (some (.inr false))
     (cond (d<a.2.2.1)
      (some (.inr false))
      (cond (0<b)
       (aW (ba c (wrap .i64 (b - 1))) λh=>
       aW (DI N (h.1,h.2.1,h.2.2.1,h.2.2.2,a.1,a.2.1,a.2.2.1,a.2.2.2)) λi=>
       cond (0<=i)
        (some (.inr false))
        ((tl N m (d,e,f,(wrap .i64 (b+1)),g,c))))
       ((tl N m (d,e,f,(wrap .i64 (b+1)),g,c)))))))))
 (some (.inl (g,c))):=by kernel_rfl
def abg N g a:mW (N+1) (g,a)=aW (LN N g) λe=>
 cond (!e)
  (some false)
  (cond (400<(List.length a:Int))
   (some false)
   (aW (DH N g) λf=>
   aW (tl N N (f,a,(List.length a:Int),0,g,a)) λh=>
   (match h with
   |.inl b=>aW (LO N (b.1,b.2,0)) λc=>
    aW (DQ N (b.1,c)) λd=>
    cond (d.1=0)
     (some (decide ((List.length d.2.2:Int)=(wrap .i64 (b.1 - (List.length c:Int))))))
     (some false)
   |.inr i=>some i))):=by kernel_rfl
def qp:List CO:=[]
noncomputable def qq:FD:=⟨96,Tryz.f96,.z,[.h j1],[],[j1],⟨[(2,.h .b)],[],[.b]⟩,false,true,[]⟩
def Mf:Nat->Int->eA:=mF qp qq
def aly:CO:=cF qp qq Mf Tryz.func96
def abh N n:Mf (N+1) n=cond (0<=n)
 (some (decide (n<=1099511627776)))
 (some false):=by kernel_rfl
def ux:List CO:=[uw,aly]
noncomputable def uy:FD:=⟨38,Tryz.f38,.z,[.ag [.h j1,.h c5,.h j1,.h j1]],[],[j1,c5,j1,j1],⟨[(2,.h .b)],[],[.b]⟩,false,true,[]⟩
def qt:Nat->Int×fx×Int×Int->eA:=mF ux uy
def alz:CO:=cF ux uy qt Tryz.func38
def abi N s a b c:qt (N+1) (s,a,b,c)=aW (mW N (s,a)) λd=>
 cond d
  (aW (Mf N b) λe=>
  cond e
   (aW (Mf N c) λf=>
   some f)
   (some false))
  (some false):=by kernel_rfl
def AM:List CO:=[]
noncomputable def AN:FD:=⟨100,Tryz.f100,.z,[.h j1],[],[j1],⟨[(2,.h .b)],[],[.b]⟩,false,true,[]⟩
def vw:Nat->Int->eA:=mF AM AN
def abj:CO:=cF AM AN vw Tryz.func100
def Xz N n:vw (N+1) n=some (decide (n=(wrap .i64 (wrap .u16 n)))):=by kernel_rfl
def rK:List CO:=[abj]
noncomputable def rL:FD:=⟨99,Tryz.f99,.z,[.ag [.h j1,.h j1]],[],[j1,j1],⟨[(2,.h .b)],[],[.b]⟩,false,true,[]⟩
def TB:Nat->Int×Int->eA:=mF rK rL
def alA:CO:=cF rK rL TB Tryz.func99
def abk N e a:TB (N+1) (e,a)=aW (vw N e) λb=>
 cond (!b)
  (some true)
  (aW (vw N a) λc=>
  some (!c)):=by kernel_rfl
def cw:List CO:=[alA]
def TD:PS:=⟨[(0,.h cy),(1,.k (.v (.func (.func 99) #[] #[]))),(7,.h j1),(8,.h j1)],[],[cy,j1,j1]⟩
def TE:List (Exit×PS):=[((.exit 0),⟨[],[],[]⟩),(.ret,⟨[(4,.h j1)],[],[j1]⟩)]
def TF:Pl:=.z
def B8:Nat->Nat->A1×Int×Int->Option ((Unit)⊕(Int)):=gh cw Tryz.f168 [1,0,1,0,0] TD TE TF
noncomputable def dL:FD:=⟨168,Tryz.f168,(.n .z (.n (.n .z (.n (.loop TD TE TF) .z)) .z)),[.h cy,.k (.v (.func (.func 99) #[] #[]))],[],[cy],⟨[(4,.h j1)],[],[j1]⟩,false,true,[]⟩
def abl:Nat->A1->eR:=mF cw dL
def alB:CO:=cF cw dL abl Tryz.func168
def GN N m s b a:B8 N (m+1) (s,b,a)=cond (a<b)
 (aW (ba s a) λc=>
 aW (TB N (c.1,c.2)) λd=>
 cond d
  (some (.inr a))
  ((B8 N m (s,b,(wrap .i64 (a+1))))))
 (some (.inl ())):=by kernel_rfl
def abm N s:abl (N+1) s=aW (B8 N N (s,(List.length s:Int),0)) λa=>
 (match a with
 |.inl c=>some (-1)
 |.inr b=>some b):=by kernel_rfl
def dv:List CO:=[alB]
noncomputable def dw:FD:=⟨101,Tryz.f101,.z,[.h cy,.k (.v (.func (.func 99) #[] #[]))],[],[cy],⟨[(4,.h .b)],[],[.b]⟩,false,true,[]⟩
def abn:Nat->A1->eA:=mF dv dw
def aoo:CO:=cF dv dw abn Tryz.func101
def af0 N s:abn (N+1) s=aW (abl N s) λa=>
 some (decide (0<=a)):=by kernel_rfl
def wZ:List CO:=[]
noncomputable def w8:FD:=⟨103,Tryz.f103,.z,[.h j1],[],[j1],⟨[(2,.h .b)],[],[.b]⟩,false,true,[]⟩
def I0:Nat->Int->eA:=mF wZ w8
def ai3:CO:=cF wZ w8 I0 Tryz.func103
def XA N a:I0 (N+1) a=cond (1<=a)
 (some (decide (a<=4)))
 (some false):=by kernel_rfl
def rM:List CO:=[ai3,abj]
noncomputable def rN:FD:=⟨102,Tryz.f102,.z,[.ag [.h j1,.h j1,.h j1]],[],[j1,j1,j1],⟨[(2,.h .b)],[],[.b]⟩,false,true,[]⟩
def TG:Nat->Int×Int×Int->eA:=mF rM rN
def alC:CO:=cF rM rN TG Tryz.func102
def abo N a b c:TG (N+1) (a,b,c)=aW (I0 N a) λd=>
 cond (!d)
  (some true)
  (aW (vw N b) λe=>
  cond (!e)
   (some true)
   (aW (vw N c) λf=>
   some (!f))):=by kernel_rfl
def cC:List CO:=[alC]
def TH:PS:=⟨[(0,.h pv),(1,.k (.v (.func (.func 102) #[] #[]))),(7,.h j1),(8,.h j1)],[],[pv,j1,j1]⟩
def TI:List (Exit×PS):=[((.exit 0),⟨[],[],[]⟩),(.ret,⟨[(4,.h j1)],[],[j1]⟩)]
def TJ:Pl:=.z
def B9:Nat->Nat->(List A4)×Int×Int->Option ((Unit)⊕(Int)):=gh cC Tryz.f169 [1,0,1,0,0] TH TI TJ
noncomputable def dT:FD:=⟨169,Tryz.f169,(.n .z (.n (.n .z (.n (.loop TH TI TJ) .z)) .z)),[.h pv,.k (.v (.func (.func 102) #[] #[]))],[],[pv],⟨[(4,.h j1)],[],[j1]⟩,false,true,[]⟩
def abp:Nat->(List A4)->eR:=mF cC dT
def alD:CO:=cF cC dT abp Tryz.func169
def GO N m s b a:B9 N (m+1) (s,b,a)=cond (a<b)
 (aW (ba s a) λc=>
 aW (TG N (c.1,c.2.1,c.2.2)) λd=>
 cond d
  (some (.inr a))
  ((B9 N m (s,b,(wrap .i64 (a+1))))))
 (some (.inl ())):=by kernel_rfl
def abq N s:abp (N+1) s=aW (B9 N N (s,(List.length s:Int),0)) λa=>
 (match a with
 |.inl c=>some (-1)
 |.inr b=>some b):=by kernel_rfl
def dE:List CO:=[alD]
noncomputable def dF:FD:=⟨104,Tryz.f104,.z,[.h pv,.k (.v (.func (.func 102) #[] #[]))],[],[pv],⟨[(4,.h .b)],[],[.b]⟩,false,true,[]⟩
def abr:Nat->(List A4)->eA:=mF dE dF
def aop:CO:=cF dE dF abr Tryz.func104
def af1 N s:abr (N+1) s=aW (abp N s) λa=>
 some (decide (0<=a)):=by kernel_rfl
def pw:List CO:=[aoo,aop]
def Mg:PS:=⟨[(1,.k (.pt 900 0)),(6,.h j1)],[(900,.box 30 [.h j1,.h cy,.h pv])],[j1,j1,cy,pv]⟩
def Mh:List (Exit×PS):=[(.normal,⟨[(1,.k (.pt 900 0)),(6,.h j1),(7,.h .b)],[(900,.box 30 [.h j1,.h cy,.h pv])],[j1,.b,j1,cy,pv]⟩)]
def Mi:Pl:=.z
def Mj:Nat->Nat->Int×Int×A1×(List A4)->Option (Int×Bool×Int×A1×(List A4)):=jnF pw Tryz.f41 [1,0,1,0,0] Mg Mh Mi
noncomputable def w9:FD:=⟨41,Tryz.f41,(.n .z (.n (.n .z (.n (.n (.join Mg Mh Mi) .z) .z)) .z)),[.ag [.h j1,.h cy,.h pv]],[],[j1,cy,pv],⟨[(2,.h .b)],[],[.b]⟩,false,true,[]⟩
def I1:Nat->Int×A1×(List A4)->eA:=mF pw w9
def ai4:CO:=cF pw w9 I1 Tryz.func41
def Qw N m a x b c:Mj N (m+1) (a,x,b,c)=cond (a=1)
 (some (a,true,x,b,c))
 (some (a,(decide (a=2)),x,b,c)):=by kernel_rfl
def XB N x b c:I1 (N+1) (x,b,c)=aW (Mj N N (x,x,b,c)) λa=>
 cond a.2.1
  (cond ((List.length a.2.2.2.2:Int)=0)
   (cond ((List.length a.2.2.2.1:Int)<=60)
    (aW (abn N a.2.2.2.1) λd=>
    some (!d))
    (some false))
   (some false))
  (cond (a.1=3)
   (cond ((List.length a.2.2.2.1:Int)=0)
    (cond ((List.length a.2.2.2.2:Int)<=60)
     (aW (abr N a.2.2.2.2) λe=>
     some (!e))
     (some false))
    (some false))
   (some false)):=by kernel_rfl
def uz:List CO:=[]
noncomputable def uA:FD:=⟨152,Tryz.f152,.z,[.ag [.h j1,.h j1,.h j1]],[],[j1,j1,j1],⟨[(2,.k (.ow 900))],[(900,.arr 3 j1 true)],[j6]⟩,true,true,[900]⟩
def TK:Nat->Int×Int×Int->mC:=mF uz uA
def alF:CO:=cF uz uA TK Tryz.func152
def abt N a b c:TK (N+1) (a,b,c)=cond (a=1)
 (some [b,c])
 (cond (a=2)
  (some [b])
  (cond (a=3)
   (some [b])
   (some []))):=by kernel_rfl
def ij:List CO:=[alF]
def TM:PS:=⟨[(3,.k (.ow 900)),(24,.h pv),(25,.h j1),(26,.h j1)],[(900,.arr 3 j1 true)],[pv,j1,j1,j6]⟩
def TN:List (Exit×PS):=[((.exit 2),⟨[(3,.k (.ow 900))],[(900,.arr 3 j1 true)],[j6]⟩)]
def TO:Pl:=.z
def B_:Nat->Nat->(List A4)×Int×Int×aX->mC:=gh ij Tryz.f82 [1,1,1,0,1,0,0] TM TN TO
def TP:PS:=⟨[(1,.k (.pt 900 0)),(3,.k (.ow 901)),(9,.h cy),(10,.h j1),(11,.h j1)],[(900,.box 30 [.h j1,.h cy,.h pv]),(901,.arr 3 j1 true)],[cy,j1,j1,j1,cy,pv,j6]⟩
def TQ:List (Exit×PS):=[((.exit 0),⟨[(1,.k (.pt 900 0)),(3,.k (.ow 901))],[(900,.box 30 [.h j1,.h cy,.h pv]),(901,.arr 3 j1 true)],[j1,cy,pv,j6]⟩)]
def TS:Pl:=.z
def Ca:Nat->Nat->A1×Int×Int×Int×A1×(List A4)×aX->Option (Int×A1×(List A4)×aX):=gh ij Tryz.f82 [1,1,0,1,0,0] TP TQ TS
noncomputable def oy:FD:=⟨82,Tryz.f82,(.n .z (.n .z (.n (.n .z (.n (.loop TP TQ TS) .z)) (.n (.n .z (.n (.loop TM TN TO) .z)) .z)))),[.ag [.h j1,.h cy,.h pv]],[],[j1,cy,pv],⟨[(2,.k (.ow 900))],[(900,.arr 3 j1 true)],[j6]⟩,true,true,[900]⟩
def TT:Nat->Int×A1×(List A4)->mC:=mF ij oy
def alG:CO:=cF ij oy TT Tryz.func82
def GP N m b c a l:B_ N (m+1) (b,c,a,l)=cond (a<c)
 (aW (ba b a) λd=>
 aW (TK N (d.1,d.2.1,d.2.2)) λe=>
 aW (eN 8 l e) λf=>
 (B_ N m (b,c,(wrap .i64 (a+1)),f)))
 (some l):=by kernel_rfl
def GQ N m c b a x d e l:Ca N (m+1) (c,b,a,x,d,e,l)=cond (a<b)
 (aW (ba c a) λf=>
 aW (eN 8 l [f.1,f.2]) λg=>
 (Ca N m (c,b,(wrap .i64 (a+1)),x,d,e,g)))
 (some (x,d,e,l)):=by kernel_rfl
def abu N x a c:TT (N+1) (x,a,c)=aW (Ca N N (a,(List.length a:Int),0,x,a,c,[])) λb=>
 aW (B_ N N (b.2.2.1,(List.length b.2.2.1:Int),0,b.2.2.2)) λd=>
 some d:=by kernel_rfl
def ly:List CO:=[]
noncomputable def lz:FD:=⟨83,Tryz.f83,.z,[.h j1,.k (.pt 4294967296 0)],[(4294967296,.box 24 [.h j1,.h c5])],[j1,j1,c5],⟨[(3,.h .b)],[(4294967296,.box 24 [.h j1,.h c5])],[.b,j1,c5]⟩,true,false,[4294967296]⟩
def abv:Nat->Int×Int×fx->Option (Bool×Int×fx):=mF ly lz
def alH:CO:=cF ly lz abv Tryz.func83
def abw N v a b:abv (N+1) (v,a,b)=some ((decide (a<=v)),a,b):=by kernel_rfl
def cD:List CO:=[alH]
def TU:PS:=⟨[(0,.h j6),(1,.cl (.func 83) [] [.k (.pt 4294967296 0)]),(7,.h j1),(8,.h j1)],[(4294967296,.box 24 [.h j1,.h c5])],[j6,j1,j1,j1,c5]⟩
def TV:List (Exit×PS):=[((.exit 0),⟨[],[(4294967296,.box 24 [.h j1,.h c5])],[j1,c5]⟩),(.ret,⟨[(4,.h j1)],[(4294967296,.box 24 [.h j1,.h c5])],[j1,j1,c5]⟩)]
def TW:Pl:=.z
def Cb:Nat->Nat->aX×Int×Int×Int×fx->Option ((Int×fx)⊕(Int×Int×fx)):=gh cD Tryz.f116 [1,0,1,0,0] TU TV TW
noncomputable def dU:FD:=⟨116,Tryz.f116,(.n .z (.n (.n .z (.n (.loop TU TV TW) .z)) .z)),[.h j6,.cl (.func 83) [] [.k (.pt 4294967296 0)]],[(4294967296,.box 24 [.h j1,.h c5])],[j6,j1,c5],⟨[(4,.h j1)],[(4294967296,.box 24 [.h j1,.h c5])],[j1,j1,c5]⟩,true,false,[4294967296]⟩
def abx:Nat->aX×Int×fx->Option (Int×Int×fx):=mF cD dU
def alI:CO:=cF cD dU abx as5
def GU N m s d a f c:Cb N (m+1) (s,d,a,f,c)=cond (a<d)
 (aW (ba s a) λe=>
 aW (abv N (e,f,c)) λb=>
 cond b.1
  (some (.inr (a,b.2.1,b.2.2)))
  ((Cb N m (s,d,(wrap .i64 (a+1)),b.2.1,b.2.2))))
 (some (.inl (f,c))):=by kernel_rfl
def aby N s f b:abx (N+1) (s,f,b)=aW (Cb N N (s,(List.length s:Int),0,f,b)) λd=>
 (match d with
 |.inl c=>some ((-1),c.1,c.2)
 |.inr a=>some (a.1,a.2.1,a.2.2)):=by kernel_rfl
def dG:List CO:=[alI]
noncomputable def dH:FD:=⟨48,Tryz.f48,.z,[.h j6,.cl (.func 83) [] [.k (.pt 4294967296 0)]],[(4294967296,.box 24 [.h j1,.h c5])],[j6,j1,c5],⟨[(4,.h .b)],[(4294967296,.box 24 [.h j1,.h c5])],[.b,j1,c5]⟩,true,false,[4294967296]⟩
def TY:Nat->aX×Int×fx->Option (Bool×Int×fx):=mF dG dH
def alJ:CO:=cF dG dH TY ats
def abz N s f b:TY (N+1) (s,f,b)=aW (abx N (s,f,b)) λa=>
 some ((decide (0<=a.1)),a.2.1,a.2.2):=by kernel_rfl
def w_:List CO:=[]
noncomputable def xa:FD:=⟨137,Tryz.f137,.z,[.h j1],[],[j1],⟨[(2,.h .b)],[],[.b]⟩,false,true,[]⟩
def DR:Nat->Int->eA:=mF w_ xa
def ai5:CO:=cF w_ xa DR Tryz.func137
def XC N n:DR (N+1) n=cond (0<=n)
 (some (decide (n<65536)))
 (some false):=by kernel_rfl
def AO:List CO:=[ai5]
noncomputable def AP:FD:=⟨67,Tryz.f67,.z,[.ag [.h j1,.h j1]],[],[j1,j1],⟨[(2,.h j2),(3,.h .b)],[],[j2,.b]⟩,false,true,[]⟩
def I2:Nat->Int×Int->Option (Int×Bool):=mF AO AP
def ai6:CO:=cF AO AP I2 Tryz.func67
def XD N e a:I2 (N+1) (e,a)=aW (DR N e) λb=>
 cond (!b)
  (some (0,false))
  (aW (DR N a) λc=>
  cond (!c)
   (some (0,false))
   (some ((Ij .or .u32 (wrap .u32 ((wrap .u32 (if(a<e)then a else e))*((2:Int)^(min (Int.toNat 16) 32)))) (wrap .u32 (if(a>e)then a else e))),true))):=by kernel_rfl
def rO:List CO:=[]
noncomputable def rP:FD:=⟨226,Tryz.f226,.z,[.h j1],[],[j1],⟨[(2,.h j1)],[],[j1]⟩,false,true,[]⟩
def Ml:Nat->Int->eR:=mF rO rP
def ahz:CO:=cF rO rP Ml Tryz.func226
def abA N bits:Ml (N+1) bits=cond (bits<1)
 (some 0)
 (cond (16<bits)
  (some 0)
  (aW (PC (wrap .i64 ((wrap .i64 (32+bits)) - 1)) bits) λa=>
  some (wrap .i64 a))):=by kernel_rfl
def xb:List CO:=[]
noncomputable def xc:FD:=⟨279,Tryz.f279,.z,[.h j1],[],[j1],⟨[(2,.h .b)],[],[.b]⟩,false,true,[]⟩
def I3:Nat->Int->eA:=mF xb xc
def abB:CO:=cF xb xc I3 Tryz.func279
def GV N a:I3 (N+1) a=cond (1<=a)
 (some (decide (a<=100)))
 (some false):=by kernel_rfl
def uB:List CO:=[abB]
noncomputable def uC:FD:=⟨280,Tryz.f280,.z,[.h j1,.h j1],[],[j1,j1],⟨[(4,.h j1)],[],[j1]⟩,false,true,[]⟩
def I4:Nat->Int×Int->eR:=mF uB uC
def ai7:CO:=cF uB uC I4 Tryz.func280
def XE N n block:I4 (N+1) (n,block)=cond (n<0)
 (some 0)
 (cond (1000<n)
  (some 0)
  (aW (I3 N block) λa=>
  cond (!a)
   (some 0)
   (aW (PC (wrap .i64 ((wrap .i64 (n+block)) - 1)) block) λb=>
   some (wrap .i64 b)))):=by kernel_rfl
def xd:List CO:=[]
noncomputable def xe:FD:=⟨79,Tryz.f79,.z,[.ag [.h j1,.h j1,.h cy]],[],[j1,j1,cy],⟨[(2,.h .b)],[],[.b]⟩,false,true,[]⟩
def I5:Nat->Int×Int×A1->eA:=mF xd xe
def ai8:CO:=cF xd xe I5 Tryz.func79
def GW N p p2 p3:I5 (N+1) (p,p2,p3)=cond (1<=p)
 (cond (p<=100)
  (cond (1<=p2)
   (cond (p2<=8)
    (some (decide ((List.length p3:Int)<=4000)))
    (some false))
   (some false))
  (some false))
 (some false):=by kernel_rfl
def rQ:List CO:=[]
noncomputable def rR:FD:=⟨132,Tryz.f132,.z,[.h j1,.h j1],[],[j1,j1],⟨[(4,.h .b)],[],[.b]⟩,false,true,[]⟩
def Mm:Nat->Int×Int->eA:=mF rQ rR
def ahA:CO:=cF rQ rR Mm Tryz.func132
def abC N n a:Mm (N+1) (n,a)=cond (1<=n)
 (cond (n<=1000)
  (cond (1<=a)
   (some (decide (a<=100)))
   (some false))
  (some false))
 (some false):=by kernel_rfl
def xf:List CO:=[ahA]
noncomputable def xg:FD:=⟨63,Tryz.f63,.z,[.h j1,.h j1],[],[j1,j1],⟨[(4,.k (.pt 900 0)),(5,.h j1)],[(900,.box 92 [.h fw,.h j1,.h j3])],[j1,fw,j1,j3]⟩,false,false,[]⟩
def I6:Nat->Int×Int->Option (Int×mR×Int×bq):=mF xf xg
def ai9:CO:=cF xf xg I6 Tryz.func63
def XF N n a:I6 (N+1) (n,a)=aW (Mm N (n,a)) λb=>
 cond (!b)
  (some ((1:Int),[],(0:Int),[]))
  (aW (qM n (1:Nat)) λc=>
  some ((0:Int),[((0:Int),n,(-(1:Int)),(0:Int))],a,(List.replicate c false))):=by kernel_rfl
def xh:List CO:=[ai9]
noncomputable def xi:FD:=⟨25,Tryz.f25,.z,[.h j1,.h j1,.h j1],[],[j1,j1,j1],⟨[(6,.k (.pt 900 0)),(7,.h j1)],[(900,.box 94 [.h fw,.h j1,.h j3,.h cj,.h .b,.h j1,.h j1])],[j1,fw,j1,j3,cj,.b,j1,j1]⟩,false,false,[]⟩
def I7:Nat->Int×Int×Int->Option (Int×mR×Int×bq×A3×Bool×Int×Int):=mF xh xi
def ai_:CO:=cF xh xi I7 Tryz.func25
def XG N n d c:I7 (N+1) (n,d,c)=cond (c<(1:Int))
 (some ((1:Int),[],(0:Int),[],[],false,(0:Int),(0:Int)))
 (cond ((8:Int)<c)
  (some ((1:Int),[],(0:Int),[],[],false,(0:Int),(0:Int)))
  (aW (I6 N (n,d)) λb=>
  cond (!(b.1=(0:Int)))
   (some (b.1,[],(0:Int),[],[],false,(0:Int),(0:Int)))
   (aW (qM c (24:Nat)) λa=>
   aW (ba (List.replicate a ([]:aX)) (0:Int)) λf=>
   aW (ba (List.replicate a ([]:aX)) (0:Int)) λe=>
   cond (l4 e)
    (aW (ba (List.replicate a ([]:aX)) (0:Int)) λg=>
    aW (ba (List.replicate a ([]:aX)) (0:Int)) λh=>
    aW (ba (List.replicate a ([]:aX)) (0:Int)) λi=>
    some ((0:Int),b.2.1,b.2.2.1,b.2.2.2,(List.set (List.replicate a ([]:aX)) (Int.toNat (0:Int)) ([]++[(0:Int)])),false,(0:Int),(0:Int)))
    none))):=by kernel_rfl
def py:List CO:=[ahA]
def Mn:PS:=⟨[(1,.k (.pt 900 0)),(25,.h fw),(26,.h j1),(27,.h j1)],[(900,.box 92 [.h fw,.h j1,.h j3])],[fw,j1,j1,fw,j1,j3]⟩
def Mo:List (Exit×PS):=[((.exit 0),⟨[],[],[]⟩),(.ret,⟨[(2,.h .b)],[],[.b]⟩)]
def Mp:Pl:=.z
def xj:Nat->Nat->mR×Int×Int×mR×Int×bq->Option ((Unit)⊕(Bool)):=gh py Tryz.f153 [1,1,0,1,0,0] Mn Mo Mp
noncomputable def xk:FD:=⟨153,Tryz.f153,(.n .z (.n .z (.n (.n .z (.n (.loop Mn Mo Mp) .z)) .z))),[.ag [.h fw,.h j1,.h j3]],[],[fw,j1,j3],⟨[(2,.h .b)],[],[.b]⟩,false,true,[]⟩
def DU:Nat->mR×Int×bq->eA:=mF py xk
def abD:CO:=cF py xk DU Tryz.func153
def DV N m c d b w f e:xj N (m+1) (c,d,b,w,f,e)=cond (b<d)
 (aW (ba c b) λa=>
 cond (a.1<0)
  (some (.inr false))
  (cond (a.2.1<=a.1)
   (some (.inr false))
   (cond ((List.length e:Int)<a.2.1)
    (some (.inr false))
    (cond (a.2.2.1<(-1))
     (some (.inr false))
     (cond (b<=a.2.2.1)
      (some (.inr false))
      (cond (a.2.2.2<0)
       (some (.inr false))
       (cond (2<a.2.2.2)
        (some (.inr false))
        ((xj N m (c,d,(wrap .i64 (b+1)),w,f,e))))))))))
 (some (.inl ())):=by kernel_rfl
def XH N w a b:DU (N+1) (w,a,b)=aW (Mm N ((List.length b:Int),a)) λc=>
 cond (!c)
  (some false)
  (cond ((List.length w:Int)=0)
   (some false)
   (cond (2000<(List.length w:Int))
    (some false)
    (aW (xj N N (w,(List.length w:Int),0,w,a,b)) λd=>
    (match d with
    |.inl f=>some true
    |.inr e=>some e)))):=by kernel_rfl
def rS:List CO:=[]
noncomputable def rT:FD:=⟨154,Tryz.f154,.z,[.h j1],[],[j1],⟨[(2,.h .b)],[],[.b]⟩,false,true,[]⟩
def Mq:Nat->Int->eA:=mF rS rT
def alK:CO:=cF rS rT Mq Tryz.func154
def abE N n:Mq (N+1) n=cond (0<=n)
 (some (decide (n<=100000)))
 (some false):=by kernel_rfl
def xl:List CO:=[abD]
noncomputable def xn:FD:=⟨251,Tryz.f251,.z,[.ag [.h fw,.h j1,.h j3],.h j1],[],[fw,j1,j3,j1],⟨[(4,.h j1)],[],[j1]⟩,false,true,[]⟩
def zI:Nat->mR×Int×bq×Int->eR:=mF xl xn
def Qx:CO:=cF xl xn zI Tryz.func251
def XI N w a b i:zI (N+1) (w,a,b,i)=aW (DU N (w,a,b)) λc=>
 cond (!c)
  (some 1)
  (cond (i<0)
   (some 6)
   (cond ((List.length w:Int)<=i)
    (some 6)
    (some 0))):=by kernel_rfl
def xo:List CO:=[]
noncomputable def xp:FD:=⟨252,Tryz.f252,.z,[.ag [.h j1,.h j1,.h j1,.h j1]],[],[j1,j1,j1,j1],⟨[(2,.h j1)],[],[j1]⟩,false,true,[]⟩
def vx:Nat->Int×Int×Int×Int->eR:=mF xo xp
def Qy:CO:=cF xo xp vx Tryz.func252
def XJ N t a b c:vx (N+1) (t,a,b,c)=some (wrap .i64 (a - t)):=by kernel_rfl
def xq:List CO:=[Qx,Qy]
noncomputable def xr:FD:=⟨205,Tryz.f205,.z,[.ag [.h fw,.h j1,.h j3],.h j1],[],[fw,j1,j3,j1],⟨[(4,.h .b)],[],[.b]⟩,false,true,[]⟩
def DW:Nat->mR×Int×bq×Int->eA:=mF xq xr
def abF:CO:=cF xq xr DW Tryz.func205
def XK N w b c i:DW (N+1) (w,b,c,i)=aW (zI N (w,b,c,i)) λd=>
 cond (d=0)
  (aW (ba w i) λa=>
  aW (vx N (a.1,a.2.1,a.2.2.1,a.2.2.2)) λe=>
  some (decide (b<e)))
  (some false):=by kernel_rfl
def xt:List CO:=[abF]
noncomputable def xu:FD:=⟨155,Tryz.f155,.z,[.ag [.h fw,.h j1,.h j3],.h j1],[],[fw,j1,j3,j1],⟨[(4,.h .b)],[],[.b]⟩,false,true,[]⟩
def I8:Nat->mR×Int×bq×Int->eA:=mF xt xu
def aja:CO:=cF xt xu I8 Tryz.func155
def XL N w b a t:I8 (N+1) (w,b,a,t)=cond (0<=t)
 (cond (t<(List.length w:Int))
  (aW (ba w t) λc=>
  cond (c.2.2.2=0)
   (aW (DW N (w,b,a,t)) λd=>
   cond d
    (some true)
    (aW (ba w t) λe=>
    aW (ba a e.1) λf=>
    some (!f)))
   (some false))
  (some false))
 (some false):=by kernel_rfl
def lJ:List CO:=[abD,alK,aja]
def Mr:PS:=⟨[(1,.k (.pt 900 0)),(3,.k (.mp 901)),(38,.h cj),(39,.h j1),(40,.h j1),(44,.h j6),(45,.h j1),(46,.h j1)],[(900,.box 94 [.h fw,.h j1,.h j3,.h cj,.h .b,.h j1,.h j1]),(901,.mp (.int .i64) j1 j1)],[cj,j1,j1,j6,j1,j1,fw,j1,j3,cj,.b,j1,j1,cy]⟩
def Ms:List (Exit×PS):=[((.exit 2),⟨[(1,.k (.pt 900 0)),(3,.k (.mp 901)),(38,.h cj),(39,.h j1),(40,.h j1)],[(900,.box 94 [.h fw,.h j1,.h j3,.h cj,.h .b,.h j1,.h j1]),(901,.mp (.int .i64) j1 j1)],[cj,j1,j1,fw,j1,j3,cj,.b,j1,j1,cy]⟩),(.ret,⟨[(2,.h .b)],[],[.b]⟩)]
def Mt:Pl:=.z
def xv:Nat->Nat->A3×Int×Int×aX×Int×Int×mR×Int×bq×A3×Bool×Int×Int×A1->Option ((A3×Int×Int×mR×Int×bq×A3×Bool×Int×Int×A1)⊕(Bool)):=gh lJ Tryz.f85 [1,1,1,0,1,0,0,1,1,0,0,1,1,0,0] Mr Ms Mt
def Mu:PS:=⟨[(1,.k (.pt 900 0)),(3,.k (.mp 901)),(38,.h cj),(39,.h j1),(40,.h j1)],[(900,.box 94 [.h fw,.h j1,.h j3,.h cj,.h .b,.h j1,.h j1]),(901,.mp (.int .i64) j1 j1)],[cj,j1,j1,fw,j1,j3,cj,.b,j1,j1,cy]⟩
def Mw:List (Exit×PS):=[((.exit 0),⟨[],[],[]⟩),(.ret,⟨[(2,.h .b)],[],[.b]⟩)]
def Mx:Pl:=(.n .z (.n .z (.n (.n (.n .z (.n .z (.n (.loop Mr Ms Mt) .z))) .z) .z)))
def xw:Nat->Nat->A3×Int×Int×mR×Int×bq×A3×Bool×Int×Int×A1->Option ((Unit)⊕(Bool)):=gh lJ Tryz.f85 [1,1,1,0,1,0,0] Mu Mw Mx
noncomputable def xx:FD:=⟨85,Tryz.f85,(.n .z (.n .z (.n .z (.n (.n .z (.n (.loop Mu Mw Mx) .z)) .z)))),[.ag [.h fw,.h j1,.h j3,.h cj,.h .b,.h j1,.h j1]],[],[fw,j1,j3,cj,.b,j1,j1],⟨[(2,.h .b)],[],[.b]⟩,false,true,[]⟩
def I9:Nat->mR×Int×bq×A3×Bool×Int×Int->eA:=mF lJ xx
def ajb:CO:=cF lJ xx I9 Tryz.func85
def DX N m k l n o p f c d e g h i j a:xv N (m+1) (k,l,n,o,p,f,c,d,e,g,h,i,j,a)=cond (f<p)
 (aW (ba o f) λb=>
 cond (1<(Option.getD (bJ j1 (dS j1 a b (wrap .i64 ((Option.getD (bJ j1 a b) 0)+1))) b) 0))
  (some (.inr false))
  (aW (I8 N (c,d,e,b)) λq=>
  cond (!q)
   (some (.inr false))
   ((xv N m (k,l,n,o,p,(wrap .i64 (f+1)),c,d,e,g,h,i,j,(dS j1 a b (wrap .i64 ((Option.getD (bJ j1 a b) 0)+1))))))))
 (some (.inl (k,l,n,c,d,e,g,h,i,j,a))):=by kernel_rfl
def DY N m d e b c f g h i j k l:xw N (m+1) (d,e,b,c,f,g,h,i,j,k,l)=cond (b<e)
 (aW (ba d b) λn=>
 aW (xv N N (d,e,b,n,(List.length n:Int),0,c,f,g,h,i,j,k,l)) λo=>
 (match o with
 |.inl a=>(xw N m (a.1,a.2.1,(wrap .i64 (a.2.2.1+1)),a.2.2.2.1,a.2.2.2.2.1,a.2.2.2.2.2.1,a.2.2.2.2.2.2.1,a.2.2.2.2.2.2.2.1,a.2.2.2.2.2.2.2.2.1,a.2.2.2.2.2.2.2.2.2.1,a.2.2.2.2.2.2.2.2.2.2))
 |.inr p=>some (.inr p)))
 (some (.inl ())):=by kernel_rfl
def XM N c b d a g e f:I9 (N+1) (c,b,d,a,g,e,f)=aW (DU N (c,b,d)) λh=>
 cond (!h)
  (some false)
  (cond ((List.length a:Int)=0)
   (some false)
   (cond (8<(List.length a:Int))
    (some false)
    (aW (Mq N e) λi=>
    cond (!i)
     (some false)
     (aW (Mq N f) λj=>
     cond (!j)
      (some false)
      (aW (xw N N (a,(List.length a:Int),0,c,b,d,a,g,e,f,[])) λk=>
      (match k with
      |.inl m=>some true
      |.inr l=>some l)))))):=by kernel_rfl
def iw:List CO:=[]
noncomputable def iy:FD:=⟨247,Tryz.f247,.z,[.h cj],[],[cj],⟨[(2,.k (.ow 900))],[(900,.arr 33 j6 true)],[cj]⟩,true,false,[900]⟩
def TZ:Nat->A3->Option (A3):=mF iw iy
def alL:CO:=cF iw iy TZ Tryz.func247
def abG N s:TZ (N+1) s=cond (o5 s)
 (dem λc=>
 cond c
  (some [])
  (aW (eN 24 [] s) λa=>
  some a))
 (aW (eN 24 [] s) λb=>
 some b):=by kernel_rfl
def e6:List CO:=[]
noncomputable def e7:FD:=⟨248,Tryz.f248,.z,[.k (.pt 4294967296 0),.h j1],[(4294967296,.box 346 [.h fw,.h j1,.h j3,.k (.ow 4294967297),.h .b,.h j1,.h j1,.h j1,.h j1,.h j1,.h .b]),(4294967297,.arr 33 j6 true)],[j1,fw,j1,j3,.b,j1,j1,j1,j1,j1,.b,cj],⟨[(4,.h j1)],[(4294967297,.arr 33 j6 true),(4294967296,.box 346 [.h fw,.h j1,.h j3,.k (.ow 4294967297),.h .b,.h j1,.h j1,.h j1,.h j1,.h j1,.h .b])],[j1,cj,fw,j1,j3,.b,j1,j1,j1,j1,j1,.b]⟩,true,false,[4294967297,4294967296]⟩
def My:Nat->Int×mR×Int×bq×Bool×Int×Int×Int×Int×Int×Bool×A3->Option (Int×A3×mR×Int×bq×Bool×Int×Int×Int×Int×Int×Bool):=mF e6 e7
def alM:CO:=cF e6 e7 My Tryz.func248
def abH N n s b c d e f g i j a h:My (N+1) (n,s,b,c,d,e,f,g,i,j,a,h)=aW (FQ n (List.length h:Int)) λk=>
 aW (FQ (wrap .i64 (k+(List.length h:Int))) (List.length h:Int)) λl=>
 some (l,h,s,b,c,d,e,f,g,i,j,a):=by kernel_rfl
def fg:List CO:=[]
noncomputable def fi:FD:=⟨249,Tryz.f249,.z,[.k (.pt 4294967296 0),.h j1,.h j1],[(4294967296,.box 346 [.h fw,.h j1,.h j3,.k (.ow 4294967297),.h .b,.h j1,.h j1,.h j1,.h j1,.h j1,.h .b]),(4294967297,.arr 33 j6 true)],[j1,j1,fw,j1,j3,.b,j1,j1,j1,j1,j1,.b,cj],⟨[(6,.h .b)],[(4294967297,.arr 33 j6 true),(4294967296,.box 346 [.h fw,.h j1,.h j3,.k (.ow 4294967297),.h .b,.h j1,.h j1,.h j1,.h j1,.h j1,.h .b])],[.b,cj,fw,j1,j3,.b,j1,j1,j1,j1,j1,.b]⟩,true,false,[4294967297,4294967296]⟩
def AQ:Nat->Int×Int×mR×Int×bq×Bool×Int×Int×Int×Int×Int×Bool×A3->Option (Bool×A3×mR×Int×bq×Bool×Int×Int×Int×Int×Int×Bool):=mF fg fi
def alN:CO:=cF fg fi AQ Tryz.func249
def DZ N p v s c d e f g i k l b h:AQ (N+1) (p,v,s,c,d,e,f,g,i,k,l,b,h)=aW (ba h p) λr=>
 aW (ba h p) λa=>
 aW (ba h v) λw=>
 aW (ba h v) λj=>
 cond (0<=(wrap .i64 ((List.length a:Int) - 1)))
  (aW (ba a (wrap .i64 ((List.length a:Int) - 1))) λn=>
  aW (K0 a 0 (wrap .i64 ((List.length a:Int) - 1)) (wrap .i64 ((List.length a:Int) - 1))) λo=>
  cond ((wrap .i64 ((List.length a:Int) - 1))=(wrap .i64 ((List.length a:Int) - 1)))
   (aW (ba h p) λx=>
   aW (ba h p) λy=>
   some (true,(List.set h (Int.toNat p) o),s,c,d,e,f,g,i,p,n,b))
   none)
  (cond (0<(List.length j:Int))
   (aW (ba j 0) λq=>
   aW (jm j 1 (List.length j:Int)) λm=>
   aW (ba h v) λt=>
   aW (ba h v) λu=>
   some (true,(List.set h (Int.toNat v) m),s,c,d,e,f,g,i,v,q,b))
   (some (false,h,s,c,d,e,f,g,i,k,l,b))):=by kernel_rfl
def fy:List CO:=[]
noncomputable def fA:FD:=⟨286,Tryz.f286,.z,[.h fw],[],[fw],⟨[(2,.k (.ow 900))],[(900,.arr 195 j15 true)],[fw]⟩,true,true,[900]⟩
def Mz:Nat->mR->Option (mR):=mF fy fA
def ahB:CO:=cF fy fA Mz Tryz.func286
def abI N s:Mz (N+1) s=cond (o5 s)
 (dem λc=>
 cond c
  (some [])
  (aW (eN 32 [] s) λa=>
  some a))
 (aW (eN 32 [] s) λb=>
 some b):=by kernel_rfl
def AR:List CO:=[Qx,Qy,ahB]
noncomputable def AS:FD:=⟨274,Tryz.f274,.z,[.ag [.h fw,.h j1,.h j3],.h j1],[],[fw,j1,j3,j1],⟨[(4,.k (.pt 900 0)),(5,.h j1),(6,.h j1),(7,.h j1)],[(900,.box 92 [.h fw,.h j1,.h j3])],[j1,j1,j1,fw,j1,j3]⟩,false,false,[]⟩
def I_:Nat->mR×Int×bq×Int->Option (Int×Int×Int×mR×Int×bq):=mF AR AS
def ajc:CO:=cF AR AS I_ Tryz.func274
def XN N w b c i:I_ (N+1) (w,b,c,i)=aW (zI N (w,b,c,i)) λf=>
 cond (!(f=0))
  (some (0,0,f,w,b,c))
  (aW (ba w i) λa=>
  aW (vx N (a.1,a.2.1,a.2.2.1,a.2.2.2)) λh=>
  cond (h<=b)
   (some (0,0,5,w,b,c))
   (cond (0<a.2.2.2)
    (some (0,0,5,w,b,c))
    (cond (2000<(wrap .i64 ((List.length w:Int)+2)))
     (some (0,0,2,w,b,c))
     (aW (vx N (a.1,a.2.1,a.2.2.1,a.2.2.2)) λg=>
     aW (Mz N w) λj=>
     aW (eN 32 j [(a.1,(wrap .i64 (a.1+(wrap .i64 (Int.tdiv g 2)))),i,0),((wrap .i64 (a.1+(wrap .i64 (Int.tdiv g 2)))),a.2.1,i,0)]) λd=>
     aW (ba d i) λk=>
     aW (ba d i) λe=>
     some ((List.length w:Int),(wrap .i64 ((List.length w:Int)+1)),0,(List.set d (Int.toNat i) (e.1,e.2.1,e.2.2.1,2)),b,c))))):=by kernel_rfl
def jG:List CO:=[]
noncomputable def jH:FD:=⟨275,Tryz.f275,.z,[.h j6],[],[j6],⟨[(2,.t j1)],[],[j6]⟩,false,false,[]⟩
def T0:Nat->aX->mC:=mF jG jH
def alO:CO:=cF jG jH T0 Tryz.func275
def abJ N s:T0 (N+1) s=aW (K0 s 0 (List.length s:Int) (List.length s:Int)) λa=>
 cond ((List.length s:Int)=(List.length s:Int))
  (some a)
  none:=by kernel_rfl
def iz:List CO:=[]
noncomputable def iA:FD:=⟨287,Tryz.f287,.z,[.h j3],[],[j3],⟨[(2,.k (.ow 900))],[(900,.arr 4 .b true)],[j3]⟩,true,true,[900]⟩
def T1:Nat->bq->Option (bq):=mF iz iA
def alP:CO:=cF iz iA T1 Tryz.func287
def abK N s:T1 (N+1) s=cond (o5 s)
 (dem λc=>
 cond c
  (some [])
  (aW (eN 1 [] s) λa=>
  some a))
 (aW (eN 1 [] s) λb=>
 some b):=by kernel_rfl
def lj:List CO:=[]
def T2:PS:=⟨[(0,.k (.ow 4294967296)),(1,.h j1)],[(4294967296,.arr 195 j15 true)],[j1,fw]⟩
def T3:List (Exit×PS):=[((.exit 0),⟨[],[(4294967296,.arr 195 j15 true)],[fw]⟩),(.ret,⟨[(4,.h .b)],[(4294967296,.arr 195 j15 true)],[.b,fw]⟩)]
def T4:Pl:=.z
def Cc:Nat->Nat->Int×mR->Option ((mR)⊕(Bool×mR)):=gh lj Tryz.f288 [1,0,0,0] T2 T3 T4
noncomputable def qu:FD:=⟨288,Tryz.f288,(.n .z (.n (.n (.loop T2 T3 T4) .z) .z)),[.k (.ow 4294967296),.h j1],[(4294967296,.arr 195 j15 true)],[j1,fw],⟨[(4,.h .b)],[(4294967296,.arr 195 j15 true)],[.b,fw]⟩,true,true,[4294967296]⟩
def abL:Nat->Int×mR->Option (Bool×mR):=mF lj qu
def alQ:CO:=cF lj qu abL Tryz.func288
def tp N m a c:Cc N (m+1) (a,c)=cond (!(a=(-1)))
 (aW (ba c a) λh=>
 aW (ba c a) λe=>
 cond (e.2.2.2=0)
  (some (.inr (false,c)))
  (aW (ba c a) λd=>
  aW (ba c a) λb=>
  aW (ba (List.set c (Int.toNat a) (b.1,b.2.1,b.2.2.1,(wrap .i64 (d.2.2.2 - 1)))) a) λf=>
  cond (0<f.2.2.2)
   (some (.inr (false,(List.set c (Int.toNat a) (b.1,b.2.1,b.2.2.1,(wrap .i64 (d.2.2.2 - 1)))))))
   (aW (ba (List.set c (Int.toNat a) (b.1,b.2.1,b.2.2.1,(wrap .i64 (d.2.2.2 - 1)))) a) λg=>
   (Cc N m (g.2.2.1,(List.set c (Int.toNat a) (b.1,b.2.1,b.2.2.1,(wrap .i64 (d.2.2.2 - 1)))))))))
 (some (.inl c)):=by kernel_rfl
def abM N b a:abL (N+1) (b,a)=aW (Cc N N (b,a)) λd=>
 (match d with
 |.inl e=>some (true,e)
 |.inr c=>some (c.1,c.2)):=by kernel_rfl
def zJ:List CO:=[Qx,Qy,ahB,alP,alQ]
def MA:PS:=⟨[(2,.k (.pt 900 0)),(4,.k (.pt 901 0)),(8,.k (.pt 902 0)),(9,.h j1)],[(900,.box 92 [.k (.ow 903),.h j1,.k (.ow 904)]),(901,.box 92 [.k .nil,.h j1,.k .nil]),(902,.box 195 [.h j1,.h j1,.h j1,.h j1]),(903,.arr 195 j15 true),(904,.arr 4 .b true)],[j1,j1,j1,j1,j1,j1,j1,fw,j3]⟩
def MB:List (Exit×PS):=[((.exit 0),⟨[(2,.k (.pt 900 0)),(4,.k (.pt 901 0)),(8,.k (.pt 902 0))],[(900,.box 92 [.k (.ow 903),.h j1,.k (.ow 904)]),(901,.box 92 [.k .nil,.h j1,.k .nil]),(902,.box 195 [.h j1,.h j1,.h j1,.h j1]),(903,.arr 195 j15 true),(904,.arr 4 .b true)],[j1,j1,j1,j1,j1,j1,fw,j3]⟩)]
def MC:Pl:=.z
def xy:Nat->Nat->Int×Int×Int×Int×Int×Int×Int×mR×bq->Option (Int×Int×Int×Int×Int×Int×mR×bq):=gh zJ Tryz.f276 [1,1,1,1,1,0,1,0,0] MA MB MC
noncomputable def GX:FD:=⟨276,Tryz.f276,(.n .z (.n .z (.n .z (.n .z (.n .z (.n (.n .z (.n (.loop MA MB MC) .z)) .z)))))),[.ag [.h fw,.h j1,.h j3],.h j1],[],[fw,j1,j3,j1],⟨[(4,.k (.pt 900 0)),(5,.h .b),(6,.h j1)],[(900,.box 92 [.h fw,.h j1,.h j3])],[.b,j1,fw,j1,j3]⟩,false,false,[]⟩
def Ja:Nat->mR×Int×bq×Int->Option (Bool×Int×mR×Int×bq):=mF zJ GX
def ajd:CO:=cF zJ GX Ja Tryz.func276
def D0 N m k w e t b c d f a:xy N (m+1) (k,w,e,t,b,c,d,f,a)=cond (k<b)
 (aW (ba a k) λg=>
 aW (ba a k) λh=>
 (xy N m ((wrap .i64 (k+1)),w,e,t,b,c,d,f,(List.set a (Int.toNat k) true))))
 (some (w,e,t,b,c,d,f,a)):=by kernel_rfl
def XO N w b c i:Ja (N+1) (w,b,c,i)=aW (zI N (w,b,c,i)) λe=>
 cond (!(e=0))
  (some (false,e,w,b,c))
  (aW (ba w i) λa=>
  aW (vx N (a.1,a.2.1,a.2.2.1,a.2.2.2)) λg=>
  cond (b<g)
   (some (false,5,w,b,c))
   (cond (0<a.2.2.2)
    (some (false,5,w,b,c))
    (aW (ba c a.1) λh=>
    cond h
     (some (false,5,w,b,c))
     (aW (Mz N w) λj=>
     aW (T1 N c) λk=>
     aW (xy N N (a.1,b,0,a.1,a.2.1,a.2.2.1,a.2.2.2,j,k)) λd=>
     aW (abL N (d.2.2.2.2.1,d.2.2.2.2.2.2.1)) λf=>
     some (f.1,0,f.2,d.1,d.2.2.2.2.2.2.2))))):=by kernel_rfl
def fL:List CO:=[abF,ajc,alO,ajd]
noncomputable def fM:FD:=⟨250,Tryz.f250,.z,[.k (.pt 4294967296 0),.h j1],[(4294967296,.box 346 [.h fw,.h j1,.h j3,.k (.ow 4294967297),.h .b,.h j1,.h j1,.h j1,.h j1,.h j1,.h .b]),(4294967297,.arr 33 j6 true)],[j1,fw,j1,j3,.b,j1,j1,j1,j1,j1,.b,cj],⟨[(4,.h j1)],[(4294967297,.arr 33 j6 true),(4294967296,.box 346 [.h fw,.h j1,.h j3,.k (.ow 4294967297),.h .b,.h j1,.h j1,.h j1,.h j1,.h j1,.h .b])],[j1,cj,fw,j1,j3,.b,j1,j1,j1,j1,j1,.b]⟩,true,false,[4294967297,4294967296]⟩
def MD:Nat->Int×mR×Int×bq×Bool×Int×Int×Int×Int×Int×Bool×A3->Option (Int×A3×mR×Int×bq×Bool×Int×Int×Int×Int×Int×Bool):=mF fL fM
def alR:CO:=cF fL fM MD Tryz.func250
def ME N p s j k l d e f g c i h:MD (N+1) (p,s,j,k,l,d,e,f,g,c,i,h)=aW (DW N (s,j,k,c)) λm=>
 cond m
  (aW (I_ N (s,j,k,c)) λa=>
  cond (a.2.2.1=0)
   (aW (ba h p) λr=>
   aW (ba h p) λn=>
   aW (T0 N n) λo=>
   aW (eN 8 o [a.2.1,a.1]) λq=>
   aW (ba h p) λt=>
   aW (ba h p) λu=>
   some (a.2.2.1,(List.set h (Int.toNat p) q),a.2.2.2.1,a.2.2.2.2.1,a.2.2.2.2.2,l,d,e,f,g,c,true))
   (some (a.2.2.1,h,a.2.2.2.1,a.2.2.2.2.1,a.2.2.2.2.2,l,d,e,f,g,c,i)))
  (aW (Ja N (s,j,k,c)) λb=>
  cond l
   (some (b.2.1,h,b.2.2.1,b.2.2.2.1,b.2.2.2.2,true,d,e,f,g,c,i))
   (some (b.2.1,h,b.2.2.1,b.2.2.2.1,b.2.2.2.2,b.1,d,e,f,g,c,i))):=by kernel_rfl
def AT:List CO:=[ajb,alL,alM,alN,alR]
noncomputable def AU:FD:=⟨203,Tryz.f203,.z,[.ag [.h fw,.h j1,.h j3,.h cj,.h .b,.h j1,.h j1],.h j1,.h j1],[],[fw,j1,j3,cj,.b,j1,j1,j1,j1],⟨[(6,.k (.pt 900 0)),(7,.k (.pt 901 0)),(8,.h j1)],[(900,.box 94 [.h fw,.h j1,.h j3,.h cj,.h .b,.h j1,.h j1]),(901,.box 254 [.h j1,.h j1,.h j1,.h .b])],[j1,fw,j1,j3,cj,.b,j1,j1,j1,j1,j1,.b]⟩,false,false,[]⟩
def zK:Nat->mR×Int×bq×A3×Bool×Int×Int×Int×Int->Option (Int×mR×Int×bq×A3×Bool×Int×Int×Int×Int×Int×Bool):=mF AT AU
def abN:CO:=cF AT AU zK Tryz.func203
def XP N c g h i j f k p v:zK (N+1) (c,g,h,i,j,f,k,p,v)=aW (I9 N (c,g,h,i,j,f,k)) λl=>
 cond (!l)
  (some (1,c,g,h,i,j,f,k,0,0,0,false))
  (cond (f=100000)
   (some (2,c,g,h,i,j,f,k,0,0,0,false))
   (aW (TZ N i) λm=>
   aW (My N (p,c,g,h,j,f,k,0,(-1),(-1),false,m)) λb=>
   aW (My N (v,b.2.2.1,b.2.2.2.1,b.2.2.2.2.1,b.2.2.2.2.2.1,b.2.2.2.2.2.2.1,b.2.2.2.2.2.2.2.1,b.2.2.2.2.2.2.2.2.1,b.2.2.2.2.2.2.2.2.2.1,b.2.2.2.2.2.2.2.2.2.2.1,b.2.2.2.2.2.2.2.2.2.2.2,b.2.1)) λe=>
   aW (AQ N (b.1,e.1,e.2.2.1,e.2.2.2.1,e.2.2.2.2.1,e.2.2.2.2.2.1,(wrap .i64 (e.2.2.2.2.2.2.1+1)),e.2.2.2.2.2.2.2.1,b.1,e.2.2.2.2.2.2.2.2.2.1,e.2.2.2.2.2.2.2.2.2.2.1,e.2.2.2.2.2.2.2.2.2.2.2,e.2.1)) λa=>
   cond a.1
    (aW (MD N (b.1,a.2.2.1,a.2.2.2.1,a.2.2.2.2.1,a.2.2.2.2.2.1,a.2.2.2.2.2.2.1,a.2.2.2.2.2.2.2.1,a.2.2.2.2.2.2.2.2.1,a.2.2.2.2.2.2.2.2.2.1,a.2.2.2.2.2.2.2.2.2.2.1,a.2.2.2.2.2.2.2.2.2.2.2,a.2.1)) λd=>
    cond (!(d.1=0))
     (some (d.1,c,g,h,i,j,f,k,0,0,0,false))
     (some (0,d.2.2.1,d.2.2.2.1,d.2.2.2.2.1,d.2.1,d.2.2.2.2.2.1,d.2.2.2.2.2.2.1,d.2.2.2.2.2.2.2.1,d.2.2.2.2.2.2.2.2.1,d.2.2.2.2.2.2.2.2.2.1,d.2.2.2.2.2.2.2.2.2.2.1,d.2.2.2.2.2.2.2.2.2.2.2)))
    (cond (a.2.2.2.2.2.2.2.1=100000)
     (some (2,c,g,h,i,j,f,k,0,0,0,false))
     (some (0,a.2.2.1,a.2.2.2.1,a.2.2.2.2.1,a.2.1,a.2.2.2.2.2.1,a.2.2.2.2.2.2.1,(wrap .i64 (a.2.2.2.2.2.2.2.1+1)),a.2.2.2.2.2.2.2.2.1,a.2.2.2.2.2.2.2.2.2.1,a.2.2.2.2.2.2.2.2.2.2.1,a.2.2.2.2.2.2.2.2.2.2.2))))):=by kernel_rfl
def gZ:List CO:=[abN]
noncomputable def g_:FD:=⟨150,Tryz.f150,.z,[.k (.pt 4294967296 0),.h j1,.h j1],[(4294967296,.box 250 [.h fw,.h j1,.h j3,.h cj,.h .b,.h j1,.h j1,.k .nil])],[j1,j1,fw,j1,j3,cj,.b,j1,j1],⟨[(6,.h j1)],[(4294967296,.box 250 [.h fw,.h j1,.h j3,.h cj,.h .b,.h j1,.h j1,.k (.ow 900)]),(900,.arr 254 qj true)],[j1,fw,j1,j3,cj,.b,j1,j1,c5]⟩,true,false,[4294967296,900]⟩
def alS:Nat->Int×Int×mR×Int×bq×A3×Bool×Int×Int->Option A14:=mF gZ g_
def alT:CO:=cF gZ g_ alS Tryz.func150
def hA:List CO:=[abN]
noncomputable def hB:FD:=⟨150,Tryz.f150,.z,[.k (.pt 4294967296 0),.h j1,.h j1],[(4294967296,.box 250 [.h fw,.h j1,.h j3,.h cj,.h .b,.h j1,.h j1,.k (.ow 4294967297)]),(4294967297,.arr 254 qj true)],[j1,j1,fw,j1,j3,cj,.b,j1,j1,c5],⟨[(6,.h j1)],[(4294967296,.box 250 [.h fw,.h j1,.h j3,.h cj,.h .b,.h j1,.h j1,.k (.ow 901)]),(901,.arr 254 qj true)],[j1,fw,j1,j3,cj,.b,j1,j1,c5]⟩,true,false,[4294967296,901]⟩
def MF:Nat->Int×Int×mR×Int×bq×A3×Bool×Int×Int×fx->Option A14:=mF hA hB
def ahC:CO:=cF hA hB MF Tryz.func150
def abO N p v g b c d e f i h:MF (N+1) (p,v,g,b,c,d,e,f,i,h)=aW (zK N (g,b,c,d,e,f,i,p,v)) λa=>
 cond (a.1=0)
  (aW (eN 32 h [(a.2.2.2.2.2.2.2.2.1,a.2.2.2.2.2.2.2.2.2.1,a.2.2.2.2.2.2.2.2.2.2.1,a.2.2.2.2.2.2.2.2.2.2.2)]) λj=>
  some (a.1,a.2.1,a.2.2.1,a.2.2.2.1,a.2.2.2.2.1,a.2.2.2.2.2.1,a.2.2.2.2.2.2.1,a.2.2.2.2.2.2.2.1,j))
  (some (a.1,g,b,c,d,e,f,i,h)):=by kernel_rfl
def rU:List CO:=[]
def MG:PS:=⟨[(2,.h j1),(6,.h cj),(7,.h j1),(8,.h j1)],[],[j1,cj,j1,j1]⟩
def MH:List (Exit×PS):=[((.exit 0),⟨[(2,.h j1)],[],[j1]⟩)]
def MI:Pl:=.z
def xz:Nat->Nat->Int×A3×Int×Int->eR:=gh rU Tryz.f204 [1,0,1,0,0] MG MH MI
noncomputable def AW:FD:=⟨204,Tryz.f204,(.n .z (.n (.n .z (.n (.loop MG MH MI) .z)) .z)),[.ag [.h fw,.h j1,.h j3,.h cj,.h .b,.h j1,.h j1]],[],[fw,j1,j3,cj,.b,j1,j1],⟨[(2,.h j1)],[],[j1]⟩,false,true,[]⟩
def Jb:Nat->mR×Int×bq×A3×Bool×Int×Int->eR:=mF rU AW
def aje:CO:=cF rU AW Jb Tryz.func204
def D1 N m n b c a:xz N (m+1) (n,b,c,a)=cond (a<c)
 (aW (ba b a) λd=>
 (xz N m ((wrap .i64 (n+(List.length d:Int))),b,c,(wrap .i64 (a+1)))))
 (some n):=by kernel_rfl
def XQ N c b d a e f g:Jb (N+1) (c,b,d,a,e,f,g)=aW (xz N N (0,a,(List.length a:Int),0)) λh=>
 some h:=by kernel_rfl
def dZ:List CO:=[aje,ahC]
def T5:PS:=⟨[(0,.k (.pt 4294967296 0)),(3,.h j1),(13,.h j1),(14,.h j1)],[(4294967296,.box 250 [.h fw,.h j1,.h j3,.h cj,.h .b,.h j1,.h j1,.k (.ow 900)]),(900,.arr 254 qj true)],[j1,j1,j1,fw,j1,j3,cj,.b,j1,j1,c5]⟩
def T6:List (Exit×PS):=[((.exit 2),⟨[(0,.k (.pt 4294967296 0)),(3,.h j1)],[(4294967296,.box 250 [.h fw,.h j1,.h j3,.h cj,.h .b,.h j1,.h j1,.k (.ow 900)]),(900,.arr 254 qj true)],[j1,fw,j1,j3,cj,.b,j1,j1,c5]⟩),(.ret,⟨[(2,.h j1)],[(4294967296,.box 250 [.h fw,.h j1,.h j3,.h cj,.h .b,.h j1,.h j1,.k (.ow 900)]),(900,.arr 254 qj true)],[j1,fw,j1,j3,cj,.b,j1,j1,c5]⟩)]
def T7:Pl:=.z
def pz:Nat->Nat->Int×Int×Int×mR×Int×bq×A3×Bool×Int×Int×fx->Option (A14⊕A14):=gh dZ Tryz.f151 [1,1,0,0,0,0,1,0,0] T5 T6 T7
def T8:PS:=⟨[(0,.k (.pt 4294967296 0)),(3,.h j1)],[(4294967296,.box 250 [.h fw,.h j1,.h j3,.h cj,.h .b,.h j1,.h j1,.k (.ow 907)]),(907,.arr 254 qj true)],[j1,fw,j1,j3,cj,.b,j1,j1,c5]⟩
def T9:List (Exit×PS):=[(.ret,⟨[(2,.h j1)],[(4294967296,.box 250 [.h fw,.h j1,.h j3,.h cj,.h .b,.h j1,.h j1,.k (.ow 900)]),(900,.arr 254 qj true)],[j1,fw,j1,j3,cj,.b,j1,j1,c5]⟩)]
def T_:Pl:=(.n (.n (.n .z (.n (.loop T5 T6 T7) .z)) .z) .z)
def Cd:Nat->Nat->Int×mR×Int×bq×A3×Bool×Int×Int×fx->Option A14:=gh dZ Tryz.f151 [1,1,0,0] T8 T9 T_
noncomputable def gx:FD:=⟨151,Tryz.f151,(.n .z (.n .z (.n (.loop T8 T9 T_) .z))),[.k (.pt 4294967296 0)],[(4294967296,.box 250 [.h fw,.h j1,.h j3,.h cj,.h .b,.h j1,.h j1,.k (.ow 4294967297)]),(4294967297,.arr 254 qj true)],[fw,j1,j3,cj,.b,j1,j1,c5],⟨[(2,.h j1)],[(4294967296,.box 250 [.h fw,.h j1,.h j3,.h cj,.h .b,.h j1,.h j1,.k (.ow 900)]),(900,.arr 254 qj true)],[j1,fw,j1,j3,cj,.b,j1,j1,c5]⟩,true,false,[4294967296,900]⟩
def abP:Nat->mR×Int×bq×A3×Bool×Int×Int×fx->Option A14:=mF dZ gx
def alU:CO:=cF dZ gx abP Tryz.func151
def oz N m r k i g c d e b f h j:pz N (m+1) (r,k,i,g,c,d,e,b,f,h,j)=cond (i<k)
 (cond b
  (some (.inr (0,g,c,d,e,b,f,h,j)))
  (aW (Jb N (g,c,d,e,b,f,h)) λl=>
  cond (l=0)
   (some (.inr (4,g,c,d,e,b,f,h,j)))
   (aW (MF N (i,(wrap .i64 ((wrap .i64 (i+1))+r)),g,c,d,e,b,f,h,j)) λa=>
   cond (!(a.1=0))
    (some (.inr (a.1,a.2.1,a.2.2.1,a.2.2.2.1,a.2.2.2.2.1,a.2.2.2.2.2.1,a.2.2.2.2.2.2.1,a.2.2.2.2.2.2.2.1,a.2.2.2.2.2.2.2.2)))
    ((pz N m (r,k,(wrap .i64 (i+1)),a.2.1,a.2.2.1,a.2.2.2.1,a.2.2.2.2.1,a.2.2.2.2.2.1,a.2.2.2.2.2.2.1,a.2.2.2.2.2.2.2.1,a.2.2.2.2.2.2.2.2))))))
 (some (.inl (r,g,c,d,e,b,f,h,j))):=by kernel_rfl
def tv N m r g d e c f h i j:Cd N (m+1) (r,g,d,e,c,f,h,i,j)=aW (pz N N (r,(List.length c:Int),0,g,d,e,c,f,h,i,j)) λk=>
 (match k with
 |.inl a=>(Cd N m ((wrap .i64 (a.1+1)),a.2.1,a.2.2.1,a.2.2.2.1,a.2.2.2.2.1,a.2.2.2.2.2.1,a.2.2.2.2.2.2.1,a.2.2.2.2.2.2.2.1,a.2.2.2.2.2.2.2.2))
 |.inr b=>some (b.1,b.2.1,b.2.2.1,b.2.2.2.1,b.2.2.2.2.1,b.2.2.2.2.2.1,b.2.2.2.2.2.2.1,b.2.2.2.2.2.2.2.1,b.2.2.2.2.2.2.2.2)):=by kernel_rfl
def abQ N g b c d e f i h:abP (N+1) (g,b,c,d,e,f,i,h)=aW (Cd N N (0,g,b,c,d,e,f,i,h)) λa=>
 some (a.1,a.2.1,a.2.2.1,a.2.2.2.1,a.2.2.2.2.1,a.2.2.2.2.2.1,a.2.2.2.2.2.2.1,a.2.2.2.2.2.2.2.1,a.2.2.2.2.2.2.2.2):=by kernel_rfl
def nI:List CO:=[ai_,alT,ahC,alU]
def Ua:PS:=⟨[(8,.k (.pt 900 0)),(13,.k (.pt 901 0)),(31,.h cy),(32,.h j1),(33,.h j1)],[(900,.box 94 [.k .nil,.h j1,.k .nil,.k .nil,.h .b,.h j1,.h j1]),(901,.box 250 [.h fw,.h j1,.h j3,.h cj,.h .b,.h j1,.h j1,.k (.ow 902)]),(902,.arr 254 qj true)],[cy,j1,j1,j1,.b,j1,j1,fw,j1,j3,cj,.b,j1,j1,c5]⟩
def Ub:List (Exit×PS):=[((.exit 0),⟨[(8,.k (.pt 900 0)),(13,.k (.pt 901 0))],[(900,.box 94 [.k .nil,.h j1,.k .nil,.k .nil,.h .b,.h j1,.h j1]),(901,.box 250 [.h fw,.h j1,.h j3,.h cj,.h .b,.h j1,.h j1,.k (.ow 902)]),(902,.arr 254 qj true)],[j1,.b,j1,j1,fw,j1,j3,cj,.b,j1,j1,c5]⟩),(.ret,⟨[(8,.k (.pt 900 0)),(9,.k (.ow 901)),(10,.h j1)],[(900,.box 94 [.h fw,.h j1,.h j3,.h cj,.h .b,.h j1,.h j1]),(901,.arr 254 qj true)],[j1,fw,j1,j3,cj,.b,j1,j1,c5]⟩)]
def Uc:Pl:=.z
def xA:Nat->Nat->A1×Int×Int×Int×Bool×Int×Int×mR×Int×bq×A3×Bool×Int×Int×fx->Option ((Int×Bool×Int×Int×mR×Int×bq×A3×Bool×Int×Int×fx)⊕A14):=gh nI Tryz.f80 [1,1,1,1,0,1,0,0] Ua Ub Uc
noncomputable def uD:FD:=⟨80,Tryz.f80,(.n .z (.n .z (.n .z (.n .z (.n (.n .z (.n (.loop Ua Ub Uc) .z)) .z))))),[.h j1,.h j1,.h j1,.h cy],[],[j1,j1,j1,cy],⟨[(8,.k (.pt 900 0)),(9,.k (.ow 901)),(10,.h j1)],[(900,.box 94 [.h fw,.h j1,.h j3,.h cj,.h .b,.h j1,.h j1]),(901,.arr 254 qj true)],[j1,fw,j1,j3,cj,.b,j1,j1,c5]⟩,true,false,[901]⟩
def MJ:Nat->Int×Int×Int×A1->Option A14:=mF nI uD
def alV:CO:=cF nI uD MJ Tryz.func80
def zL N m p q i j k l n g c d e b f h o:xA N (m+1) (p,q,i,j,k,l,n,g,c,d,e,b,f,h,o)=cond (i<q)
 (aW (ba p i) λr=>
 cond b
  (some (.inl (j,k,l,n,g,c,d,e,b,f,h,o)))
  (aW (MF N (r.1,r.2,g,c,d,e,b,f,h,o)) λa=>
  cond (!(a.1=0))
   (some (.inr (a.1,a.2.1,a.2.2.1,a.2.2.2.1,a.2.2.2.2.1,a.2.2.2.2.2.1,a.2.2.2.2.2.2.1,a.2.2.2.2.2.2.2.1,a.2.2.2.2.2.2.2.2)))
   ((xA N m (p,q,(wrap .i64 (i+1)),j,k,l,n,a.2.1,a.2.2.1,a.2.2.2.1,a.2.2.2.2.1,a.2.2.2.2.2.1,a.2.2.2.2.2.2.1,a.2.2.2.2.2.2.2.1,a.2.2.2.2.2.2.2.2)))))
 (some (.inl (j,k,l,n,g,c,d,e,b,f,h,o))):=by kernel_rfl
def abR N n f g e:MJ (N+1) (n,f,g,e)=aW (I7 N (n,f,g)) λa=>
 cond (!(a.1=0))
  (some (a.1,[],0,[],[],false,0,0,[]))
  (aW (xA N N (e,(List.length e:Int),0,0,false,0,0,a.2.1,a.2.2.1,a.2.2.2.1,a.2.2.2.2.1,a.2.2.2.2.2.1,a.2.2.2.2.2.2.1,a.2.2.2.2.2.2.2,[])) λh=>
  (match h with
  |.inl d=>aW (abP N (d.2.2.2.2.1,d.2.2.2.2.2.1,d.2.2.2.2.2.2.1,d.2.2.2.2.2.2.2.1,d.2.2.2.2.2.2.2.2.1,d.2.2.2.2.2.2.2.2.2.1,d.2.2.2.2.2.2.2.2.2.2.1,d.2.2.2.2.2.2.2.2.2.2.2)) λb=>
   some (b.1,b.2.1,b.2.2.1,b.2.2.2.1,b.2.2.2.2.1,b.2.2.2.2.2.1,b.2.2.2.2.2.2.1,b.2.2.2.2.2.2.2.1,b.2.2.2.2.2.2.2.2)
  |.inr c=>some (c.1,c.2.1,c.2.2.1,c.2.2.2.1,c.2.2.2.2.1,c.2.2.2.2.2.1,c.2.2.2.2.2.2.1,c.2.2.2.2.2.2.2.1,c.2.2.2.2.2.2.2.2))):=by kernel_rfl
def mb:List CO:=[]
def Ud:PS:=⟨[(2,.k (.pt 900 0)),(5,.k (.ow 901)),(9,.h c5),(10,.h j1),(11,.h j1)],[(900,.box 94 [.h fw,.h j1,.h j3,.h cj,.h .b,.h j1,.h j1]),(901,.arr 189 j5 true)],[c5,j1,j1,fw,j1,j3,cj,.b,j1,j1,cy]⟩
def Ue:List (Exit×PS):=[((.exit 0),⟨[(5,.k (.ow 900))],[(900,.arr 189 j5 true)],[cy]⟩)]
def Uf:Pl:=.z
def pA:Nat->Nat->fx×Int×Int×mR×Int×bq×A3×Bool×Int×Int×A1->Option (A1):=gh mb Tryz.f81 [1,1,0,1,0,0] Ud Ue Uf
noncomputable def rV:FD:=⟨81,Tryz.f81,(.n .z (.n .z (.n (.n .z (.n (.loop Ud Ue Uf) .z)) .z))),[.ag [.h fw,.h j1,.h j3,.h cj,.h .b,.h j1,.h j1],.h c5],[],[fw,j1,j3,cj,.b,j1,j1,c5],⟨[(4,.k (.ow 900))],[(900,.arr 189 j5 true)],[cy]⟩,true,true,[900]⟩
def Ug:Nat->mR×Int×bq×A3×Bool×Int×Int×fx->Option (A1):=mF mb rV
def alW:CO:=cF mb rV Ug Tryz.func81
def GY N m e d a c f g h i j k b:pA N (m+1) (e,d,a,c,f,g,h,i,j,k,b)=cond (a<d)
 (aW (ba e a) λl=>
 cond l.2.2.2
  ((pA N m (e,d,(wrap .i64 (a+1)),c,f,g,h,i,j,k,b)))
  (cond (l.2.2.1<0)
   ((pA N m (e,d,(wrap .i64 (a+1)),c,f,g,h,i,j,k,b)))
   (cond ((List.length c:Int)<=l.2.2.1)
    ((pA N m (e,d,(wrap .i64 (a+1)),c,f,g,h,i,j,k,b)))
    (aW (ba c l.2.2.1) λn=>
    aW (eN 16 b [(n.1,n.2.1)]) λo=>
    (pA N m (e,d,(wrap .i64 (a+1)),c,f,g,h,i,j,k,o))))))
 (some b):=by kernel_rfl
def abS N c a b d e f g l:Ug (N+1) (c,a,b,d,e,f,g,l)=aW (pA N N (l,(List.length l:Int),0,c,a,b,d,e,f,g,[])) λh=>
 some h:=by kernel_rfl
def lK:List CO:=[ai8,alV,alW]
def MK:PS:=⟨[(8,.k (.ow 900)),(10,.k (.ow 903)),(12,.k (.pt 901 0)),(44,.k (.ow 902)),(45,.h j1),(46,.h j1),(54,.h j1),(55,.h j1)],[(900,.arr 254 qj true),(903,.arr 3 j1 true),(901,.box 189 [.h j1,.h j1]),(902,.arr 189 j5 true)],[j1,j1,j1,j1,c5,j6,j1,j1,cy]⟩
def ML:List (Exit×PS):=[((.exit 2),⟨[(8,.k (.ow 900)),(10,.k (.ow 901)),(44,.k (.ow 902)),(45,.h j1),(46,.h j1)],[(900,.arr 254 qj true),(901,.arr 3 j1 true),(902,.arr 189 j5 true)],[j1,j1,c5,j6,cy]⟩)]
def MM:Pl:=.z
def xB:Nat->Nat->Int×Int×Int×Int×fx×aX×Int×Int×A1->Option (Int×Int×fx×aX×A1):=gh lK Tryz.f30 [1,1,1,1,1,1,0,1,0,0,1,1,0,0,1,1,0,0] MK ML MM
def MN:PS:=⟨[(8,.k (.ow 900)),(10,.k (.ow 902)),(44,.k (.ow 901)),(45,.h j1),(46,.h j1)],[(900,.arr 254 qj true),(902,.arr 3 j1 true),(901,.arr 189 j5 true)],[j1,j1,c5,j6,cy]⟩
def MO:List (Exit×PS):=[((.exit 0),⟨[(8,.k (.ow 900)),(10,.k (.ow 901))],[(900,.arr 254 qj true),(901,.arr 3 j1 true)],[c5,j6]⟩)]
def MP:Pl:=(.n .z (.n .z (.n (.n (.n .z (.n .z (.n (.loop MK ML MM) .z))) .z) .z)))
def xC:Nat->Nat->Int×Int×fx×aX×A1->Option (fx×aX):=gh lK Tryz.f30 [1,1,1,1,1,1,0,1,0,0] MN MO MP
noncomputable def xD:FD:=⟨30,Tryz.f30,(.n .z (.n .z (.n .z (.n .z (.n .z (.n .z (.n (.n .z (.n (.loop MN MO MP) .z)) .z))))))),[.h j1,.ag [.h j1,.h j1,.h cy]],[],[j1,j1,j1,cy],⟨[(4,.k (.ow 900)),(5,.h j1),(6,.h j1)],[(900,.arr 3 j1 true)],[j1,j1,j6]⟩,true,true,[900]⟩
def kj:Nat->Int×Int×Int×A1->Option A7:=mF lK xD
def Qz:CO:=cF lK xD kj Tryz.func30
def D2 N m c d e v55 l a s f b:xB N (m+1) (c,d,e,v55,l,a,s,f,b)=cond (v55<e)
 (aW (eN 8 a [(wrap .i64 (s+v55))]) λg=>
 (xB N m (c,d,e,(wrap .i64 (v55+1)),l,g,s,f,b)))
 (some (c,d,l,a,b)):=by kernel_rfl
def D3 N m f a l e c:xC N (m+1) (f,a,l,e,c)=cond (a<f)
 (aW (ba c a) λg=>
 aW (ba c a) λd=>
 aW (xB N N (f,a,(wrap .i64 (d.2 - d.1)),0,l,e,d.1,d.2,c)) λb=>
 (xC N m (b.1,(wrap .i64 (b.2.1+1)),b.2.2.1,b.2.2.2.1,b.2.2.2.2)))
 (some (l,e)):=by kernel_rfl
def GZ N n p p2 p3:kj (N+1) (n,p,p2,p3)=cond (n<0)
 (some (0,1,[]))
 (cond (1000<n)
  (some (0,1,[]))
  (aW (I5 N (p,p2,p3)) λd=>
  cond (!d)
   (some (0,1,[]))
   (cond (n=0)
    (some (0,0,[]))
    (aW (MJ N (n,p,p2,p3)) λa=>
    cond (!(a.1=0))
     (some (0,a.1,[]))
     (aW (Ug N (a.2.1,a.2.2.1,a.2.2.2.1,a.2.2.2.2.1,a.2.2.2.2.2.1,a.2.2.2.2.2.2.1,a.2.2.2.2.2.2.2.1,a.2.2.2.2.2.2.2.2)) λb=>
     aW (xC N N ((List.length b:Int),0,a.2.2.2.2.2.2.2.2,[],b)) λc=>
     some ((List.length c.1:Int),0,c.2)))))):=by kernel_rfl
def AX:List CO:=[]
noncomputable def AY:FD:=⟨282,Tryz.f282,.z,[.h j8,.h j1,.h j1],[],[j8,j1,j1],⟨[(6,.h j8)],[],[j8]⟩,false,false,[]⟩
def D4:Nat->aX×Int×Int->mC:=mF AX AY
def ajf:CO:=cF AX AY D4 Tryz.func282
def XR N l i a:D4 (N+1) (l,i,a)=aW (jm l (wrap .i64 (i*a)) (if((wrap .i64 ((wrap .i64 (i+1))*a))<(List.length l:Int))then(wrap .i64 ((wrap .i64 (i+1))*a))else(List.length l:Int))) λb=>
 some b:=by kernel_rfl
def uE:List CO:=[]
noncomputable def uF:FD:=⟨264,Tryz.f264,.z,[.h j2,.h j2],[],[j2,j2],⟨[(4,.h j2)],[],[j2]⟩,false,true,[]⟩
def Jc:Nat->Int×Int->eR:=mF uE uF
def abT:CO:=cF uE uF Jc Tryz.func264
def G1 N a b:Jc (N+1) (a,b)=some (wrap .u32 (a+b)):=by kernel_rfl
def fS:List CO:=[abT]
def Uh:PS:=⟨[(1,.k (.v (.func (.func 264) #[] #[]))),(6,.k (.ow 900)),(7,.h j2),(13,.h j8),(14,.h j1),(15,.h j1)],[(900,.arr 66 j2 true)],[j2,j8,j1,j1,j8]⟩
def Ui:List (Exit×PS):=[((.exit 0),⟨[(6,.k (.ow 900)),(7,.h j2)],[(900,.arr 66 j2 true)],[j2,j8]⟩)]
def Uj:Pl:=.z
def Ce:Nat->Nat->Int×aX×Int×Int×aX->Option A6:=gh fS Tryz.f281 [1,1,1,0,1,0,0] Uh Ui Uj
noncomputable def iR:FD:=⟨281,Tryz.f281,(.n .z (.n .z (.n .z (.n (.n .z (.n (.loop Uh Ui Uj) .z)) .z)))),[.h j8,.k (.v (.func (.func 264) #[] #[]))],[],[j8],⟨[(4,.k (.ow 900)),(5,.h j2)],[(900,.arr 66 j2 true)],[j2,j8]⟩,true,true,[900]⟩
def G2:Nat->aX->Option A6:=mF fS iR
def alX:CO:=cF fS iR G2 Tryz.func281
def G3 N m all c d a b:Ce N (m+1) (all,c,d,a,b)=cond (a<d)
 (aW (ba c a) λe=>
 aW (ba b a) λg=>
 aW (ba b a) λh=>
 aW (Jc N (all,e)) λf=>
 (Ce N m (f,c,d,(wrap .i64 (a+1)),(List.set b (Int.toNat a) all))))
 (some (all,b)):=by kernel_rfl
def abU N l:G2 (N+1) l=aW (qM (List.length l:Int) (4:Nat)) λb=>
 aW (Ce N N ((0:Int),l,(List.length l:Int),(0:Int),(List.replicate b (0:Int)))) λa=>
 some (a.1,a.2):=by kernel_rfl
def dV:List CO:=[abB,ai7,Qz,ajf,alX,abT]
def Uk:PS:=⟨[(0,.h j8),(1,.h j1),(3,.k (.v (.func (.func 264) #[] #[]))),(8,.k (.ow 900)),(9,.h j2),(10,.h j1),(17,.k (.ow 901)),(19,.h j1),(76,.k (.ow 902)),(77,.h j1),(78,.h j1),(91,.k (.ow 903)),(92,.h j1),(93,.h j1)],[(900,.arr 66 j2 true),(901,.arr 66 j2 true),(902,.arr 3 j1 true),(903,.arr 66 j2 true)],[j8,j1,j2,j1,j1,j1,j1,j1,j1,j8,j8,j6,j8]⟩
def Ul:List (Exit×PS):=[((.exit 4),⟨[(0,.h j8),(1,.h j1),(3,.k (.v (.func (.func 264) #[] #[]))),(8,.k (.ow 900)),(9,.h j2),(10,.h j1),(17,.k (.ow 901)),(76,.k (.ow 902)),(77,.h j1),(78,.h j1)],[(900,.arr 66 j2 true),(901,.arr 66 j2 true),(902,.arr 3 j1 true)],[j8,j1,j2,j1,j1,j1,j8,j8,j6]⟩)]
def Um:Pl:=.z
def xE:Nat->Nat->aX×Int×Int×Int×Int×Int×Int×Int×Int×aX×aX×aX×aX->Option (aX×Int×Int×Int×Int×Int×aX×aX×aX):=gh dV Tryz.f263 [1,1,1,1,1,1,1,1,1,0,1,0,0,1,1,0,0,1,1,1,0,0] Uk Ul Um
def Un:PS:=⟨[(0,.h j8),(1,.h j1),(3,.k (.v (.func (.func 264) #[] #[]))),(8,.k (.ow 900)),(9,.h j2),(10,.h j1),(17,.k (.ow 901)),(76,.k (.ow 902)),(77,.h j1),(78,.h j1)],[(900,.arr 66 j2 true),(901,.arr 66 j2 true),(902,.arr 3 j1 true)],[j8,j1,j2,j1,j1,j1,j8,j8,j6]⟩
def Uo:List (Exit×PS):=[((.exit 2),⟨[(8,.k (.ow 900)),(9,.h j2),(10,.h j1)],[(900,.arr 66 j2 true)],[j2,j1,j8]⟩)]
def Up:Pl:=(.n .z (.n .z (.n (.n (.n .z (.n .z (.n .z (.n (.loop Uk Ul Um) .z)))) .z) .z)))
def Cf:Nat->Nat->aX×Int×Int×Int×Int×Int×aX×aX×aX->Option A7:=gh dV Tryz.f263 [1,1,1,1,1,1,1,1,1,0,1,0,0] Un Uo Up
def Uq:PS:=⟨[(0,.h j8),(1,.h j1),(3,.k (.v (.func (.func 264) #[] #[]))),(10,.h j1),(13,.k (.ow 900)),(14,.k (.ow 901)),(48,.k (.ow 900)),(49,.h j1),(50,.h j1)],[(900,.arr 3 j1 true),(901,.arr 66 j2 true)],[j8,j1,j1,j1,j1,j6,j8]⟩
def Ur:List (Exit×PS):=[((.exit 0),⟨[(0,.h j8),(1,.h j1),(3,.k (.v (.func (.func 264) #[] #[]))),(10,.h j1),(13,.k (.ow 900)),(14,.k (.ow 901))],[(900,.arr 3 j1 true),(901,.arr 66 j2 true)],[j8,j1,j1,j6,j8]⟩)]
def Us:Pl:=.z
def Cg:Nat->Nat->aX×Int×Int×Int×Int×aX×aX->Option (aX×Int×Int×aX×aX):=gh dV Tryz.f263 [1,1,1,1,1,1,0,1,0,0] Uq Ur Us
noncomputable def iB:FD:=⟨263,Tryz.f263,(.n .z (.n .z (.n .z (.n .z (.n .z (.n .z (.n (.n .z (.n (.loop Uq Ur Us) .z)) (.n .z (.n .z (.n (.n .z (.n (.loop Un Uo Up) .z)) .z)))))))))),[.h j8,.h j1,.ag [.h j1,.h j1,.h cy],.k (.v (.func (.func 264) #[] #[]))],[],[j8,j1,j1,j1,cy],⟨[(8,.k (.ow 900)),(9,.h j2),(10,.h j1),(11,.h j1)],[(900,.arr 66 j2 true)],[j2,j1,j1,j8]⟩,true,true,[900]⟩
def abV:Nat->aX×Int×Int×Int×A1->Option (Int×Int×Int×aX):=mF dV iB
def alY:CO:=cF dV iB abV Tryz.func263
def G4 N m l a all e i g h j v93 c b f d:xE N (m+1) (l,a,all,e,i,g,h,j,v93,c,b,f,d)=cond (v93<j)
 (aW (ba d v93) λp=>
 aW (ba d v93) λk=>
 aW (ba b i) λq=>
 aW (ba b i) λn=>
 aW (Jc N (n,k)) λo=>
 aW (ba c (wrap .i64 ((wrap .i64 (i*a))+v93))) λr=>
 aW (ba c (wrap .i64 ((wrap .i64 (i*a))+v93))) λs=>
 (xE N m (l,a,all,e,i,g,h,j,(wrap .i64 (v93+1)),(List.set c (Int.toNat (wrap .i64 ((wrap .i64 (i*a))+v93))) o),b,f,d)))
 (some (l,a,all,e,g,h,c,b,f)):=by kernel_rfl
def G5 N m l d all f g b e h c:Cf N (m+1) (l,d,all,f,g,b,e,h,c)=cond (b<g)
 (aW (ba c b) λn=>
 aW (ba c b) λi=>
 aW (D4 N (l,i,d)) λk=>
 aW (G2 N k) λj=>
 aW (xE N N (l,d,all,f,i,g,b,(List.length j.2:Int),0,e,h,c,j.2)) λa=>
 (Cf N m (a.1,a.2.1,a.2.2.1,a.2.2.2.1,a.2.2.2.2.1,(wrap .i64 (a.2.2.2.2.2.1+1)),a.2.2.2.2.2.2.1,a.2.2.2.2.2.2.2.1,a.2.2.2.2.2.2.2.2)))
 (some (all,f,e)):=by kernel_rfl
def G6 N m l d f g c b a:Cg N (m+1) (l,d,f,g,c,b,a)=cond (c<g)
 (aW (ba b c) λj=>
 aW (ba b c) λe=>
 aW (D4 N (l,e,d)) λh=>
 aW (G2 N h) λi=>
 aW (ba a e) λk=>
 aW (ba a e) λn=>
 (Cg N m (l,d,f,g,(wrap .i64 (c+1)),b,(List.set a (Int.toNat e) i.1))))
 (some (l,d,f,b,a)):=by kernel_rfl
def abW N l c p p2 p3:abV (N+1) (l,c,p,p2,p3)=aW (I3 N c) λg=>
 cond (!g)
  (some ((0:Int),(0:Int),(1:Int),[]))
  (cond ((1000:Int)<(List.length l:Int))
   (some ((0:Int),(0:Int),(1:Int),[]))
   (aW (I4 N ((List.length l:Int),c)) λe=>
   aW (kj N (e,p,p2,p3)) λb=>
   cond (!(b.2.1=(0:Int)))
    (some ((0:Int),(0:Int),b.2.1,[]))
    (aW (qM e (4:Nat)) λh=>
    aW (Cg N N (l,c,b.1,(List.length b.2.2:Int),(0:Int),b.2.2,(List.replicate h (0:Int)))) λa=>
    aW (G2 N a.2.2.2.2) λf=>
    aW (qM (List.length a.1:Int) (4:Nat)) λi=>
    aW (Cf N N (a.1,a.2.1,f.1,a.2.2.1,(List.length a.2.2.2.1:Int),(0:Int),(List.replicate i (0:Int)),f.2,a.2.2.2.1)) λd=>
    some (d.1,(wrap .i64 ((2:Int)*d.2.1)),(0:Int),d.2.2)))):=by kernel_rfl
def AZ:List CO:=[alY]
noncomputable def A0:FD:=⟨227,Tryz.f227,.z,[.h j8,.h j1,.ag [.h j1,.h j1,.h cy]],[],[j8,j1,j1,j1,cy],⟨[(6,.k (.ow 900)),(7,.h j2),(8,.h j1),(9,.h j1)],[(900,.arr 66 j2 true)],[j2,j1,j1,j8]⟩,true,true,[900]⟩
def D5:Nat->aX×Int×Int×Int×A1->Option (Int×Int×Int×aX):=mF AZ A0
def abX:CO:=cF AZ A0 D5 Tryz.func227
def XS N l b p p2 p3:D5 (N+1) (l,b,p,p2,p3)=aW (abV N (l,b,p,p2,p3)) λa=>
 some (a.1,a.2.1,a.2.2.1,a.2.2.2):=by kernel_rfl
def uG:List CO:=[ahz]
noncomputable def uH:FD:=⟨283,Tryz.f283,.z,[.h j1,.h j1],[],[j1,j1],⟨[(4,.h .b)],[],[.b]⟩,false,true,[]⟩
def abY:Nat->Int×Int->eA:=mF uG uH
def alZ:CO:=cF uG uH abY Tryz.func283
def abZ N a bits:abY (N+1) (a,bits)=cond (0<=a)
 (aW (Ml N bits) λb=>
 some (decide (a<b)))
 (some false):=by kernel_rfl
def uI:List CO:=[alZ]
noncomputable def uJ:FD:=⟨265,Tryz.f265,.z,[.h j2,.h j1,.h j1],[],[j2,j1,j1],⟨[(6,.h j2)],[],[j2]⟩,false,true,[]⟩
def MQ:Nat->Int×Int×Int->eR:=mF uI uJ
def al0:CO:=cF uI uJ MQ Tryz.func265
def ab0 N b a bits:MQ (N+1) (b,a,bits)=aW (abY N (a,bits)) λc=>
 cond (!c)
  (some 0)
  (aW (Zp .u32 b (wrap .u64 (wrap .i64 (a*bits)))) λd=>
  aW (PE .u32 1 (wrap .u64 bits)) λe=>
  some (Ij .and .u32 d (wrap .u32 (e - 1)))):=by kernel_rfl
def mc:List CO:=[al0]
def MS:PS:=⟨[(0,.h j8),(2,.h j1),(3,.h j1),(9,.k (.ow 900)),(13,.k (.ow 901)),(63,.h j6),(64,.h j1),(65,.h j1)],[(900,.arr 3 j1 true),(901,.arr 3 j1 true)],[j8,j1,j1,j6,j1,j1,j6,j6]⟩
def MT:List (Exit×PS):=[((.exit 4),⟨[(13,.k (.ow 900))],[(900,.arr 3 j1 true)],[j6]⟩)]
def MU:Pl:=.z
def xF:Nat->Nat->aX×Int×Int×aX×Int×Int×aX×aX->mC:=gh mc Tryz.f228 [1,1,1,1,1,0,1,0,0] MS MT MU
def MV:PS:=⟨[(0,.h j8),(1,.h j6),(2,.h j1),(3,.h j1),(9,.k (.ow 900)),(44,.h j1),(45,.h j1)],[(900,.arr 3 j1 true)],[j8,j6,j1,j1,j1,j1,j6]⟩
def MW:List (Exit×PS):=[((.exit 2),⟨[(0,.h j8),(1,.h j6),(2,.h j1),(3,.h j1),(9,.k (.ow 900))],[(900,.arr 3 j1 true)],[j8,j6,j1,j1,j6]⟩)]
def MX:Pl:=.z
def xG:Nat->Nat->aX×aX×Int×Int×Int×Int×aX->Option (aX×aX×Int×Int×aX):=gh mc Tryz.f228 [1,1,1,0,1,0,0] MV MW MX
def MY:PS:=⟨[(0,.h j8),(1,.h j6),(2,.h j1),(3,.h j1),(9,.k (.ow 900)),(22,.h j6),(23,.h j1),(24,.h j1)],[(900,.arr 3 j1 true)],[j8,j6,j1,j1,j6,j1,j1,j6]⟩
def MZ:List (Exit×PS):=[((.exit 0),⟨[(0,.h j8),(1,.h j6),(2,.h j1),(3,.h j1),(9,.k (.ow 900))],[(900,.arr 3 j1 true)],[j8,j6,j1,j1,j6]⟩)]
def M0:Pl:=.z
def xH:Nat->Nat->aX×aX×Int×Int×aX×Int×Int×aX->Option (aX×aX×Int×Int×aX):=gh mc Tryz.f228 [1,1,0,1,0,0] MY MZ M0
noncomputable def D6:FD:=⟨228,Tryz.f228,(.n .z (.n .z (.n (.n .z (.n (.loop MY MZ M0) .z)) (.n (.n .z (.n (.loop MV MW MX) .z)) (.n .z (.n (.n .z (.n (.loop MS MT MU) .z)) .z)))))),[.h j8,.h j6,.h j1,.h j1],[],[j8,j6,j1,j1],⟨[(8,.k (.ow 900))],[(900,.arr 3 j1 true)],[j6]⟩,true,true,[900]⟩
def Jd:Nat->aX×aX×Int×Int->mC:=mF mc D6
def ajg:CO:=cF mc D6 Jd Tryz.func228
def D7 N m e f bits g h d a c:xF N (m+1) (e,f,bits,g,h,d,a,c)=cond (d<h)
 (aW (ba g d) λj=>
 aW (ba e j) λk=>
 aW (MQ N (k,f,bits)) λb=>
 aW (ba a b) λp=>
 aW (ba a b) λi=>
 aW (ba c i) λq=>
 aW (ba c i) λr=>
 aW (ba a b) λs=>
 aW (ba a b) λl=>
 aW (ba a b) λn=>
 aW (ba a b) λo=>
 (xF N m (e,f,bits,g,h,(wrap .i64 (d+1)),(List.set a (Int.toNat b) (wrap .i64 (l+1))),(List.set c (Int.toNat i) j))))
 (some c):=by kernel_rfl
def D8 N m c d e bits f a b:xG N (m+1) (c,d,e,bits,f,a,b)=cond (a<f)
 (aW (ba b (wrap .i64 (a+1))) λh=>
 aW (ba b (wrap .i64 (a+1))) λg=>
 aW (ba b a) λi=>
 aW (ba b a) λz4=>
 aW (ba b (wrap .i64 (a+1))) λj=>
 aW (ba b (wrap .i64 (a+1))) λk=>
 (xG N m (c,d,e,bits,f,(wrap .i64 (a+1)),(List.set b (Int.toNat (wrap .i64 (a+1))) (wrap .i64 (g+z4))))))
 (some (c,d,e,bits,b)):=by kernel_rfl
def D9 N m c f d bits g h e a:xH N (m+1) (c,f,d,bits,g,h,e,a)=cond (e<h)
 (aW (ba g e) λi=>
 aW (ba c i) λj=>
 aW (MQ N (j,d,bits)) λb=>
 aW (ba a (wrap .u32 (b+1))) λl=>
 aW (ba a (wrap .u32 (b+1))) λk=>
 aW (ba a (wrap .u32 (b+1))) λn=>
 aW (ba a (wrap .u32 (b+1))) λo=>
 (xH N m (c,f,d,bits,g,h,(wrap .i64 (e+1)),(List.set a (Int.toNat (wrap .u32 (b+1))) (wrap .i64 (k+1))))))
 (some (c,f,d,bits,a)):=by kernel_rfl
def XT N d c e bits:Jd (N+1) (d,c,e,bits)=aW (PE .i64 (1:Int) (wrap .u64 bits)) λf=>
 aW (qM (wrap .i64 (f+(1:Int))) (8:Nat)) λg=>
 aW (xH N N (d,c,e,bits,c,(List.length c:Int),(0:Int),(List.replicate g (0:Int)))) λb=>
 aW (xG N N (b.1,b.2.1,b.2.2.1,b.2.2.2.1,(wrap .i64 ((List.length b.2.2.2.2:Int) - (1:Int))),(0:Int),b.2.2.2.2)) λa=>
 aW (qM (List.length a.2.1:Int) (8:Nat)) λh=>
 aW (xF N N (a.1,a.2.2.1,a.2.2.2.1,a.2.1,(List.length a.2.1:Int),(0:Int),a.2.2.2.2,(List.replicate h (0:Int)))) λi=>
 some i:=by kernel_rfl
def lL:List CO:=[ahz,abX,ajg]
def M1:PS:=⟨[(0,.h j8),(1,.h j1),(11,.h j1),(14,.h j1),(16,.k (.ow 900)),(45,.h j1),(46,.h j1)],[(900,.arr 3 j1 true)],[j8,j1,j1,j1,j1,j1,j6]⟩
def M3:List (Exit×PS):=[((.exit 2),⟨[(11,.h j1),(14,.h j1),(16,.k (.ow 900))],[(900,.arr 3 j1 true)],[j1,j1,j6]⟩)]
def M4:Pl:=.z
def xI:Nat->Nat->aX×Int×Int×Int×Int×Int×aX->Option A7:=gh lL Tryz.f181 [1,1,1,1,1,1,1,0,1,0,0] M1 M3 M4
def M5:PS:=⟨[(0,.h j8),(1,.h j1),(11,.h j1),(14,.h j1),(16,.k (.ow 900)),(36,.h j1),(37,.h j1)],[(900,.arr 3 j1 true)],[j8,j1,j1,j1,j1,j1,j6]⟩
def M6:List (Exit×PS):=[((.exit 0),⟨[(0,.h j8),(1,.h j1),(11,.h j1),(14,.h j1),(16,.k (.ow 900))],[(900,.arr 3 j1 true)],[j8,j1,j1,j1,j6]⟩)]
def M7:Pl:=.z
def xJ:Nat->Nat->aX×Int×Int×Int×Int×Int×aX->Option (aX×Int×Int×Int×aX):=gh lL Tryz.f181 [1,1,1,1,1,1,0,1,0,0] M5 M6 M7
noncomputable def xK:FD:=⟨181,Tryz.f181,(.n .z (.n .z (.n .z (.n .z (.n .z (.n .z (.n (.n .z (.n (.loop M5 M6 M7) .z)) (.n (.n .z (.n (.loop M1 M3 M4) .z)) .z)))))))),[.h j8,.h j1,.h j1,.ag [.h j1,.h j1,.h cy]],[],[j8,j1,j1,j1,j1,cy],⟨[(8,.k (.ow 900)),(9,.h j1),(10,.h j1)],[(900,.arr 3 j1 true)],[j1,j1,j6]⟩,true,true,[900]⟩
def Je:Nat->aX×Int×Int×Int×Int×A1->Option A7:=mF lL xK
def ajh:CO:=cF lL xK Je Tryz.func181
def D_ N m b bits d e f a c:xI N (m+1) (b,bits,d,e,f,a,c)=cond (a<f)
 (aW (Jd N (b,c,a,bits)) λg=>
 (xI N m (b,bits,d,e,f,(wrap .i64 (a+1)),g)))
 (some (d,e,c)):=by kernel_rfl
def Ea N m b bits d e f a c:xJ N (m+1) (b,bits,d,e,f,a,c)=cond (a<f)
 (aW (eN 8 c [a]) λg=>
 (xJ N m (b,bits,d,e,f,(wrap .i64 (a+1)),g)))
 (some (b,bits,d,e,c)):=by kernel_rfl
def XU N b bits e p p2 p3:Je (N+1) (b,bits,e,p,p2,p3)=aW (Ml N bits) λf=>
 cond (f=0)
  (some (0,1,[]))
  (aW (D5 N (b,e,p,p2,p3)) λc=>
  cond (!(c.2.2.1=0))
   (some (0,c.2.2.1,[]))
   (aW (xJ N N (b,bits,f,c.2.1,(List.length b:Int),0,[])) λa=>
   aW (xI N N (a.1,a.2.1,a.2.2.1,a.2.2.2.1,a.2.2.1,0,a.2.2.2.2)) λd=>
   some ((wrap .i64 (d.2.1*d.1)),0,d.2.2))):=by kernel_rfl
def pB:List CO:=[]
def M8:PS:=⟨[(0,.h j6),(1,.h j1),(5,.k (.mp 900)),(9,.h j6),(10,.h j1),(11,.h j1)],[(900,.mp (.int .i64) j1 j1)],[j6,j1,j6,j1,j1,cy]⟩
def M9:List (Exit×PS):=[((.exit 0),⟨[(0,.h j6),(1,.h j1)],[],[j6,j1]⟩),(.ret,⟨[(4,.h .b)],[],[.b]⟩)]
def M_:Pl:=.z
def xL:Nat->Nat->aX×Int×aX×Int×Int×A1->Option ((aX×Int)⊕(Bool)):=gh pB Tryz.f229 [1,1,0,1,0,0] M8 M9 M_
noncomputable def xM:FD:=⟨229,Tryz.f229,(.n .z (.n .z (.n (.n .z (.n (.loop M8 M9 M_) .z)) .z))),[.h j6,.h j1],[],[j6,j1],⟨[(4,.h .b)],[],[.b]⟩,false,true,[]⟩
def Jf:Nat->aX×Int->eA:=mF pB xM
def aji:CO:=cF pB xM Jf Tryz.func229
def Eb N m d n f e c b:xL N (m+1) (d,n,f,e,c,b)=cond (c<e)
 (aW (ba f c) λa=>
 cond (a<0)
  (some (.inr false))
  (cond (n<=a)
   (some (.inr false))
   (cond (1<(Option.getD (bJ j1 (dS j1 b a (wrap .i64 ((Option.getD (bJ j1 b a) 0)+1))) a) 0))
    (some (.inr false))
    ((xL N m (d,n,f,e,(wrap .i64 (c+1)),(dS j1 b a (wrap .i64 ((Option.getD (bJ j1 b a) 0)+1)))))))))
 (some (.inl (d,n))):=by kernel_rfl
def XW N a n:Jf (N+1) (a,n)=aW (xL N N (a,n,a,(List.length a:Int),0,[])) λc=>
 (match c with
 |.inl b=>some (decide ((List.length b.1:Int)=b.2))
 |.inr d=>some d):=by kernel_rfl
def me:List CO:=[aji]
def Ut:PS:=⟨[(0,.h j8),(6,.k (.ow 900)),(14,.h j6),(15,.h j1),(16,.h j1)],[(900,.arr 66 j2 true)],[j8,j6,j1,j1,j8]⟩
def Uu:List (Exit×PS):=[((.exit 0),⟨[(6,.k (.ow 900))],[(900,.arr 66 j2 true)],[j8]⟩)]
def Uv:Pl:=.z
def Ch:Nat->Nat->aX×aX×Int×Int×aX->mC:=gh me Tryz.f182 [1,1,1,0,1,0,0] Ut Uu Uv
noncomputable def rW:FD:=⟨182,Tryz.f182,(.n .z (.n .z (.n .z (.n (.n .z (.n (.loop Ut Uu Uv) .z)) .z)))),[.h j8,.h j6],[],[j8,j6],⟨[(4,.k (.ow 900)),(5,.h .b)],[(900,.arr 66 j2 true)],[.b,j8]⟩,true,true,[900]⟩
def Uw:Nat->aX×aX->Option A9:=mF me rW
def al1:CO:=cF me rW Uw Tryz.func182
def G7 N m b c d a l:Ch N (m+1) (b,c,d,a,l)=cond (a<d)
 (aW (ba c a) λe=>
 aW (ba b e) λf=>
 aW (eN 4 l [f]) λg=>
 (Ch N m (b,c,d,(wrap .i64 (a+1)),g)))
 (some l):=by kernel_rfl
def ab1 N b a:Uw (N+1) (b,a)=aW (Jf N (a,(List.length b:Int))) λc=>
 cond (!c)
  (some (false,[]))
  (aW (Ch N N (b,a,(List.length a:Int),0,[])) λd=>
  some (true,d)):=by kernel_rfl
def mf:List CO:=[]
def Ux:PS:=⟨[(0,.h j8),(3,.k (.ow 900)),(9,.h j8),(10,.h j1),(11,.h j1)],[(900,.arr 4 .b true)],[j8,j8,j1,j1,j3]⟩
def Uy:List (Exit×PS):=[((.exit 0),⟨[(3,.k (.ow 900))],[(900,.arr 4 .b true)],[j3]⟩)]
def Uz:Pl:=.z
def xN:Nat->Nat->aX×aX×Int×Int×bq->Option (bq):=gh mf Tryz.f184 [1,1,0,1,0,0] Ux Uy Uz
noncomputable def rX:FD:=⟨184,Tryz.f184,(.n .z (.n .z (.n (.n .z (.n (.loop Ux Uy Uz) .z)) .z))),[.h j8],[],[j8],⟨[(2,.k (.ow 900))],[(900,.arr 4 .b true)],[j3]⟩,true,true,[900]⟩
def UA:Nat->aX->Option (bq):=mF mf rX
def al2:CO:=cF mf rX UA Tryz.func184
def G8 N m b d c a l:xN N (m+1) (b,d,c,a,l)=cond (a<c)
 (aW (ba d a) λe=>
 cond (a=0)
  (aW (ba l a) λg=>
  aW (ba l a) λh=>
  (xN N m (b,d,c,(wrap .i64 (a+1)),(List.set l (Int.toNat a) true))))
  (aW (ba b (wrap .i64 (a - 1))) λf=>
  aW (ba l a) λi=>
  aW (ba l a) λj=>
  (xN N m (b,d,c,(wrap .i64 (a+1)),(List.set l (Int.toNat a) (!(f=e)))))))
 (some l):=by kernel_rfl
def ab2 N a:UA (N+1) a=aW (qM (List.length a:Int) (1:Nat)) λb=>
 aW (xN N N (a,a,(List.length a:Int),(0:Int),(List.replicate b false))) λc=>
 some c:=by kernel_rfl
def pF:List CO:=[]
def Na:PS:=⟨[(1,.h .b),(5,.k (.ow 900)),(11,.h j3),(12,.h j1),(13,.h j1)],[(900,.arr 66 j2 true)],[.b,j3,j1,j1,j8]⟩
def Nb:List (Exit×PS):=[((.exit 0),⟨[(5,.k (.ow 900))],[(900,.arr 66 j2 true)],[j8]⟩)]
def Nc:Pl:=.z
def rY:Nat->Nat->Bool×bq×Int×Int×aX->mC:=gh pF Tryz.f231 [1,1,0,1,0,0] Na Nb Nc
noncomputable def xP:FD:=⟨231,Tryz.f231,(.n .z (.n .z (.n (.n .z (.n (.loop Na Nb Nc) .z)) .z))),[.h j3,.h .b],[],[j3,.b],⟨[(4,.k (.ow 900))],[(900,.arr 66 j2 true)],[j8]⟩,true,true,[900]⟩
def Jg:Nat->bq×Bool->mC:=mF pF xP
def ajj:CO:=cF pF xP Jg Tryz.func231
def Ec N m b c d a l:rY N (m+1) (b,c,d,a,l)=cond (a<d)
 (aW (ba c a) λe=>
 cond (!(e==b))
  (aW (ba l a) λf=>
  aW (ba l a) λg=>
  (rY N m (b,c,d,(wrap .i64 (a+1)),(List.set l (Int.toNat a) 1))))
  ((rY N m (b,c,d,(wrap .i64 (a+1)),l))))
 (some l):=by kernel_rfl
def XX N a b:Jg (N+1) (a,b)=aW (qM (List.length a:Int) (4:Nat)) λc=>
 aW (rY N N (b,a,(List.length a:Int),(0:Int),(List.replicate c (0:Int)))) λd=>
 some d:=by kernel_rfl
def nJ:List CO:=[abX,Qz]
def UB:PS:=⟨[(0,.h j8),(9,.k (.ow 900)),(11,.h j1),(14,.h j1),(15,.k (.ow 901)),(43,.k (.ow 902)),(44,.h j1),(45,.h j1)],[(900,.arr 66 j2 true),(901,.arr 3 j1 true),(902,.arr 3 j1 true)],[j8,j1,j1,j1,j1,j8,j6,j6]⟩
def UC:List (Exit×PS):=[((.exit 0),⟨[(11,.h j1),(14,.h j1),(15,.k (.ow 900))],[(900,.arr 3 j1 true)],[j1,j1,j6]⟩)]
def UD:Pl:=.z
def xQ:Nat->Nat->aX×Int×Int×Int×Int×aX×aX×aX->Option A7:=gh nJ Tryz.f230 [1,1,1,1,1,1,0,1,0,0] UB UC UD
noncomputable def uK:FD:=⟨230,Tryz.f230,(.n .z (.n .z (.n .z (.n .z (.n .z (.n .z (.n (.n .z (.n (.loop UB UC UD) .z)) .z))))))),[.h j8,.h j1,.ag [.h j1,.h j1,.h cy]],[],[j8,j1,j1,j1,cy],⟨[(6,.k (.ow 900)),(7,.h j1),(8,.h j1)],[(900,.arr 3 j1 true)],[j1,j1,j6]⟩,true,true,[900]⟩
def ab3:Nat->aX×Int×Int×Int×A1->Option A7:=mF nJ uK
def al3:CO:=cF nJ uK ab3 Tryz.func230
def G9 N m d n e f a b l c:xQ N (m+1) (d,n,e,f,a,b,l,c)=cond (a<f)
 (aW (ba c a) λj=>
 aW (ba c a) λg=>
 aW (ba d g) λi=>
 cond (i=1)
  (aW (ba b g) λk=>
  aW (ba b g) λh=>
  aW (ba l h) λo=>
  aW (ba l h) λp=>
  (xQ N m (d,n,e,f,(wrap .i64 (a+1)),b,(List.set l (Int.toNat h) g),c)))
  ((xQ N m (d,n,e,f,(wrap .i64 (a+1)),b,l,c))))
 (some (n,e,l)):=by kernel_rfl
def ab4 N c d p p2 p3:ab3 (N+1) (c,d,p,p2,p3)=aW (D5 N (c,d,p,p2,p3)) λa=>
 cond (!(a.2.2.1=(0:Int)))
  (some ((0:Int),a.2.2.1,[]))
  (aW (kj N ((List.length c:Int),p,p2,p3)) λb=>
  cond (!(b.2.1=(0:Int)))
   (some ((0:Int),b.2.1,[]))
   (aW (qM a.1 (8:Nat)) λe=>
   aW (xQ N N (c,a.2.1,b.1,(List.length b.2.2:Int),(0:Int),a.2.2.2,(List.replicate e (0:Int)),b.2.2)) λz4=>
   some ((wrap .i64 (z4.1+z4.2.1)),(0:Int),z4.2.2))):=by kernel_rfl
def xR:List CO:=[ajj,al3]
noncomputable def xS:FD:=⟨183,Tryz.f183,.z,[.h j3,.h j1,.ag [.h j1,.h j1,.h cy]],[],[j3,j1,j1,j1,cy],⟨[(6,.k (.ow 900)),(7,.h j1),(8,.h j1)],[(900,.arr 3 j1 true)],[j1,j1,j6]⟩,true,true,[900]⟩
def Jh:Nat->bq×Int×Int×Int×A1->Option A7:=mF xR xS
def ajk:CO:=cF xR xS Jh Tryz.func183
def XY N c b p p2 p3:Jh (N+1) (c,b,p,p2,p3)=aW (Jg N (c,false)) λd=>
 aW (ab3 N (d,b,p,p2,p3)) λa=>
 some (a.1,a.2.1,a.2.2):=by kernel_rfl
def jI:List CO:=[ajh,al1,al2,ajk]
def UE:PS:=⟨[(9,.h j1),(11,.k (.ow 900)),(13,.k (.ow 901)),(14,.h j1),(15,.k (.ow 902)),(16,.k (.ow 903)),(17,.h j1),(18,.h j1),(19,.h j1),(55,.k (.ow 901)),(56,.h j1),(57,.h j1)],[(900,.arr 66 j2 true),(901,.arr 3 j1 true),(902,.arr 66 j2 true),(903,.arr 3 j1 true)],[j1,j1,j1,j1,j1,j1,j1,j8,j6,j8,j6]⟩
def UF:List (Exit×PS):=[(.normal,⟨[(9,.h j1),(11,.k (.ow 900)),(13,.k (.ow 901)),(14,.h j1),(15,.k (.ow 902)),(16,.k (.ow 903)),(18,.h j1),(19,.h j1),(55,.k (.ow 901)),(56,.h j1),(57,.h j1)],[(900,.arr 66 j2 true),(901,.arr 3 j1 true),(902,.arr 66 j2 true),(903,.arr 3 j1 true)],[j1,j1,j1,j1,j1,j1,j8,j6,j8,j6]⟩)]
def UG:Pl:=.z
def Ji:Nat->Nat->Int×Int×Int×Int×Int×Int×Int×aX×aX×aX×aX->Option (Int×Int×Int×Int×Int×Int×aX×aX×aX×aX):=jnF jI Tryz.f138 [1,1,1,1,1,1,1,1,0,1,0,0,1,1,0,0,1,1,0] UE UF UG
def UH:PS:=⟨[(9,.h j1),(11,.k (.ow 900)),(13,.k (.ow 901)),(14,.h j1),(15,.k (.ow 902)),(16,.k (.ow 903)),(55,.k (.ow 901)),(56,.h j1),(57,.h j1)],[(900,.arr 66 j2 true),(901,.arr 3 j1 true),(902,.arr 66 j2 true),(903,.arr 3 j1 true)],[j1,j1,j1,j1,j8,j6,j8,j6]⟩
def UI:List (Exit×PS):=[((.exit 0),⟨[(9,.h j1),(14,.h j1),(15,.k (.ow 900)),(16,.k (.ow 901))],[(900,.arr 66 j2 true),(901,.arr 3 j1 true)],[j1,j1,j8,j6]⟩)]
def UJ:Pl:=(.n .z (.n .z (.n (.n (.n .z (.n .z (.n (.join UE UF UG) .z))) .z) .z)))
def Ci:Nat->Nat->Int×Int×Int×Int×aX×aX×aX×aX->Option (Int×Int×aX×aX):=gh jI Tryz.f138 [1,1,1,1,1,1,1,1,0,1,0,0] UH UI UJ
noncomputable def rZ:FD:=⟨138,Tryz.f138,(.n .z (.n .z (.n .z (.n .z (.n .z (.n .z (.n .z (.n .z (.n (.n .z (.n (.loop UH UI UJ) .z)) .z))))))))),[.h j8,.ag [.h j1,.h j1,.h j1,.h j1,.h cy]],[],[j8,j1,j1,j1,j1,cy],⟨[(4,.k (.ow 900)),(5,.k (.ow 901)),(6,.h j1),(7,.h j1)],[(900,.arr 66 j2 true),(901,.arr 3 j1 true)],[j1,j1,j8,j6]⟩,true,true,[900,901]⟩
def ab5:Nat->aX×Int×Int×Int×Int×A1->Option (Int×Int×aX×aX):=mF jI rZ
def al4:CO:=cF jI rZ ab5 Tryz.func138
def XZ N m n f i b j g h d a c e:Ji N (m+1) (n,f,i,b,j,g,h,d,a,c,e)=cond ((wrap .i64 (i+1))<(List.length a:Int))
 (aW (ba a (wrap .i64 (i+1))) λl=>
 aW (ba a (wrap .i64 (i+1))) λk=>
 some (n,f,b,k,g,h,d,a,c,e))
 (some (n,f,b,j,g,h,d,a,c,e)):=by kernel_rfl
def G_ N m n g h b e c d f:Ci N (m+1) (n,g,h,b,e,c,d,f)=cond (b<h)
 (aW (ba c b) λo=>
 aW (ba c b) λi=>
 aW (Ji N N (n,g,b,i,(List.length e:Int),h,b,e,c,d,f)) λa=>
 aW (ba a.2.2.2.2.2.2.1 a.2.2.1) λp=>
 aW (ba a.2.2.2.2.2.2.1 a.2.2.1) λj=>
 aW (eN 4 a.2.2.2.2.2.2.2.2.1 [j]) λk=>
 aW (eN 8 a.2.2.2.2.2.2.2.2.2 [(wrap .i64 (a.2.2.2.1 - a.2.2.1))]) λl=>
 (Ci N m (a.1,a.2.1,a.2.2.2.2.1,(wrap .i64 (a.2.2.2.2.2.1+1)),a.2.2.2.2.2.2.1,a.2.2.2.2.2.2.2.1,k,l)))
 (some (n,g,d,f)):=by kernel_rfl
def ab6 N c w d e f g:ab5 (N+1) (c,w,d,e,f,g)=aW (Je N (c,w,d,e,f,g)) λb=>
 cond (!(b.2.1=0))
  (some (0,b.2.1,[],[]))
  (aW (Uw N (c,b.2.2)) λh=>
  aW (UA N h.2) λi=>
  aW (Jh N (i,d,e,f,g)) λa=>
  cond (!(a.2.1=0))
   (some (0,a.2.1,[],[]))
   (aW (Ci N N (b.1,a.1,(List.length a.2.2:Int),0,h.2,a.2.2,[],[])) λz5=>
   some ((wrap .i64 (z5.1+z5.2.1)),0,z5.2.2.1,z5.2.2.2))):=by kernel_rfl
def xT:List CO:=[al4]
noncomputable def xU:FD:=⟨68,Tryz.f68,.z,[.h j8,.ag [.h j1,.h j1,.h j1,.h j1,.h cy]],[],[j8,j1,j1,j1,j1,cy],⟨[(4,.k (.ow 900)),(5,.h j1),(6,.h j1)],[(900,.arr 66 j2 true)],[j1,j1,j8]⟩,true,true,[900]⟩
def Jj:Nat->aX×Int×Int×Int×Int×A1->Option A7:=mF xT xU
def ajl:CO:=cF xT xU Jj Tryz.func68
def X0 N b w c d e f:Jj (N+1) (b,w,c,d,e,f)=aW (ab5 N (b,w,c,d,e,f)) λa=>
 some (a.1,a.2.1,a.2.2.1):=by kernel_rfl
def xV:List CO:=[]
noncomputable def xW:FD:=⟨69,Tryz.f69,.z,[.h j2],[],[j2],⟨[(2,.k (.pt 900 0))],[(900,.box 46 [.h j1,.h j1])],[j1,j1]⟩,false,true,[]⟩
def Jk:Nat->Int->Pk:=mF xV xW
def ajm:CO:=cF xV xW Jk Tryz.func69
def X1 N a:Jk (N+1) a=some ((wrap .i64 (Int.fdiv a ((2:Int)^(min (Int.toNat 16) 32)))),(wrap .i64 (wrap .u16 a))):=by kernel_rfl
def kA:List CO:=[ai6,ajl,ajm]
def UK:PS:=⟨[(13,.h j1),(14,.h j1),(15,.k (.ow 901)),(48,.k (.ow 900)),(49,.h j1),(50,.h j1)],[(901,.arr 46 j5 true),(900,.arr 66 j2 true)],[j1,j1,j1,j1,cy,j8]⟩
def UL:List (Exit×PS):=[((.exit 2),⟨[(13,.h j1),(14,.h j1),(15,.k (.ow 900))],[(900,.arr 46 j5 true)],[j1,j1,cy]⟩)]
def UM:Pl:=.z
def Cj:Nat->Nat->Int×Int×Int×Int×A1×aX->Option (Int×Int×A1):=gh kA Tryz.f27 [1,1,1,1,1,0,1,0,0] UK UL UM
def UN:PS:=⟨[(3,.k (.pt 900 0)),(7,.k (.ow 901)),(18,.h cy),(19,.h j1),(20,.h j1)],[(900,.box 42 [.h j1,.h j1,.h j1,.h j1,.h cy]),(901,.arr 66 j2 true)],[cy,j1,j1,j1,j1,j1,j1,cy,j8]⟩
def UO:List (Exit×PS):=[((.exit 0),⟨[(3,.k (.pt 900 0)),(7,.k (.ow 901))],[(900,.box 42 [.h j1,.h j1,.h j1,.h j1,.h cy]),(901,.arr 66 j2 true)],[j1,j1,j1,j1,cy,j8]⟩),(.ret,⟨[(4,.k .nil),(5,.h j1),(6,.h j1)],[],[j1,j1]⟩)]
def UP:Pl:=.z
def xX:Nat->Nat->A1×Int×Int×Int×Int×Int×Int×A1×aX->Option ((Int×Int×Int×Int×A1×aX)⊕(Int×Int)):=gh kA Tryz.f27 [1,1,0,1,0,0] UN UO UP
noncomputable def uL:FD:=⟨27,Tryz.f27,(.n .z (.n .z (.n (.n .z (.n (.loop UN UO UP) .z)) (.n .z (.n .z (.n (.n .z (.n (.loop UK UL UM) .z)) .z)))))),[.h cy,.ag [.h j1,.h j1,.h j1,.h j1,.h cy]],[],[cy,j1,j1,j1,j1,cy],⟨[(4,.k (.ow 900)),(5,.h j1),(6,.h j1)],[(900,.arr 46 j5 true)],[j1,j1,cy]⟩,true,true,[900]⟩
def Ed:Nat->A1×Int×Int×Int×Int×A1->Option (Int×Int×A1):=mF kA uL
def al5:CO:=cF kA uL Ed Tryz.func27
def Ha N m n e d a c b:Cj N (m+1) (n,e,d,a,c,b)=cond (a<d)
 (aW (ba b a) λi=>
 aW (ba b a) λg=>
 aW (Jk N g) λf=>
 aW (eN 16 c [(f.1,f.2)]) λh=>
 (Cj N m (n,e,d,(wrap .i64 (a+1)),h,b)))
 (some (n,e,c)):=by kernel_rfl
def Hb N m c d a w e f g h b:xX N (m+1) (c,d,a,w,e,f,g,h,b)=cond (a<d)
 (aW (ba c a) λi=>
 aW (I2 N (i.1,i.2)) λj=>
 cond (!j.2)
  (some (.inr (0,10)))
  (cond (!(i.1=i.2))
   (aW (eN 4 b [j.1]) λk=>
   (xX N m (c,d,(wrap .i64 (a+1)),w,e,f,g,h,k)))
   ((xX N m (c,d,(wrap .i64 (a+1)),w,e,f,g,h,b)))))
 (some (.inl (w,e,f,g,h,b))):=by kernel_rfl
def ab7 N l w d e f g:Ed (N+1) (l,w,d,e,f,g)=aW (xX N N (l,(List.length l:Int),0,w,d,e,f,g,[])) λi=>
 (match i with
 |.inl a=>aW (Jj N (a.2.2.2.2.2,a.1,a.2.1,a.2.2.1,a.2.2.2.1,a.2.2.2.2.1)) λb=>
  aW (Cj N N (b.1,b.2.1,(List.length b.2.2:Int),0,[],b.2.2)) λc=>
  some (c.1,c.2.1,c.2.2)
 |.inr h=>some (h.1,h.2,[])):=by kernel_rfl
def nK:List CO:=[uw]
def UQ:PS:=⟨[(3,.k (.ow 900)),(10,.h c5),(11,.h j1),(12,.h j1)],[(900,.arr 46 j5 true)],[c5,j1,j1,cy]⟩
def UR:List (Exit×PS):=[((.exit 0),⟨[(3,.k (.ow 900))],[(900,.arr 46 j5 true)],[cy]⟩)]
def US:Pl:=.z
def Ck:Nat->Nat->fx×Int×Int×A1->Option (A1):=gh nK Tryz.f23 [1,1,1,0,1,0,0] UQ UR US
noncomputable def uM:FD:=⟨23,Tryz.f23,(.n .z (.n .z (.n .z (.n (.n .z (.n (.loop UQ UR US) .z)) .z)))),[.ag [.h j1,.h c5]],[],[j1,c5],⟨[(2,.k (.ow 900))],[(900,.arr 46 j5 true)],[cy]⟩,true,true,[900]⟩
def Hc:Nat->Int×fx->Option (A1):=mF nK uM
def ab8:CO:=cF nK uM Hc Tryz.func23
def Hd N m b c a l:Ck N (m+1) (b,c,a,l)=cond (a<c)
 (aW (ba b a) λd=>
 aW (eN 16 l [(d.1,d.2.1)]) λe=>
 (Ck N m (b,c,(wrap .i64 (a+1)),e)))
 (some l):=by kernel_rfl
def ab9 N g a:Hc (N+1) (g,a)=aW (mW N (g,a)) λb=>
 cond (!b)
  (some [])
  (aW (Ck N N (a,(List.length a:Int),0,[])) λc=>
  some c):=by kernel_rfl
def mX:List CO:=[]
noncomputable def mY:FD:=⟨146,Tryz.f146,.z,[.ag [.h j1,.h j1],.k (.pt 4294967296 0)],[(4294967296,.box 234 [.k (.mp 4294967297)]),(4294967297,.mp (.tuple ⟨[]⟩) j5 j1)],[j1,j1,Ph],⟨[(3,.h .b)],[(4294967297,.mp (.tuple ⟨[]⟩) j5 j1),(4294967296,.box 234 [.k (.mp 4294967297)])],[.b,Ph]⟩,true,true,[4294967297,4294967296]⟩
def Nd:Nat->Int×Int×A5->Option (Bool×A5):=mF mX mY
def ahD:CO:=cF mX mY Nd Tryz.func146
def ab_ N x a h:Nd (N+1) (x,a,h)=some ((decide ((Option.getD (bJ j5 h (x,a)) 0)=0)),h):=by kernel_rfl
def bR:List CO:=[ahD]
def aca:PS:=⟨[(0,.h cy),(1,.cl (.func 146) [] [.k (.pt 4294967296 0)]),(7,.h j1),(8,.h j1)],[(4294967296,.box 234 [.k (.mp 4294967297)]),(4294967297,.mp (.tuple ⟨[]⟩) j5 j1)],[cy,j1,j1,Ph]⟩
def acb:List (Exit×PS):=[((.exit 0),⟨[],[(4294967296,.box 234 [.k (.mp 4294967297)]),(4294967297,.mp (.tuple ⟨[]⟩) j5 j1)],[Ph]⟩),(.ret,⟨[(4,.h j1)],[(4294967296,.box 234 [.k (.mp 4294967297)]),(4294967297,.mp (.tuple ⟨[]⟩) j5 j1)],[j1,Ph]⟩)]
def acd:Pl:=.z
def Jl:Nat->Nat->A1×Int×Int×A5->Option ((A5)⊕(Int×A5)):=gh bR Tryz.f168 [1,0,1,0,0] aca acb acd
noncomputable def c8:FD:=⟨168,Tryz.f168,(.n .z (.n (.n .z (.n (.loop aca acb acd) .z)) .z)),[.h cy,.cl (.func 146) [] [.k (.pt 4294967296 0)]],[(4294967296,.box 234 [.k (.mp 4294967297)]),(4294967297,.mp (.tuple ⟨[]⟩) j5 j1)],[cy,Ph],⟨[(4,.h j1)],[(4294967296,.box 234 [.k (.mp 4294967297)]),(4294967297,.mp (.tuple ⟨[]⟩) j5 j1)],[j1,Ph]⟩,true,true,[4294967296,4294967297]⟩
def ajn:Nat->A1×A5->Option (Int×A5):=mF bR c8
def aoq:CO:=cF bR c8 ajn Tryz.func168
def Nf N m s c a b:Jl N (m+1) (s,c,a,b)=cond (a<c)
 (aW (ba s a) λe=>
 aW (Nd N (e.1,e.2,b)) λd=>
 cond d.1
  (some (.inr (a,d.2)))
  ((Jl N m (s,c,(wrap .i64 (a+1)),d.2))))
 (some (.inl b)):=by kernel_rfl
def af2 N s h:ajn (N+1) (s,h)=aW (Jl N N (s,(List.length s:Int),0,h)) λb=>
 (match b with
 |.inl c=>some ((-1),c)
 |.inr a=>some (a.1,a.2)):=by kernel_rfl
def bP:List CO:=[aoq,ahD]
def ace:PS:=⟨[(0,.k (.ow 4294967296)),(1,.cl (.func 146) [] [.k (.pt 4294967297 0)]),(5,.h j1),(6,.h j1)],[(4294967296,.arr 46 j5 true),(4294967297,.box 234 [.k (.mp 4294967298)]),(4294967298,.mp (.tuple ⟨[]⟩) j5 j1)],[j1,j1,cy,Ph]⟩
def acf:List (Exit×PS):=[((.exit 0),⟨[(0,.k (.ow 4294967296)),(5,.h j1)],[(4294967296,.arr 46 j5 true),(4294967297,.box 234 [.k (.mp 4294967298)]),(4294967298,.mp (.tuple ⟨[]⟩) j5 j1)],[j1,cy,Ph]⟩)]
def acg:Pl:=.z
def Ee:Nat->Nat->Int×Int×A1×A5->Option (Int×A1×A5):=gh bP Tryz.f145 [1,1,1,0,1,0,0] ace acf acg
noncomputable def cR:FD:=⟨145,Tryz.f145,(.n .z (.n .z (.n .z (.n (.n .z (.n (.loop ace acf acg) .z)) .z)))),[.k (.ow 4294967296),.cl (.func 146) [] [.k (.pt 4294967297 0)]],[(4294967296,.arr 46 j5 true),(4294967297,.box 234 [.k (.mp 4294967298)]),(4294967298,.mp (.tuple ⟨[]⟩) j5 j1)],[cy,Ph],⟨[(4,.k (.ow 900))],[(900,.arr 46 j5 true),(4294967298,.mp (.tuple ⟨[]⟩) j5 j1),(4294967297,.box 234 [.k (.mp 4294967298)])],[cy,Ph]⟩,true,true,[900,4294967298,4294967297]⟩
def af3:Nat->A1×A5->Option (A1×A5):=mF bP cR
def aor:CO:=cF bP cR af3 Tryz.func145
def ach N m i j s b:Ee N (m+1) (i,j,s,b)=cond (j<(List.length s:Int))
 (aW (ba s j) λd=>
 aW (ba s j) λa=>
 aW (Nd N (a.1,a.2,b)) λc=>
 cond (!c.1)
  (aW (ba s i) λe=>
  aW (ba s i) λf=>
  (Ee N m ((wrap .i64 (i+1)),(wrap .i64 (j+1)),(List.set s (Int.toNat i) (a.1,a.2)),c.2)))
  ((Ee N m (i,(wrap .i64 (j+1)),s,c.2))))
 (some (i,s,b)):=by kernel_rfl
def af4 N s h:af3 (N+1) (s,h)=aW (ajn N (s,h)) λb=>
 cond (b.1=(-1))
  (some (s,b.2))
  (aW (Ee N N (b.1,(wrap .i64 (b.1+1)),s,b.2)) λa=>
  cond (((true && true) && true) && (!(l4 a.2.1)))
   (aW (jm a.2.1 a.1 (List.length a.2.1:Int)) λe=>
   aW (WY a.2.1 a.1 ((List.length a.2.1:Int) - a.1) (0,0)) λc=>
   aW (jm c 0 a.1) λd=>
   some (d,a.2.2))
   none):=by kernel_rfl
def pG:List CO:=[uw,ab8,aor]
def Ng:PS:=⟨[(2,.k (.pt 900 0)),(6,.k (.pt 901 0)),(13,.h cy),(14,.h j1),(15,.h j1)],[(900,.box 24 [.h j1,.h c5]),(901,.box 234 [.k (.mp 902)]),(902,.mp (.tuple ⟨[]⟩) j5 j1)],[cy,j1,j1,j1,c5,Ph]⟩
def Nh:List (Exit×PS):=[((.exit 0),⟨[(2,.k (.pt 900 0)),(6,.k (.pt 901 0))],[(900,.box 24 [.h j1,.h c5]),(901,.box 234 [.k (.mp 902)]),(902,.mp (.tuple ⟨[]⟩) j5 j1)],[j1,c5,Ph]⟩),(.ret,⟨[(4,.k .nil),(5,.h j1)],[],[j1]⟩)]
def Ni:Pl:=.z
def xY:Nat->Nat->A1×Int×Int×Int×fx×A5->Option ((Int×fx×A5)⊕(Int)):=gh pG Tryz.f77 [1,1,1,0,1,0,0] Ng Nh Ni
noncomputable def xZ:FD:=⟨77,Tryz.f77,(.n .z (.n .z (.n .z (.n (.n .z (.n (.loop Ng Nh Ni) .z)) .z)))),[.ag [.h j1,.h c5],.h cy],[],[j1,c5,cy],⟨[(4,.k (.ow 900)),(5,.h j1)],[(900,.arr 46 j5 true)],[j1,cy]⟩,true,true,[900]⟩
def zM:Nat->Int×fx×A1->Option (Int×A1):=mF pG xZ
def aci:CO:=cF pG xZ zM Tryz.func77
def Ef N m e f c g d b:xY N (m+1) (e,f,c,g,d,b)=cond (c<f)
 (aW (ba e c) λa=>
 cond ((if(a.2<a.1)then a.2 else a.1)<0)
  (some (.inr 10))
  (cond (g<=(if(a.2>a.1)then a.2 else a.1))
   (some (.inr 10))
   (aW (PX (dS j5 b ((if(a.2<a.1)then a.2 else a.1),(if(a.2>a.1)then a.2 else a.1)) (Option.getD (bJ j5 b ((if(a.2<a.1)then a.2 else a.1),(if(a.2>a.1)then a.2 else a.1))) 0)) (((Iy j5 b ((if(a.2<a.1)then a.2 else a.1),(if(a.2>a.1)then a.2 else a.1))):Nat):Int) (wrap .i64 ((Option.getD (bJ j5 b ((if(a.2<a.1)then a.2 else a.1),(if(a.2>a.1)then a.2 else a.1))) 0)+1))) λh=>
   (xY N m (e,f,(wrap .i64 (c+1)),g,d,h)))))
 (some (.inl (g,d,b))):=by kernel_rfl
def X2 N g a l:zM (N+1) (g,a,l)=aW (mW N (g,a)) λc=>
 cond (!c)
  (some (1,[]))
  (aW (xY N N (l,(List.length l:Int),0,g,a,[])) λd=>
  (match d with
  |.inl b=>aW (Hc N (b.1,b.2.1)) λe=>
   aW (af3 N (e,b.2.2)) λf=>
   some (0,f.1)
  |.inr h=>some (h,[]))):=by kernel_rfl
def pH:List CO:=[uw,ab8,⟨dD,eS⟩]
def Nj:PS:=⟨[(2,.k (.pt 900 0)),(6,.k (.mp 901)),(9,.k (.ow 902)),(26,.h cy),(27,.h j1),(28,.h j1)],[(900,.box 24 [.h j1,.h c5]),(901,.mp (.tuple ⟨[]⟩) j5 j1),(902,.arr 46 j5 true)],[cy,j1,j1,j1,c5,Ph,cy]⟩
def Nk:List (Exit×PS):=[((.exit 2),⟨[(9,.k (.ow 900))],[(900,.arr 46 j5 true)],[cy]⟩),(.ret,⟨[(4,.k .nil),(5,.h j1)],[],[j1]⟩)]
def Nl:Pl:=.z
def oA:Nat->Nat->A1×Int×Int×Int×fx×A5×A1->Option ((A1)⊕(Int)):=gh pH Tryz.f70 [1,1,1,1,1,0,1,0,0] Nj Nk Nl
def Nn:PS:=⟨[(1,.h cy),(2,.k (.pt 900 0)),(6,.k (.mp 901)),(17,.k (.ow 902)),(18,.h j1),(19,.h j1)],[(900,.box 24 [.h j1,.h c5]),(901,.mp (.tuple ⟨[]⟩) j5 j1),(902,.arr 46 j5 true)],[cy,j1,j1,j1,c5,Ph,cy]⟩
def No:List (Exit×PS):=[((.exit 0),⟨[(1,.h cy),(2,.k (.pt 900 0)),(6,.k (.mp 901))],[(900,.box 24 [.h j1,.h c5]),(901,.mp (.tuple ⟨[]⟩) j5 j1)],[cy,j1,c5,Ph]⟩)]
def Np:Pl:=.z
def x3:Nat->Nat->A1×Int×Int×Int×fx×A5×A1->Option (A1×Int×fx×A5):=gh pH Tryz.f70 [1,1,1,0,1,0,0] Nn No Np
noncomputable def Eg:FD:=⟨70,Tryz.f70,(.n .z (.n .z (.n .z (.n (.n .z (.n (.loop Nn No Np) .z)) (.n .z (.n (.n .z (.n (.loop Nj Nk Nl) .z)) .z)))))),[.ag [.h j1,.h c5],.h cy],[],[j1,c5,cy],⟨[(4,.k (.ow 900)),(5,.h j1)],[(900,.arr 46 j5 true)],[j1,cy]⟩,true,true,[900]⟩
def zN:Nat->Int×fx×A1->Option (Int×A1):=mF pH Eg
def acj:CO:=cF pH Eg zN Tryz.func70
def Eh N m e f b g h d c:oA N (m+1) (e,f,b,g,h,d,c)=cond (b<f)
 (aW (ba e b) λa=>
 cond ((if(a.2<a.1)then a.2 else a.1)<0)
  (some (.inr 10))
  (cond (g<=(if(a.2>a.1)then a.2 else a.1))
   (some (.inr 10))
   (cond ((if(a.2<a.1)then a.2 else a.1)<(if(a.2>a.1)then a.2 else a.1))
    (cond ((Option.getD (bJ j5 d ((if(a.2<a.1)then a.2 else a.1),(if(a.2>a.1)then a.2 else a.1))) 0)=0)
     (aW (eN 16 c [((if(a.2<a.1)then a.2 else a.1),(if(a.2>a.1)then a.2 else a.1))]) λi=>
     (oA N m (e,f,(wrap .i64 (b+1)),g,h,(dS j5 d ((if(a.2<a.1)then a.2 else a.1),(if(a.2>a.1)then a.2 else a.1)) 1),i)))
     ((oA N m (e,f,(wrap .i64 (b+1)),g,h,d,c))))
    ((oA N m (e,f,(wrap .i64 (b+1)),g,h,d,c))))))
 (some (.inl c)):=by kernel_rfl
def Ei N m l e a g c d b:x3 N (m+1) (l,e,a,g,c,d,b)=cond (a<e)
 (aW (ba b a) λh=>
 aW (ba b a) λf=>
 (x3 N m (l,e,(wrap .i64 (a+1)),g,c,(dS j5 d (f.1,f.2) 1),b)))
 (some (l,g,c,d)):=by kernel_rfl
def X3 N g b l:zN (N+1) (g,b,l)=aW (mW N (g,b)) λd=>
 cond (!d)
  (some (1,[]))
  (aW (Hc N (g,b)) λc=>
  aW (x3 N N (l,(List.length c:Int),0,g,b,[],c)) λa=>
  aW (oA N N (a.1,(List.length a.1:Int),0,a.2.1,a.2.2.1,a.2.2.2,[])) λe=>
  (match e with
  |.inl h=>aW (cc N h) λf=>
   some (0,f)
  |.inr i=>some (i,[]))):=by kernel_rfl
def x4:List CO:=[uw]
noncomputable def x5:FD:=⟨84,Tryz.f84,.z,[.ag [.h j1,.h c5]],[],[j1,c5],⟨[(2,.h j1)],[],[j1]⟩,false,true,[]⟩
def Ej:Nat->Int×fx->eR:=mF x4 x5
def ajo:CO:=cF x4 x5 Ej Tryz.func84
def He N g a:Ej (N+1) (g,a)=aW (mW N (g,a)) λb=>
 cond (!b)
  (some 0)
  (some (wrap .i64 (400 - (List.length a:Int)))):=by kernel_rfl
def uN:List CO:=[uw,ai4,alG,alJ,al5,aci,acj,ajo]
noncomputable def uO:FD:=⟨31,Tryz.f31,.z,[.ag [.h j1,.h c5],.ag [.h j1,.h cy,.h pv],.ag [.h j1,.h j1,.h j1,.h j1,.h cy]],[],[j1,c5,j1,cy,pv,j1,j1,j1,j1,cy],⟨[(6,.k (.pt 900 0)),(7,.h j1),(8,.h j1)],[(900,.box 30 [.h j1,.h cy,.h pv])],[j1,j1,j1,cy,pv]⟩,false,false,[]⟩
def oC:Nat->Int×fx×Int×A1×(List A4)×Int×Int×Int×Int×A1->Option (Int×Int×Int×A1×(List A4)):=mF uN uO
def al6:CO:=cF uN uO oC Tryz.func31
def Ek N g e x c d w h i j k:oC (N+1) (g,e,x,c,d,w,h,i,j,k)=aW (mW N (g,e)) λm=>
 cond (!m)
  (some (0,1,0,[],[]))
  (aW (I1 N (x,c,d)) λn=>
  cond (!n)
   (some (0,1,0,[],[]))
   (aW (TT N (x,c,d)) λo=>
   aW (TY N (o,g,e)) λa=>
   cond a.1
    (some (0,10,0,[],[]))
    (cond (x=3)
     (some (0,0,x,[],d))
     (aW (Ed N (c,w,h,i,j,k)) λb=>
     cond (!(b.2.1=0))
      (some (0,b.2.1,0,[],[]))
      (cond (x=2)
       (aW (zM N (a.2.1,a.2.2,b.2.2)) λl=>
       some (b.1,l.1,x,l.2,[]))
       (aW (zN N (a.2.1,a.2.2,b.2.2)) λf=>
       aW (Ej N (a.2.1,a.2.2)) λp=>
       cond (p<(List.length f.2:Int))
        (some (0,2,0,[],[]))
        (some (b.1,f.1,x,f.2,[])))))))):=by kernel_rfl
def A_:List CO:=[]
noncomputable def Ba:FD:=⟨71,Tryz.f71,.z,[.ag [.h j1,.h c5],.h j1],[],[j1,c5,j1],⟨[(4,.h .b)],[],[.b]⟩,false,true,[]⟩
def QA:Nat->Int×fx×Int->eA:=mF A_ Ba
def ajp:CO:=cF A_ Ba QA Tryz.func71
def X4 N g a more:QA (N+1) (g,a,more)=some (decide ((wrap .i64 ((List.length a:Int)+more))<=400)):=by kernel_rfl
def r4:List CO:=[uw,ahv,abf]
noncomputable def r5:FD:=⟨20,Tryz.f20,.z,[.ag [.h j1,.h c5],.h j1],[],[j1,c5,j1],⟨[(4,.k (.pt 900 0)),(5,.h j1)],[(900,.box 80 [.h j1,.h cj])],[j1,j1,cj]⟩,false,false,[]⟩
def Nq:Nat->Int×fx×Int->Option A12:=mF r4 r5
def ahE:CO:=cF r4 r5 Nq Tryz.func20
def ack N g a c:Nq (N+1) (g,a,c)=aW (mW N (g,a)) λd=>
 cond (!d)
  (some (1,0,[]))
  (aW (LO N (g,a,c)) λe=>
  aW (DQ N (g,e)) λb=>
  some (b.1,b.2.1,b.2.2)):=by kernel_rfl
def pI:List CO:=[]
def Nr:PS:=⟨[(0,.h j1),(13,.h cy),(14,.h j1),(15,.h j1)],[],[j1,cy,j1,j1]⟩
def Ns:List (Exit×PS):=[((.exit 0),⟨[],[],[]⟩),(.ret,⟨[(4,.h j1)],[],[j1]⟩)]
def Nt:Pl:=.z
def x6:Nat->Nat->Int×A1×Int×Int->Option ((Unit)⊕(Int)):=gh pI Tryz.f59 [1,1,0,1,0,0] Nr Ns Nt
noncomputable def x7:FD:=⟨59,Tryz.f59,(.n .z (.n .z (.n (.n .z (.n (.loop Nr Ns Nt) .z)) .z))),[.h j1,.h cy],[],[j1,cy],⟨[(4,.h j1)],[],[j1]⟩,false,true,[]⟩
def Em:Nat->Int×A1->eR:=mF pI x7
def acm:CO:=cF pI x7 Em Tryz.func59
def QB N m n c d b:x6 N (m+1) (n,c,d,b)=cond (b<d)
 (aW (ba c b) λa=>
 cond ((if(a.2<a.1)then a.2 else a.1)<0)
  (some (.inr 10))
  (cond (n<=(if(a.2>a.1)then a.2 else a.1))
   (some (.inr 10))
   ((x6 N m (n,c,d,(wrap .i64 (b+1)))))))
 (some (.inl ())):=by kernel_rfl
def X5 N n l:Em (N+1) (n,l)=cond (n<1)
 (some 1)
 (cond (64<n)
  (some 1)
  (aW (x6 N N (n,l,(List.length l:Int),0)) λa=>
  (match a with
  |.inl c=>some 0
  |.inr b=>some b))):=by kernel_rfl
def Hf:List CO:=[IS,IV,aa_]
noncomputable def Hg:FD:=⟨58,Tryz.f58,.z,[.ag [.h j1,.h cj],.h j1],[],[j1,cj,j1],⟨[(4,.h j1)],[],[j1]⟩,false,true,[]⟩
def Eo:Nat->Int×A3×Int->eR:=mF Hf Hg
def acn:CO:=cF Hf Hg Eo Tryz.func58
def X6 N f a v:Eo (N+1) (f,a,v)=aW (nF N (f,v)) λb=>
 cond (!b)
  (some (-1))
  (aW (rF N (f,a)) λc=>
  cond (!c)
   (some (-1))
   (aW (zH N (f,a,v)) λd=>
   some d)):=by kernel_rfl
def r6:List CO:=[aa1,acn]
noncomputable def r7:FD:=⟨186,Tryz.f186,.z,[.ag [.h j1,.h cj],.h j1],[],[j1,cj,j1],⟨[(4,.h j1),(5,.h j1)],[],[j1,j1]⟩,false,true,[]⟩
def Nu:Nat->Int×A3×Int->Pk:=mF r6 r7
def al7:CO:=cF r6 r7 Nu Tryz.func186
def aco N f a v:Nu (N+1) (f,a,v)=aW (GG N (f,a,[v])) λb=>
 cond (!(b=0))
  (some (0,b))
  (aW (Eo N (f,a,v)) λc=>
  aW (ba a c) λd=>
  aW (ba d 0) λe=>
  some (e,0)):=by kernel_rfl
def lk:List CO:=[IV,acm,al7]
def UT:PS:=⟨[(2,.k (.pt 900 0)),(7,.k (.ow 901)),(24,.h cy),(25,.h j1),(26,.h j1)],[(900,.box 80 [.h j1,.h cj]),(901,.arr 46 j5 true)],[cy,j1,j1,j1,cj,cy]⟩
def UU:List (Exit×PS):=[((.exit 0),⟨[(7,.k (.ow 900))],[(900,.arr 46 j5 true)],[cy]⟩)]
def UW:Pl:=.z
def Co:Nat->Nat->A1×Int×Int×Int×A3×A1->Option (A1):=gh lk Tryz.f140 [1,1,1,1,0,1,0,0] UT UU UW
noncomputable def qv:FD:=⟨140,Tryz.f140,(.n .z (.n .z (.n .z (.n .z (.n (.n .z (.n (.loop UT UU UW) .z)) .z))))),[.ag [.h j1,.h cj],.h cy],[],[j1,cj,cy],⟨[(4,.k (.ow 900)),(5,.h j1)],[(900,.arr 46 j5 true)],[j1,cy]⟩,true,true,[900]⟩
def UX:Nat->Int×A3×A1->Option (Int×A1):=mF lk qv
def al8:CO:=cF lk qv UX Tryz.func140
def X7 N m d e b f a c:Co N (m+1) (d,e,b,f,a,c)=cond (b<e)
 (aW (ba d b) λg=>
 aW (Nu N (f,a,g.1)) λh=>
 aW (Nu N (f,a,g.2)) λi=>
 aW (eN 16 c [(h.1,i.1)]) λj=>
 (Co N m (d,e,(wrap .i64 (b+1)),f,a,j)))
 (some c):=by kernel_rfl
def acp N f a l:UX (N+1) (f,a,l)=aW (rF N (f,a)) λc=>
 cond (!c)
  (some (1,[]))
  (aW (Em N (f,l)) λb=>
  cond (!(b=0))
   (some (b,[]))
   (aW (Co N N (l,(List.length l:Int),0,f,a,[])) λd=>
   some (0,d))):=by kernel_rfl
def pJ:List CO:=[]
def Nv:PS:=⟨[(3,.k (.ow 900)),(8,.h j1),(9,.h j1)],[(900,.arr 3 j1 true)],[j1,j1,j6]⟩
def Nw:List (Exit×PS):=[((.exit 0),⟨[(3,.k (.ow 900))],[(900,.arr 3 j1 true)],[j6]⟩)]
def Nx:Pl:=.z
def x8:Nat->Nat->Int×Int×aX->mC:=gh pJ Tryz.f60 [1,1,0,1,0,0] Nv Nw Nx
noncomputable def x9:FD:=⟨60,Tryz.f60,(.n .z (.n .z (.n (.n .z (.n (.loop Nv Nw Nx) .z)) .z))),[.h j1],[],[j1],⟨[(2,.k (.ow 900))],[(900,.arr 3 j1 true)],[j6]⟩,true,true,[900]⟩
def Ep:Nat->Int->mC:=mF pJ x9
def acq:CO:=cF pJ x9 Ep Tryz.func60
def QC N m b a s:x8 N (m+1) (b,a,s)=cond (a<b)
 (aW (ba s a) λc=>
 aW (ba s a) λd=>
 (x8 N m (b,(wrap .i64 (a+1)),(List.set s (Int.toNat a) a))))
 (some s):=by kernel_rfl
def X8 N n:Ep (N+1) n=aW (qM n (8:Nat)) λa=>
 aW (x8 N N ((List.length (List.replicate a (0:Int)):Int),(0:Int),(List.replicate a (0:Int)))) λb=>
 some b:=by kernel_rfl
def h_:List CO:=[]
def UY:PS:=⟨[(0,.k (.ow 4294967296)),(1,.h j1)],[(4294967296,.arr 3 j1 true)],[j1,j6]⟩
def UZ:List (Exit×PS):=[((.exit 0),⟨[(1,.h j1)],[(4294967296,.arr 3 j1 true)],[j1,j6]⟩)]
def U0:Pl:=.z
def Cp:Nat->Nat->Int×aX->Option A6:=gh h_ Tryz.f62 [1,0,0,0] UY UZ U0
noncomputable def kO:FD:=⟨62,Tryz.f62,(.n .z (.n (.n (.loop UY UZ U0) .z) .z)),[.k (.ow 4294967296),.h j1],[(4294967296,.arr 3 j1 true)],[j1,j6],⟨[(4,.h j1)],[(4294967296,.arr 3 j1 true)],[j1,j6]⟩,true,true,[4294967296]⟩
def Hh:Nat->Int×aX->Option A6:=mF h_ kO
def ahF:CO:=cF h_ kO Hh Tryz.func62
def X9 N m v s:Cp N (m+1) (v,s)=aW (ba s v) λe=>
 aW (ba s v) λd=>
 cond (!(d=v))
  (aW (ba s v) λf=>
  aW (ba s v) λb=>
  aW (ba s b) λg=>
  aW (ba s b) λa=>
  aW (ba s v) λh=>
  aW (ba s v) λi=>
  aW (ba (List.set s (Int.toNat v) a) v) λj=>
  aW (ba (List.set s (Int.toNat v) a) v) λc=>
  (Cp N m (c,(List.set s (Int.toNat v) a))))
  (some (v,s)):=by kernel_rfl
def acr N v s:Hh (N+1) (v,s)=aW (Cp N N (v,s)) λa=>
 some (a.1,a.2):=by kernel_rfl
def lA:List CO:=[ahF]
noncomputable def lB:FD:=⟨131,Tryz.f131,.z,[.k (.ow 4294967296),.h j1,.h j1],[(4294967296,.arr 3 j1 true)],[j1,j1,j6],⟨[(6,.h .b)],[(4294967296,.arr 3 j1 true)],[.b,j6]⟩,true,true,[4294967296]⟩
def U1:Nat->Int×Int×aX->Option A9:=mF lA lB
def al9:CO:=cF lA lB U1 Tryz.func131
def acs N u v s:U1 (N+1) (u,v,s)=aW (Hh N (u,s)) λb=>
 aW (Hh N (v,b.2)) λa=>
 aW (ba a.2 (if(a.1>b.1)then a.1 else b.1)) λc=>
 aW (ba a.2 (if(a.1>b.1)then a.1 else b.1)) λd=>
 some ((!(b.1=a.1)),(List.set a.2 (Int.toNat (if(a.1>b.1)then a.1 else b.1)) (if(a.1<b.1)then a.1 else b.1))):=by kernel_rfl
def ey:List CO:=[al9]
def U2:PS:=⟨[(1,.cl (.func 131) [.k (.ow 4294967296)] []),(5,.k (.ow 900)),(8,.h cy),(9,.h j1),(10,.h j1)],[(4294967296,.arr 3 j1 true),(900,.arr 4 .b true)],[cy,j1,j1,j6,j3]⟩
def U3:List (Exit×PS):=[((.exit 0),⟨[(5,.k (.ow 900))],[(900,.arr 4 .b true),(4294967296,.arr 3 j1 true)],[j3,j6]⟩)]
def U4:Pl:=.z
def Cq:Nat->Nat->A1×Int×Int×aX×bq->Option (bq×aX):=gh ey Tryz.f130 [1,1,0,1,0,0] U2 U3 U4
noncomputable def fB:FD:=⟨130,Tryz.f130,(.n .z (.n .z (.n (.n .z (.n (.loop U2 U3 U4) .z)) .z))),[.h cy,.cl (.func 131) [.k (.ow 4294967296)] []],[(4294967296,.arr 3 j1 true)],[cy,j6],⟨[(4,.k (.ow 900))],[(900,.arr 4 .b true),(4294967296,.arr 3 j1 true)],[j3,j6]⟩,true,true,[900,4294967296]⟩
def acu:Nat->A1×aX->Option (bq×aX):=mF ey fB
def al_:CO:=cF ey fB acu Tryz.func130
def X_ N m d e a b c:Cq N (m+1) (d,e,a,b,c)=cond (a<e)
 (aW (ba d a) λf=>
 aW (U1 N (f.1,f.2,b)) λg=>
 aW (eN 1 c [g.1]) λh=>
 (Cq N m (d,e,(wrap .i64 (a+1)),g.2,h)))
 (some (c,b)):=by kernel_rfl
def acv N l a:acu (N+1) (l,a)=aW (Cq N N (l,(List.length l:Int),0,a,[])) λb=>
 some (b.1,b.2):=by kernel_rfl
def kP:List CO:=[al_]
noncomputable def kQ:FD:=⟨61,Tryz.f61,.z,[.k (.ow 4294967296),.h cy],[(4294967296,.arr 3 j1 true)],[cy,j6],⟨[(4,.k (.ow 900))],[(900,.arr 4 .b true),(4294967296,.arr 3 j1 true)],[j3,j6]⟩,true,true,[900,4294967296]⟩
def Ny:Nat->A1×aX->Option (bq×aX):=mF kP kQ
def ahG:CO:=cF kP kQ Ny Tryz.func61
def acw N l s:Ny (N+1) (l,s)=aW (acu N (l,s)) λa=>
 some (a.1,a.2):=by kernel_rfl
def uP:List CO:=[al8,acq,ahG]
noncomputable def uQ:FD:=⟨72,Tryz.f72,.z,[.ag [.h j1,.h cj],.h cy],[],[j1,cj,cy],⟨[(4,.k (.ow 900)),(5,.h j1)],[(900,.arr 4 .b true)],[j1,j3]⟩,true,true,[900]⟩
def Jm:Nat->Int×A3×A1->Option (Int×bq):=mF uP uQ
def ajq:CO:=cF uP uQ Jm Tryz.func72
def Ya N f b l:Jm (N+1) (f,b,l)=aW (UX N (f,b,l)) λa=>
 cond (!(a.1=0))
  (some (a.1,[]))
  (aW (Ep N f) λc=>
  aW (Ny N (a.2,c)) λd=>
  some (0,d.1)):=by kernel_rfl
def fV:List CO:=[]
noncomputable def fW:FD:=⟨73,Tryz.f73,.z,[.h c5],[],[c5],⟨[(2,.k (.ow 900))],[(900,.arr 127 qj true)],[c5]⟩,true,true,[900]⟩
def U5:Nat->fx->Option (fx):=mF fV fW
def ama:CO:=cF fV fW U5 Tryz.func73
def acx N s:U5 (N+1) s=cond (o5 s)
 (dem λc=>
 cond c
  (some [])
  (aW (eN 32 [] s) λa=>
  some a))
 (aW (eN 32 [] s) λb=>
 some b):=by kernel_rfl
def vy:List CO:=[acj,ajp,ahE,ajq,ama,⟨dY,ff⟩]
def Nz:PS:=⟨[(2,.k (.pt 900 0)),(4,.k (.pt 901 0)),(7,.k (.ow 902)),(11,.k (.ow 903)),(13,.k (.ow 904)),(46,.k (.ow 902)),(47,.h j1),(48,.h j1)],[(900,.box 24 [.h j1,.h c5]),(901,.box 24 [.h j1,.k .nil]),(902,.arr 46 j5 true),(903,.arr 4 .b true),(904,.arr 127 qj true)],[j1,j1,j1,c5,j1,cy,j3,c5]⟩
def NA:List (Exit×PS):=[((.exit 0),⟨[(2,.k (.pt 900 0)),(4,.k (.pt 901 0)),(7,.k (.ow 902)),(13,.k (.ow 903))],[(900,.box 24 [.h j1,.h c5]),(901,.box 24 [.h j1,.k .nil]),(902,.arr 46 j5 true),(903,.arr 127 qj true)],[j1,c5,j1,cy,c5]⟩)]
def NB:Pl:=.z
def x_:Nat->Nat->Int×Int×Int×fx×Int×A1×bq×fx->Option (Int×fx×Int×A1×fx):=gh vy Tryz.f28 [1,1,1,1,1,1,1,0,1,0,0] Nz NA NB
noncomputable def Er:FD:=⟨28,Tryz.f28,(.n .z (.n .z (.n .z (.n .z (.n .z (.n .z (.n .z (.n (.n .z (.n (.loop Nz NA NB) .z)) .z)))))))),[.ag [.h j1,.h c5],.h cy],[],[j1,c5,cy],⟨[(4,.k (.pt 900 0)),(5,.h j1),(6,.h j1)],[(900,.box 24 [.h j1,.h c5])],[j1,j1,j1,c5]⟩,false,false,[]⟩
def mg:Nat->Int×fx×A1->Option (Int×Int×Int×fx):=mF vy Er
def ajr:CO:=cF vy Er mg Tryz.func28
def Es N m h a g d f b c e:x_ N (m+1) (h,a,g,d,f,b,c,e)=cond (a<h)
 (aW (ba b a) λl=>
 aW (ba b a) λi=>
 aW (ba c a) λn=>
 aW (ba c a) λj=>
 aW (eN 32 e [(i.1,i.2,0,j)]) λk=>
 (x_ N m (h,(wrap .i64 (a+1)),g,d,f,b,c,k)))
 (some (g,d,f,b,e)):=by kernel_rfl
def Yb N g a l:mg (N+1) (g,a,l)=aW (zN N (g,a,l)) λb=>
 cond (!(b.1=0))
  (some (0,b.1,g,a))
  (aW (QA N (g,a,(List.length b.2:Int))) λe=>
  cond (!e)
   (some (0,2,g,a))
   (aW (Nq N (g,a,0)) λd=>
   aW (Jm N (d.2.1,d.2.2,b.2)) λf=>
   aW (U5 N a) λh=>
   aW (x_ N N ((List.length b.2:Int),0,g,a,0,b.2,f.2,h)) λc=>
   aW (cJ N c.2.2.2.2) λi=>
   some ((List.length c.2.2.2.1:Int),0,c.1,i))):=by kernel_rfl
def bI:List CO:=[ahu]
def acy:PS:=⟨[(0,.h c5),(2,.k (.v (.func (.func 124) #[] #[]))),(4,.k (.pt 900 0)),(8,.h j1),(9,.h j1),(10,.h j1)],[(900,.box 127 [.h j1,.h j1,.h j1,.h .b])],[c5,j1,j1,j1,j1,j1,j1,.b]⟩
def acz:List (Exit×PS):=[((.exit 0),⟨[(0,.h c5),(2,.k (.v (.func (.func 124) #[] #[]))),(4,.k (.pt 900 0)),(8,.h j1),(9,.h j1)],[(900,.box 127 [.h j1,.h j1,.h j1,.h .b])],[c5,j1,j1,j1,j1,j1,.b]⟩)]
def acA:Pl:=.z
def Et:Nat->Nat->fx×Int×Int×Int×Int×Int×Int×Bool->Option (fx×Int×Int×Int×Int×Int×Bool):=gh bI Tryz.f270 [1,1,1,0,0,0] acy acz acA
noncomputable def cA:FD:=⟨270,Tryz.f270,(.n .z (.n .z (.n .z (.n (.n (.loop acy acz acA) .z) .z)))),[.h c5,.ag [.h j1,.h j1,.h j1,.h .b],.k (.v (.func (.func 124) #[] #[]))],[],[c5,j1,j1,j1,.b],⟨[(6,.h j1),(7,.h .b)],[],[j1,.b]⟩,false,true,[]⟩
def af5:Nat->fx×Int×Int×Int×Bool->Option (Int×Bool):=mF bI cA
def aos:CO:=cF bI cA af5 Tryz.func270
def Eu N m x n i j a b c d:Et N (m+1) (x,n,i,j,a,b,c,d)=cond (i<j)
 (aW (ba x (wrap .i64 (Int.fdiv (wrap .u64 (wrap .i64 (i+j))) ((2:Int)^(min (Int.toNat 1) 64))))) λe=>
 aW (DI N (e.1,e.2.1,e.2.2.1,e.2.2.2,a,b,c,d)) λf=>
 cond (f<0)
  ((Et N m (x,n,(wrap .i64 ((wrap .i64 (Int.fdiv (wrap .u64 (wrap .i64 (i+j))) ((2:Int)^(min (Int.toNat 1) 64))))+1)),j,a,b,c,d)))
  ((Et N m (x,n,i,(wrap .i64 (Int.fdiv (wrap .u64 (wrap .i64 (i+j))) ((2:Int)^(min (Int.toNat 1) 64)))),a,b,c,d))))
 (some (x,n,i,a,b,c,d)):=by kernel_rfl
def af6 N x c d e f:af5 (N+1) (x,c,d,e,f)=aW (Et N N (x,(List.length x:Int),0,(List.length x:Int),c,d,e,f)) λa=>
 cond (a.2.2.1<a.2.1)
  (aW (ba a.1 a.2.2.1) λb=>
  aW (DI N (b.1,b.2.1,b.2.2.1,b.2.2.2,a.2.2.2.1,a.2.2.2.2.1,a.2.2.2.2.2.1,a.2.2.2.2.2.2)) λg=>
  some (a.2.2.1,(decide (g=0))))
  (some (a.2.2.1,false)):=by kernel_rfl
def uR:List CO:=[aos]
noncomputable def uS:FD:=⟨245,Tryz.f245,.z,[.ag [.h j1,.h c5],.h j1,.h j1],[],[j1,c5,j1,j1],⟨[(6,.h j1),(7,.h .b)],[],[j1,.b]⟩,false,true,[]⟩
def acB:Nat->Int×fx×Int×Int->Option (Int×Bool):=mF uR uS
def amb:CO:=cF uR uS acB Tryz.func245
def acC N g a u v:acB (N+1) (g,a,u,v)=aW (af5 N (a,(if(v<u)then v else u),(if(v>u)then v else u),0,false)) λb=>
 some (b.1,b.2):=by kernel_rfl
def ya:List CO:=[uw,amb]
noncomputable def yb:FD:=⟨198,Tryz.f198,.z,[.ag [.h j1,.h c5],.h j1,.h j1],[],[j1,c5,j1,j1],⟨[(6,.h j1)],[],[j1]⟩,false,true,[]⟩
def Jn:Nat->Int×fx×Int×Int->eR:=mF ya yb
def ajs:CO:=cF ya yb Jn Tryz.func198
def Yc N g a u v:Jn (N+1) (g,a,u,v)=aW (mW N (g,a)) λc=>
 cond (!c)
  (some (-1))
  (aW (acB N (g,a,u,v)) λb=>
  cond (!b.2)
   (some (-1))
   (some b.1)):=by kernel_rfl
def uT:List CO:=[uw,ajs]
noncomputable def uU:FD:=⟨147,Tryz.f147,.z,[.ag [.h j1,.h c5],.h j1,.h j1],[],[j1,c5,j1,j1],⟨[(6,.h j1),(7,.h j1)],[],[j1,j1]⟩,false,true,[]⟩
def Ew:Nat->Int×fx×Int×Int->Pk:=mF uT uU
def ahH:CO:=cF uT uU Ew Tryz.func147
def NC N g a u v:Ew (N+1) (g,a,u,v)=aW (mW N (g,a)) λc=>
 cond (!c)
  (some (0,1))
  (cond ((if(v<u)then v else u)<0)
   (some (0,10))
   (cond (g<=(if(v>u)then v else u))
    (some (0,10))
    (aW (Jn N (g,a,u,v)) λb=>
    cond (b<0)
     (some (0,6))
     (some (b,0))))):=by kernel_rfl
def dB:List CO:=[⟨gg,jq⟩]
def U6:PS:=⟨[(6,.k (.ow 900)),(25,.h j22),(26,.h j1),(27,.h j1)],[(900,.arr 127 qj true)],[j22,j1,j1,c5]⟩
def U7:List (Exit×PS):=[((.exit 2),⟨[(6,.k (.ow 900))],[(900,.arr 127 qj true)],[c5]⟩)]
def U8:Pl:=.z
def Cr:Nat->Nat->(List fx)×Int×Int×fx->Option (fx):=gh dB Tryz.f148 [1,1,1,1,0,1,0,0] U6 U7 U8
def U9:PS:=⟨[(0,.h j22),(3,.h j1),(9,.h j22),(10,.h j1),(11,.h j1)],[],[j22,j1,j22,j1,j1]⟩
def U_:List (Exit×PS):=[((.exit 0),⟨[(0,.h j22),(3,.h j1)],[],[j22,j1]⟩)]
def Va:Pl:=.z
def Cs:Nat->Nat->(List fx)×Int×(List fx)×Int×Int->Option ((List fx)×Int):=gh dB Tryz.f148 [1,1,0,1,0,0] U9 U_ Va
noncomputable def fN:FD:=⟨148,Tryz.f148,(.n .z (.n .z (.n (.n .z (.n (.loop U9 U_ Va) .z)) (.n .z (.n (.n .z (.n (.loop U6 U7 U8) .z)) .z))))),[.h j22],[],[j22],⟨[(2,.k (.ow 900))],[(900,.arr 127 qj true)],[c5]⟩,true,true,[900]⟩
def Vb:Nat->(List fx)->Option (fx):=mF dB fN
def amc:CO:=cF dB fN Vb Tryz.func148
def zO N m c d a b:Cr N (m+1) (c,d,a,b)=cond (a<d)
 (aW (ba c a) λe=>
 aW (eN 32 b e) λf=>
 (Cr N m (c,d,(wrap .i64 (a+1)),f)))
 (some b):=by kernel_rfl
def zP N m c a e d b:Cs N (m+1) (c,a,e,d,b)=cond (b<d)
 (aW (ba e b) λf=>
 cond ((wrap .i64 (a+(List.length f:Int)))<0)
  none
  ((Cs N m (c,(wrap .i64 (a+(List.length f:Int))),e,d,(wrap .i64 (b+1))))))
 (some (c,a)):=by kernel_rfl
def acD N a:Vb (N+1) a=aW (Cs N N (a,0,a,(List.length a:Int),0)) λb=>
 aW (eM N b.2) λd=>
 aW (Cr N N (b.1,(List.length b.1:Int),0,[])) λc=>
 some c:=by kernel_rfl
def jf:List CO:=[]
noncomputable def jg:FD:=⟨113,Tryz.f113,.z,[.h j6],[],[j6],⟨[(2,.k (.ow 900))],[(900,.arr 3 j1 true)],[j6]⟩,true,true,[900]⟩
def Vc:Nat->aX->mC:=mF jf jg
def amd:CO:=cF jf jg Vc Tryz.func113
def acE N s:Vc (N+1) s=cond (o5 s)
 (dem λc=>
 cond c
  (some [])
  (aW (eN 8 [] s) λa=>
  some a))
 (aW (eN 8 [] s) λb=>
 some b):=by kernel_rfl
def kR:List CO:=[]
noncomputable def kS:FD:=⟨272,Tryz.f272,.z,[.h j1,.fp [.h j1,.h cj]],[],[j1,j1,cj],⟨[(3,.h .b)],[],[.b]⟩,false,true,[]⟩
def ND:Nat->Int×Int×A3->eA:=mF kR kS
def ahI:CO:=cF kR kS ND Tryz.func272
def acF N t a b:ND (N+1) (t,a,b)=some (decide (a<=t)):=by kernel_rfl
def cx:List CO:=[ahI]
def Vd:PS:=⟨[(0,.h j6),(1,.cl (.func 272) [] [.fp [.h j1,.h cj]]),(7,.h j1),(8,.h j1)],[],[j6,j1,cj,j1,j1]⟩
def Ve:List (Exit×PS):=[((.exit 0),⟨[],[],[]⟩),(.ret,⟨[(4,.h j1)],[],[j1]⟩)]
def Vf:Pl:=.z
def Ct:Nat->Nat->aX×Int×A3×Int×Int->Option ((Unit)⊕(Int)):=gh cx Tryz.f116 [1,0,1,0,0] Vd Ve Vf
noncomputable def dM:FD:=⟨116,Tryz.f116,(.n .z (.n (.n .z (.n (.loop Vd Ve Vf) .z)) .z)),[.h j6,.cl (.func 272) [] [.fp [.h j1,.h cj]]],[],[j6,j1,cj],⟨[(4,.h j1)],[],[j1]⟩,false,true,[]⟩
def acG:Nat->aX×Int×A3->eR:=mF cx dM
def ame:CO:=cF cx dM acG as5
def Hi N m s f b c a:Ct N (m+1) (s,f,b,c,a)=cond (a<c)
 (aW (ba s a) λd=>
 aW (ND N (d,f,b)) λe=>
 cond e
  (some (.inr a))
  ((Ct N m (s,f,b,c,(wrap .i64 (a+1))))))
 (some (.inl ())):=by kernel_rfl
def acH N s f a:acG (N+1) (s,f,a)=aW (Ct N N (s,f,a,(List.length s:Int),0)) λb=>
 (match b with
 |.inl d=>some (-1)
 |.inr c=>some c):=by kernel_rfl
def bY:List CO:=[ame,ahI]
def acI:PS:=⟨[(0,.k (.ow 4294967296)),(1,.cl (.func 272) [] [.fp [.h j1,.h cj]]),(5,.h j1),(6,.h j1)],[(4294967296,.arr 3 j1 true)],[j1,cj,j1,j1,j6]⟩
def acJ:List (Exit×PS):=[((.exit 0),⟨[(0,.k (.ow 4294967296)),(5,.h j1)],[(4294967296,.arr 3 j1 true)],[j1,j6]⟩)]
def acK:Pl:=.z
def Ex:Nat->Nat->Int×A3×Int×Int×aX->Option A6:=gh bY Tryz.f271 [1,1,1,0,1,0,0] acI acJ acK
noncomputable def dx:FD:=⟨271,Tryz.f271,(.n .z (.n .z (.n .z (.n (.n .z (.n (.loop acI acJ acK) .z)) .z)))),[.k (.ow 4294967296),.cl (.func 272) [] [.fp [.h j1,.h cj]]],[(4294967296,.arr 3 j1 true)],[j1,cj,j6],⟨[(4,.k (.ow 900))],[(900,.arr 3 j1 true)],[j6]⟩,true,true,[900]⟩
def af7:Nat->Int×A3×aX->mC:=mF bY dx
def aot:CO:=cF bY dx af7 Tryz.func271
def acL N m a b i j s:Ex N (m+1) (a,b,i,j,s)=cond (j<(List.length s:Int))
 (aW (ba s j) λe=>
 aW (ba s j) λc=>
 aW (ND N (c,a,b)) λd=>
 cond (!d)
  (aW (ba s i) λf=>
  aW (ba s i) λg=>
  (Ex N m (a,b,(wrap .i64 (i+1)),(wrap .i64 (j+1)),(List.set s (Int.toNat i) c))))
  ((Ex N m (a,b,i,(wrap .i64 (j+1)),s))))
 (some (i,s)):=by kernel_rfl
def af8 N b c s:af7 (N+1) (b,c,s)=aW (acG N (s,b,c)) λd=>
 cond (d=(-1))
  (some s)
  (aW (Ex N N (b,c,d,(wrap .i64 (d+1)),s)) λa=>
  cond (((true && true) && true) && (!(l4 a.2)))
   (aW (jm a.2 a.1 (List.length a.2:Int)) λg=>
   aW (WY a.2 a.1 ((List.length a.2:Int) - a.1) 0) λe=>
   aW (jm e 0 a.1) λf=>
   some f)
   none):=by kernel_rfl
def oD:List CO:=[aa1,acn,amd,aot,⟨iP,lI⟩]
noncomputable def oE:FD:=⟨246,Tryz.f246,.z,[.ag [.h j1,.h cj],.h j1],[],[j1,cj,j1],⟨[(4,.k (.ow 900)),(5,.h j1)],[(900,.arr 3 j1 true)],[j1,j6]⟩,true,true,[900]⟩
def NF:Nat->Int×A3×Int->Option A6:=mF oD oE
def amf:CO:=cF oD oE NF Tryz.func246
def acM N f a v:NF (N+1) (f,a,v)=aW (GG N (f,a,[v])) λb=>
 cond (!(b=0))
  (some (b,[]))
  (aW (Eo N (f,a,v)) λc=>
  aW (ba a c) λd=>
  aW (Vc N d) λe=>
  aW (af7 N (f,a,e)) λg=>
  aW (ec N g) λh=>
  some (0,h)):=by kernel_rfl
def yc:List CO:=[ahH,ahE,amf,Td,⟨fJ,fK⟩,⟨lG,lg⟩]
noncomputable def yd:FD:=⟨200,Tryz.f200,.z,[.ag [.h j1,.h c5],.h j1,.h j1,.h j1],[],[j1,c5,j1,j1,j1],⟨[(8,.k (.ow 900)),(9,.h j1)],[(900,.arr 3 j1 true)],[j1,j6]⟩,true,true,[900]⟩
def Ey:Nat->Int×fx×Int×Int×Int->Option A6:=mF yc yd
def ajt:CO:=cF yc yd Ey Tryz.func200
def Hl N g e u v f:Ey (N+1) (g,e,u,v,f)=aW (Ew N (g,e,u,v)) λb=>
 cond (b.2=1)
  (some (b.2,[]))
  (cond (b.2=10)
   (some (b.2,[]))
   (aW (Nq N (g,e,f)) λc=>
   aW (NF N (c.2.1,c.2.2,u)) λa=>
   aW (NF N (c.2.1,c.2.2,v)) λd=>
   aW (DK N (a.2,v)) λk=>
   cond k
    (some (5,[]))
    (aW (cI N ((List.length a.2:Int),(List.length d.2:Int))) λl=>
    aW (ba a.2 0) λn=>
    aW (ba a.2 0) λm=>
    aW (ba d.2 0) λo=>
    aW (ba d.2 0) λh=>
    aW (cI N (m,h)) λi=>
    aW (gG N [l,i]) λj=>
    cond (j<0)
     (some (0,a.2))
     (some (0,d.2))))):=by kernel_rfl
def jh:List CO:=[]
noncomputable def ji:FD:=⟨201,Tryz.f201,.z,[.ag [.h j1,.h j1,.h j1,.h .b],.k (.pt 4294967296 0)],[(4294967296,.box 197 [.k (.mp 4294967297)]),(4294967297,.mp (.int .i64) j1 j1)],[j1,j1,j1,.b,cy],⟨[(3,.h j1)],[(4294967297,.mp (.int .i64) j1 j1),(4294967296,.box 197 [.k (.mp 4294967297)])],[j1,cy]⟩,true,true,[4294967297,4294967296]⟩
def Vg:Nat->Int×Int×Int×Bool×A1->Option (Int×A1):=mF jh ji
def amg:CO:=cF jh ji Vg Tryz.func201
def NG N t a b c h:Vg (N+1) (t,a,b,c,h)=some ((wrap .i64 ((Option.getD (bJ j1 h t) 0)+(Option.getD (bJ j1 h a) 0))),h):=by kernel_rfl
def fj:List CO:=[]
noncomputable def fm:FD:=⟨202,Tryz.f202,.z,[.k (.pt 4294967296 0),.pe 4294967297 4 0],[(4294967296,.box 246 [.h j1,.k (.ow 4294967297),.h .b,.h .b,.h j1,.h j1,.h j1,.h j1]),(4294967297,.arr 127 qj true)],[j1,j1,.b,.b,j1,j1,j1,j1,c5],⟨[],[(4294967296,.box 246 [.h j1,.k (.ow 4294967297),.h .b,.h .b,.h j1,.h j1,.h j1,.h j1]),(4294967297,.arr 127 qj true)],[j1,.b,.b,j1,j1,j1,j1,c5]⟩,true,true,[4294967296,4294967297]⟩
def NH:Nat->Int×Int×Bool×Bool×Int×Int×Int×Int×fx->Option (Int×Bool×Bool×Int×Int×Int×Int×fx):=mF fj fm
def amh:CO:=cF fj fm NH Tryz.func202
def acN N t s d e f g h a b:NH (N+1) (t,s,d,e,f,g,h,a,b)=aW (ba b t) λi=>
 aW (ba b t) λc=>
 some (s,d,e,f,g,(wrap .i64 (h+1)),a,(List.set b (Int.toNat t) (c.1,c.2.1,(if((wrap .i64 (i.2.2.1+1))<a)then(wrap .i64 (i.2.2.1+1))else a),c.2.2.2))):=by kernel_rfl
def dj:List CO:=[ajt,amg,amh]
def Vh:PS:=⟨[(0,.k (.pt 4294967296 0)),(14,.cl (.func 201) [] [.k (.pt 900 0)]),(86,.k (.ow 901)),(87,.h j1),(88,.h j1)],[(4294967296,.box 246 [.h j1,.k (.ow 4294967297),.h .b,.h .b,.h j1,.h j1,.h j1,.h j1]),(900,.box 197 [.k (.mp 902)]),(901,.qr 306 4294967297 4),(4294967297,.arr 127 qj true),(902,.mp (.int .i64) j1 j1)],[j1,j1,j1,.b,.b,j1,j1,j1,j1,j6,c5,cy]⟩
def Vi:List (Exit×PS):=[((.exit 5),⟨[],[(4294967296,.box 246 [.h j1,.k (.ow 4294967297),.h .b,.h .b,.h j1,.h j1,.h j1,.h j1]),(4294967297,.arr 127 qj true)],[j1,.b,.b,j1,j1,j1,j1,c5]⟩),(.ret,⟨[(8,.h .b)],[(4294967296,.box 246 [.h j1,.k (.ow 4294967297),.h .b,.h .b,.h j1,.h j1,.h j1,.h j1]),(4294967297,.arr 127 qj true)],[.b,j1,.b,.b,j1,j1,j1,j1,c5]⟩)]
def Vj:Pl:=.z
def tw:Nat->Nat->Int×Int×Int×Bool×Bool×Int×Int×Int×Int×aX×fx×A1->Option ((Int×Bool×Bool×Int×Int×Int×Int×fx)⊕(Bool×Int×Bool×Bool×Int×Int×Int×Int×fx)):=gh dj Tryz.f149 [1,1,1,1,1,1,1,0,1,0,0] Vh Vi Vj
def Vk:PS:=⟨[(0,.k (.pt 4294967296 0)),(3,.h j1),(14,.cl (.func 201) [] [.k (.pt 900 0)]),(15,.k (.ow 902)),(47,.h j1),(48,.h j1)],[(4294967296,.box 246 [.h j1,.k (.ow 4294967297),.h .b,.h .b,.h j1,.h j1,.h j1,.h j1]),(900,.box 197 [.k (.mp 901)]),(902,.qr 306 4294967297 4),(4294967297,.arr 127 qj true),(901,.mp (.int .i64) j1 j1)],[j1,j1,j1,j1,.b,.b,j1,j1,j1,j1,j6,c5,cy]⟩
def Vl:List (Exit×PS):=[((.exit 2),⟨[(0,.k (.pt 4294967296 0)),(14,.cl (.func 201) [] [.k (.pt 900 0)]),(15,.k (.ow 901))],[(4294967296,.box 246 [.h j1,.k (.ow 4294967297),.h .b,.h .b,.h j1,.h j1,.h j1,.h j1]),(900,.box 197 [.k (.mp 902)]),(901,.qr 306 4294967297 4),(4294967297,.arr 127 qj true),(902,.mp (.int .i64) j1 j1)],[j1,.b,.b,j1,j1,j1,j1,j6,c5,cy]⟩)]
def Vm:Pl:=.z
def pK:Nat->Nat->Int×Int×Int×Int×Bool×Bool×Int×Int×Int×Int×aX×fx×A1->Option (Int×Bool×Bool×Int×Int×Int×Int×aX×fx×A1):=gh dj Tryz.f149 [1,1,1,1,1,1,0,1,0,0] Vk Vl Vm
def Vn:PS:=⟨[(0,.k (.pt 4294967296 0)),(3,.h j1),(11,.k (.pt 900 0)),(32,.k (.ow 901)),(33,.h j1),(34,.h j1)],[(4294967296,.box 246 [.h j1,.k (.ow 4294967297),.h .b,.h .b,.h j1,.h j1,.h j1,.h j1]),(900,.box 197 [.k (.mp 902)]),(901,.arr 3 j1 true),(4294967297,.arr 127 qj true),(902,.mp (.int .i64) j1 j1)],[j1,j1,j1,j1,.b,.b,j1,j1,j1,j1,j6,c5,cy]⟩
def Vo:List (Exit×PS):=[((.exit 0),⟨[(0,.k (.pt 4294967296 0)),(3,.h j1),(11,.k (.pt 900 0))],[(4294967296,.box 246 [.h j1,.k (.ow 4294967297),.h .b,.h .b,.h j1,.h j1,.h j1,.h j1]),(900,.box 197 [.k (.mp 901)]),(4294967297,.arr 127 qj true),(901,.mp (.int .i64) j1 j1)],[j1,j1,.b,.b,j1,j1,j1,j1,c5,cy]⟩)]
def Vp:Pl:=.z
def Cu:Nat->Nat->Int×Int×Int×Int×Bool×Bool×Int×Int×Int×Int×aX×fx×A1->Option (Int×Int×Bool×Bool×Int×Int×Int×Int×fx×A1):=gh dj Tryz.f149 [1,1,1,0,1,0,0] Vn Vo Vp
noncomputable def gP:FD:=⟨149,Tryz.f149,(.n .z (.n .z (.n .z (.n (.n .z (.n (.loop Vn Vo Vp) .z)) (.n .z (.n .z (.n (.n .z (.n (.loop Vk Vl Vm) .z)) (.n (.n .z (.n (.loop Vh Vi Vj) .z)) .z)))))))),[.k (.pt 4294967296 0),.h j1,.h j1,.h j1],[(4294967296,.box 246 [.h j1,.k (.ow 4294967297),.h .b,.h .b,.h j1,.h j1,.h j1,.h j1]),(4294967297,.arr 127 qj true)],[j1,j1,j1,j1,.b,.b,j1,j1,j1,j1,c5],⟨[(8,.h .b)],[(4294967297,.arr 127 qj true),(4294967296,.box 246 [.h j1,.k (.ow 4294967297),.h .b,.h .b,.h j1,.h j1,.h j1,.h j1])],[.b,c5,j1,.b,.b,j1,j1,j1,j1]⟩,true,true,[4294967297,4294967296]⟩
def Vq:Nat->Int×Int×Int×Int×Bool×Bool×Int×Int×Int×Int×fx->Option (Bool×fx×Int×Bool×Bool×Int×Int×Int×Int):=mF dj gP
def ami:CO:=cF dj gP Vq Tryz.func149
def Hm N m o e s f k l n g h i a q:tw N (m+1) (o,e,s,f,k,l,n,g,h,i,a,q)=cond (e<o)
 (aW (ba i e) λu=>
 aW (ba i e) λc=>
 aW (ba a c) λp=>
 aW (Vg N (p.1,p.2.1,p.2.2.1,p.2.2.2,q)) λj=>
 cond (j.1=0)
  ((tw N m (o,(wrap .i64 (e+1)),s,f,k,l,n,g,h,i,a,j.2)))
  (cond (j.1=2)
   (aW (NH N (c,s,f,k,l,n,g,h,a)) λd=>
   (tw N m (o,(wrap .i64 (e+1)),d.1,d.2.1,d.2.2.1,d.2.2.2.1,d.2.2.2.2.1,d.2.2.2.2.2.1,d.2.2.2.2.2.2.1,i,d.2.2.2.2.2.2.2,j.2)))
   (cond (j.1=1)
    (aW (ba a c) λb=>
    aW (ba (List.set a (Int.toNat c) (b.1,b.2.1,b.2.2.1,true)) c) λr=>
    aW (ba (List.set a (Int.toNat c) (b.1,b.2.1,b.2.2.1,true)) c) λt=>
    some (.inr (true,s,f,true,r.1,t.2.1,g,h,(List.set a (Int.toNat c) (b.1,b.2.1,b.2.2.1,true)))))
    ((tw N m (o,(wrap .i64 (e+1)),s,f,k,l,n,g,h,i,a,j.2))))))
 (some (.inl (s,f,k,l,n,g,h,a))):=by kernel_rfl
def Hn N m k l a s e f g h i j d b n:pK N (m+1) (k,l,a,s,e,f,g,h,i,j,d,b,n)=cond (a<l)
 (aW (ba b a) λu=>
 aW (ba b a) λq=>
 cond (!(q.2.2.1=k))
  ((pK N m (k,l,(wrap .i64 (a+1)),s,e,f,g,h,i,j,d,b,n)))
  (aW (ba b a) λr=>
  cond (!r.2.2.2)
   (aW (eN 8 d [a]) λt=>
   (pK N m (k,l,(wrap .i64 (a+1)),s,e,f,g,h,i,j,t,b,n)))
   (aW (ba b a) λo=>
   aW (Vg N (o.1,o.2.1,o.2.2.1,o.2.2.2,n)) λp=>
   cond (p.1=2)
    (aW (NH N (a,s,e,f,g,h,i,j,b)) λc=>
    (pK N m (k,l,(wrap .i64 (a+1)),c.1,c.2.1,c.2.2.1,c.2.2.2.1,c.2.2.2.2.1,c.2.2.2.2.2.1,c.2.2.2.2.2.2.1,d,c.2.2.2.2.2.2.2,p.2)))
    ((pK N m (k,l,(wrap .i64 (a+1)),s,e,f,g,h,i,j,d,b,p.2))))))
 (some (s,e,f,g,h,i,j,d,b,n)):=by kernel_rfl
def Ho N m i j a s c d e f g h b k l:Cu N (m+1) (i,j,a,s,c,d,e,f,g,h,b,k,l)=cond (a<j)
 (aW (ba b a) λo=>
 aW (ba b a) λn=>
 (Cu N m (i,j,(wrap .i64 (a+1)),s,c,d,e,f,g,h,b,k,(dS j1 l n 1))))
 (some (i,s,c,d,e,f,g,h,k,l)):=by kernel_rfl
def acO N u v e s f g i j k l h:Vq (N+1) (u,v,e,s,f,g,i,j,k,l,h)=aW (Ey N (s,h,u,v,e)) λm=>
 aW (Cu N N (e,(List.length m.2:Int),0,s,f,g,i,j,k,l,m.2,h,[])) λa=>
 aW (pK N N (a.1,(List.length a.2.2.2.2.2.2.2.2.1:Int),0,a.2.1,a.2.2.1,a.2.2.2.1,a.2.2.2.2.1,a.2.2.2.2.2.1,a.2.2.2.2.2.2.1,a.2.2.2.2.2.2.2.1,[],a.2.2.2.2.2.2.2.2.1,a.2.2.2.2.2.2.2.2.2)) λb=>
 aW (tw N N ((List.length b.2.2.2.2.2.2.2.1:Int),0,b.1,b.2.1,b.2.2.1,b.2.2.2.1,b.2.2.2.2.1,b.2.2.2.2.2.1,b.2.2.2.2.2.2.1,b.2.2.2.2.2.2.2.1,b.2.2.2.2.2.2.2.2.1,b.2.2.2.2.2.2.2.2.2)) λn=>
 (match n with
 |.inl d=>some (false,d.2.2.2.2.2.2.2,d.1,d.2.1,d.2.2.1,d.2.2.2.1,d.2.2.2.2.1,d.2.2.2.2.2.1,d.2.2.2.2.2.2.1)
 |.inr c=>some (c.1,c.2.2.2.2.2.2.2.2,c.2.1,c.2.2.1,c.2.2.2.1,c.2.2.2.2.1,c.2.2.2.2.2.1,c.2.2.2.2.2.2.1,c.2.2.2.2.2.2.2.1)):=by kernel_rfl
def r8:List CO:=[ahH,amc,aaN,ami]
def NI:PS:=⟨[(6,.k (.pt 900 0)),(7,.k (.pt 901 0)),(11,.k (.pt 902 0)),(12,.k (.pt 903 0)),(13,.h j1)],[(900,.box 24 [.h j1,.k .nil]),(901,.box 179 [.h .b,.h .b,.h j1,.h j1,.h j1]),(902,.box 127 [.h j1,.h j1,.h j1,.h .b]),(903,.box 246 [.h j1,.k (.ow 904),.h .b,.h .b,.h j1,.h j1,.h j1,.h j1]),(904,.arr 127 qj true)],[j1,j1,.b,.b,j1,j1,j1,j1,j1,j1,.b,j1,.b,.b,j1,j1,j1,j1,c5]⟩
def NJ:List (Exit×PS):=[((.exit 0),⟨[(6,.k (.pt 900 0)),(7,.k (.pt 901 0)),(12,.k (.pt 902 0))],[(900,.box 24 [.h j1,.k .nil]),(901,.box 179 [.h .b,.h .b,.h j1,.h j1,.h j1]),(902,.box 246 [.h j1,.k (.ow 903),.h .b,.h .b,.h j1,.h j1,.h j1,.h j1]),(903,.arr 127 qj true)],[j1,.b,.b,j1,j1,j1,j1,.b,.b,j1,j1,j1,j1,c5]⟩)]
def NK:Pl:=.z
def ye:Nat->Nat->Int×Int×Bool×Bool×Int×Int×Int×Int×Int×Int×Bool×Int×Bool×Bool×Int×Int×Int×Int×fx->Option (Int×Bool×Bool×Int×Int×Int×Int×Bool×Bool×Int×Int×Int×Int×fx):=gh r8 Tryz.f78 [1,1,1,1,1,0,1,0,0] NI NJ NK
noncomputable def Bb:FD:=⟨78,Tryz.f78,(.n .z (.n .z (.n .z (.n .z (.n .z (.n (.n .z (.n (.loop NI NJ NK) .z)) .z)))))),[.ag [.h j1,.h c5],.h j1,.h j1],[],[j1,c5,j1,j1],⟨[(6,.k (.pt 900 0)),(7,.k (.pt 901 0)),(8,.h j1)],[(900,.box 24 [.h j1,.h c5]),(901,.box 179 [.h .b,.h .b,.h j1,.h j1,.h j1])],[j1,j1,c5,.b,.b,j1,j1,j1]⟩,false,false,[]⟩
def Jo:Nat->Int×fx×Int×Int->Option (Int×Int×fx×Bool×Bool×Int×Int×Int):=mF r8 Bb
def aju:CO:=cF r8 Bb Jo Tryz.func78
def QD N m o b c d e f g t q u r s h i j k l n p:ye N (m+1) (o,b,c,d,e,f,g,t,q,u,r,s,h,i,j,k,l,n,p)=cond r
 (cond (0<=o)
  (aW (Vq N (t,q,o,s,h,i,j,k,l,n,p)) λa=>
  cond (!a.1)
   ((ye N m ((wrap .i64 (o - 1)),b,c,d,e,f,g,t,q,u,r,a.2.2.1,a.2.2.2.1,a.2.2.2.2.1,a.2.2.2.2.2.1,a.2.2.2.2.2.2.1,a.2.2.2.2.2.2.2.1,a.2.2.2.2.2.2.2.2,a.2.1)))
   (some (b,c,d,e,f,g,a.2.2.1,a.2.2.2.1,a.2.2.2.2.1,a.2.2.2.2.2.1,a.2.2.2.2.2.2.1,a.2.2.2.2.2.2.2.1,a.2.2.2.2.2.2.2.2,a.2.1)))
  (some (b,c,d,e,f,g,s,h,i,j,k,l,n,p)))
 (some (b,c,d,e,f,g,s,h,i,j,k,l,n,p)):=by kernel_rfl
def Yd N g a u v:Jo (N+1) (g,a,u,v)=aW (Ew N (g,a,u,v)) λd=>
 cond (!(d.2=0))
  (some (d.2,g,a,false,false,0,0,0))
  (aW (ba a d.1) λc=>
  aW (jm a 0 d.1) λe=>
  aW (jm a (wrap .i64 (d.1+1)) (List.length a:Int)) λf=>
  aW (Vb N [e,f]) λh=>
  aW (DH N g) λi=>
  aW (ye N N (c.2.2.1,0,false,false,0,0,0,c.1,c.2.1,c.2.2.1,c.2.2.2,g,c.2.2.2,false,0,0,0,i,h)) λb=>
  some (0,b.2.2.2.2.2.2.1,b.2.2.2.2.2.2.2.2.2.2.2.2.2,b.2.2.2.2.2.2.2.1,b.2.2.2.2.2.2.2.2.1,b.2.2.2.2.2.2.2.2.2.1,b.2.2.2.2.2.2.2.2.2.2.1,b.2.2.2.2.2.2.2.2.2.2.2.1)):=by kernel_rfl
def pL:List CO:=[aci,aju]
def NL:PS:=⟨[(2,.k (.pt 900 0)),(4,.k (.pt 901 0)),(9,.k (.ow 904)),(10,.k (.pt 902 0)),(27,.k (.ow 903)),(28,.h j1),(29,.h j1)],[(900,.box 24 [.h j1,.h c5]),(901,.box 24 [.h j1,.k .nil]),(904,.arr 179 j21 true),(902,.box 24 [.h j1,.h c5]),(903,.arr 46 j5 true)],[j1,j1,j1,c5,j1,j23,j1,c5,cy]⟩
def NM:List (Exit×PS):=[((.exit 0),⟨[(4,.k (.pt 900 0)),(9,.k (.ow 901)),(10,.k (.pt 902 0))],[(900,.box 24 [.h j1,.k .nil]),(901,.arr 179 j21 true),(902,.box 24 [.h j1,.h c5])],[j1,j23,j1,c5]⟩),(.ret,⟨[(4,.k (.pt 900 0)),(5,.k .nil),(6,.h j1)],[(900,.box 24 [.h j1,.h c5])],[j1,j1,c5]⟩)]
def NN:Pl:=.z
def yf:Nat->Nat->Int×Int×Int×fx×Int×A13×Int×fx×A1->Option ((Int×A13×Int×fx)⊕(Int×Int×fx)):=gh pL Tryz.f29 [1,1,1,1,1,0,1,0,0] NL NM NN
noncomputable def yg:FD:=⟨29,Tryz.f29,(.n .z (.n .z (.n .z (.n .z (.n .z (.n (.n .z (.n (.loop NL NM NN) .z)) .z)))))),[.ag [.h j1,.h c5],.h cy],[],[j1,c5,cy],⟨[(4,.k (.pt 900 0)),(5,.k (.ow 901)),(6,.h j1)],[(900,.box 24 [.h j1,.h c5]),(901,.arr 179 j21 true)],[j1,j1,c5,j23]⟩,true,false,[901]⟩
def pM:Nat->Int×fx×A1->Option (Int×Int×fx×A13):=mF pL yg
def ajv:CO:=cF pL yg pM Tryz.func29
def vz N m h b g f i all d e c:yf N (m+1) (h,b,g,f,i,all,d,e,c)=cond (b<h)
 (aW (ba c b) λl=>
 aW (ba c b) λj=>
 aW (Jo N (d,e,j.1,j.2)) λa=>
 cond (!(a.1=0))
  (some (.inr (a.1,g,f)))
  (aW (eN 32 all [(a.2.2.2.1,a.2.2.2.2.1,(a.2.2.2.2.2.1,a.2.2.2.2.2.2.1),a.2.2.2.2.2.2.2)]) λk=>
  (yf N m (h,(wrap .i64 (b+1)),g,f,i,k,a.2.1,a.2.2.1,c))))
 (some (.inl (i,all,d,e))):=by kernel_rfl
def Hq N g a l:pM (N+1) (g,a,l)=aW (zM N (g,a,l)) λb=>
 cond (!(b.1=0))
  (some (b.1,g,a,[]))
  (aW (yf N N ((List.length b.2:Int),0,g,a,0,[],g,a,b.2)) λe=>
  (match e with
  |.inl c=>some (0,c.2.2.1,c.2.2.2,c.2.1)
  |.inr d=>some (d.1,d.2.1,d.2.2,[]))):=by kernel_rfl
def mh:List CO:=[acm,acq,ahG,ahF]
def Vr:PS:=⟨[(7,.k (.ow 900)),(21,.h j1),(22,.h j1)],[(900,.arr 3 j1 true)],[j1,j1,j6]⟩
def Vs:List (Exit×PS):=[((.exit 0),⟨[(7,.k (.ow 900))],[(900,.arr 3 j1 true)],[j6]⟩)]
def Vt:Pl:=.z
def Cv:Nat->Nat->Int×Int×aX->mC:=gh mh Tryz.f22 [1,1,1,1,0,1,0,0] Vr Vs Vt
noncomputable def r9:FD:=⟨22,Tryz.f22,(.n .z (.n .z (.n .z (.n .z (.n (.n .z (.n (.loop Vr Vs Vt) .z)) .z))))),[.h j1,.h cy],[],[j1,cy],⟨[(4,.k (.ow 900)),(5,.h j1)],[(900,.arr 3 j1 true)],[j1,j6]⟩,true,true,[900]⟩
def Vu:Nat->Int×A1->Option A6:=mF mh r9
def amj:CO:=cF mh r9 Vu Tryz.func22
def Ye N m c a s:Cv N (m+1) (c,a,s)=cond (a<c)
 (aW (Hh N (a,s)) λb=>
 aW (ba b.2 a) λd=>
 aW (ba b.2 a) λe=>
 (Cv N m (c,(wrap .i64 (a+1)),(List.set b.2 (Int.toNat a) b.1))))
 (some s):=by kernel_rfl
def acP N n l:Vu (N+1) (n,l)=aW (Em N (n,l)) λa=>
 cond (!(a=0))
  (some (a,[]))
  (aW (Ep N n) λc=>
  aW (Ny N (l,c)) λb=>
  aW (Cv N N ((List.length b.2:Int),0,b.2)) λd=>
  some (0,d)):=by kernel_rfl
def NO:List CO:=[uw,ab8,amj]
noncomputable def NP:FD:=⟨166,Tryz.f166,.z,[.ag [.h j1,.h c5]],[],[j1,c5],⟨[(2,.k (.ow 900)),(3,.h .b)],[(900,.arr 3 j1 true)],[.b,j6]⟩,true,true,[900]⟩
def QE:Nat->Int×fx->Option A9:=mF NO NP
def ajw:CO:=cF NO NP QE Tryz.func166
def Yf N g a:QE (N+1) (g,a)=aW (mW N (g,a)) λb=>
 cond (!b)
  (some (false,[]))
  (aW (Hc N (g,a)) λc=>
  aW (Vu N (g,c)) λd=>
  some (true,d.2)):=by kernel_rfl
def iC:List CO:=[]
noncomputable def iD:FD:=⟨253,Tryz.f253,.z,[.h j1,.k (.pt 4294967296 0)],[(4294967296,.box 271 [.h j6])],[j1,j6],⟨[(3,.h .b)],[(4294967296,.box 271 [.h j6])],[.b,j6]⟩,true,false,[4294967296]⟩
def acQ:Nat->Int×aX->Option A9:=mF iC iD
def amk:CO:=cF iC iD acQ Tryz.func253
def acR N v a:acQ (N+1) (v,a)=cond (v<0)
 (some (true,a))
 (some ((decide ((List.length a:Int)<=v)),a)):=by kernel_rfl
def bV:List CO:=[amk]
def acS:PS:=⟨[(0,.h j6),(1,.cl (.func 253) [] [.k (.pt 4294967296 0)]),(7,.h j1),(8,.h j1)],[(4294967296,.box 271 [.h j6])],[j6,j1,j1,j6]⟩
def acT:List (Exit×PS):=[((.exit 0),⟨[],[(4294967296,.box 271 [.h j6])],[j6]⟩),(.ret,⟨[(4,.h j1)],[(4294967296,.box 271 [.h j6])],[j1,j6]⟩)]
def acU:Pl:=.z
def Jp:Nat->Nat->aX×Int×Int×aX->Option ((aX)⊕A6):=gh bV Tryz.f116 [1,0,1,0,0] acS acT acU
noncomputable def dh:FD:=⟨116,Tryz.f116,(.n .z (.n (.n .z (.n (.loop acS acT acU) .z)) .z)),[.h j6,.cl (.func 253) [] [.k (.pt 4294967296 0)]],[(4294967296,.box 271 [.h j6])],[j6,j6],⟨[(4,.h j1)],[(4294967296,.box 271 [.h j6])],[j1,j6]⟩,true,false,[4294967296]⟩
def ajx:Nat->aX×aX->Option A6:=mF bV dh
def aou:CO:=cF bV dh ajx as5
def NQ N m s b a f:Jp N (m+1) (s,b,a,f)=cond (a<b)
 (aW (ba s a) λd=>
 aW (acQ N (d,f)) λc=>
 cond c.1
  (some (.inr (a,c.2)))
  ((Jp N m (s,b,(wrap .i64 (a+1)),c.2))))
 (some (.inl f)):=by kernel_rfl
def af9 N s f:ajx (N+1) (s,f)=aW (Jp N N (s,(List.length s:Int),0,f)) λb=>
 (match b with
 |.inl c=>some ((-1),c)
 |.inr a=>some (a.1,a.2)):=by kernel_rfl
def cU:List CO:=[aou]
noncomputable def cV:FD:=⟨48,Tryz.f48,.z,[.h j6,.cl (.func 253) [] [.k (.pt 4294967296 0)]],[(4294967296,.box 271 [.h j6])],[j6,j6],⟨[(4,.h .b)],[(4294967296,.box 271 [.h j6])],[.b,j6]⟩,true,false,[4294967296]⟩
def ajy:Nat->aX×aX->Option A9:=mF cU cV
def aov:CO:=cF cU cV ajy ats
def af_ N s f:ajy (N+1) (s,f)=aW (ajx N (s,f)) λa=>
 some ((decide (0<=a.1)),a.2):=by kernel_rfl
def kT:List CO:=[aov]
noncomputable def kU:FD:=⟨208,Tryz.f208,.z,[.h j6,.h j6],[],[j6,j6],⟨[(4,.h .b)],[],[.b]⟩,false,true,[]⟩
def Hr:Nat->aX×aX->eA:=mF kT kU
def aml:CO:=cF kT kU Hr Tryz.func208
def acV N c a:Hr (N+1) (c,a)=aW (ajy N (a,c)) λb=>
 some (!b.1):=by kernel_rfl
def fX:List CO:=[]
noncomputable def fY:FD:=⟨210,Tryz.f210,.z,[.h j1,.h j1,.k (.pt 4294967296 0),.k (.pt 4294967297 0)],[(4294967296,.box 271 [.h j6]),(4294967297,.box 51 [.h j1,.h j1,.h j1])],[j1,j1,j6,j1,j1,j1],⟨[(6,.h .b)],[(4294967297,.box 51 [.h j1,.h j1,.h j1]),(4294967296,.box 271 [.h j6])],[.b,j1,j1,j1,j6]⟩,true,false,[4294967297,4294967296]⟩
def acW:Nat->Int×Int×aX×Int×Int×Int->Option (Bool×Int×Int×Int×aX):=mF fX fY
def amm:CO:=cF fX fY acW Tryz.func210
def acX N f c a d b e:acW (N+1) (f,c,a,d,b,e)=aW (ba a b) λg=>
 some ((decide (c=g)),d,b,e,a):=by kernel_rfl
def bZ:List CO:=[amm]
def acY:PS:=⟨[(1,.cl (.func 210) [] [.k (.pt 4294967296 0),.k (.pt 4294967297 0)]),(4,.h j1),(7,.h j6),(8,.h j1),(9,.h j1)],[(4294967296,.box 271 [.h j6]),(4294967297,.box 51 [.h j1,.h j1,.h j1])],[j1,j6,j1,j1,j6,j1,j1,j1]⟩
def acZ:List (Exit×PS):=[((.exit 0),⟨[(4,.h j1)],[(4294967296,.box 271 [.h j6]),(4294967297,.box 51 [.h j1,.h j1,.h j1])],[j1,j6,j1,j1,j1]⟩)]
def ac0:Pl:=.z
def Ez:Nat->Nat->Int×aX×Int×Int×aX×Int×Int×Int->Option (Int×aX×Int×Int×Int):=gh bZ Tryz.f209 [1,0,1,0,0] acY acZ ac0
noncomputable def dy:FD:=⟨209,Tryz.f209,(.n .z (.n (.n .z (.n (.loop acY acZ ac0) .z)) .z)),[.h j6,.cl (.func 210) [] [.k (.pt 4294967296 0),.k (.pt 4294967297 0)]],[(4294967296,.box 271 [.h j6]),(4294967297,.box 51 [.h j1,.h j1,.h j1])],[j6,j6,j1,j1,j1],⟨[(4,.h j1)],[(4294967296,.box 271 [.h j6]),(4294967297,.box 51 [.h j1,.h j1,.h j1])],[j1,j6,j1,j1,j1]⟩,true,false,[4294967296,4294967297]⟩
def ac1:Nat->aX×aX×Int×Int×Int->Option (Int×aX×Int×Int×Int):=mF bZ dy
def aow:CO:=cF bZ dy ac1 Tryz.func209
def NR N m n c d b e f g h:Ez N (m+1) (n,c,d,b,e,f,g,h)=cond (b<d)
 (aW (ba c b) λi=>
 aW (acW N (b,i,e,f,g,h)) λa=>
 cond a.1
  ((Ez N m ((wrap .i64 (n+1)),c,d,(wrap .i64 (b+1)),a.2.2.2.2,a.2.1,a.2.2.1,a.2.2.2.1)))
  ((Ez N m (n,c,d,(wrap .i64 (b+1)),a.2.2.2.2,a.2.1,a.2.2.1,a.2.2.2.1))))
 (some (n,e,f,g,h)):=by kernel_rfl
def aga N c b d e f:ac1 (N+1) (c,b,d,e,f)=aW (Ez N N (0,c,(List.length c:Int),0,b,d,e,f)) λa=>
 some (a.1,a.2.1,a.2.2.1,a.2.2.2.1,a.2.2.2.2):=by kernel_rfl
def jj:List CO:=[]
noncomputable def jk:FD:=⟨211,Tryz.f211,.z,[.h j1,.h j1],[],[j1,j1],⟨[(4,.h .b)],[],[.b]⟩,false,true,[]⟩
def ac2:Nat->Int×Int->eA:=mF jj jk
def amn:CO:=cF jj jk ac2 Tryz.func211
def ac3 N v a:ac2 (N+1) (v,a)=some (decide (v=a)):=by kernel_rfl
def dc:List CO:=[amn]
def Vv:PS:=⟨[(1,.k (.v (.func (.func 211) #[] #[]))),(4,.h j1),(7,.h j6),(8,.h j1),(9,.h j1)],[],[j1,j6,j1,j1]⟩
def Vw:List (Exit×PS):=[((.exit 0),⟨[(4,.h j1)],[],[j1]⟩)]
def Vx:Pl:=.z
def yh:Nat->Nat->Int×aX×Int×Int->eR:=gh dc Tryz.f209 [1,0,1,0,0] Vv Vw Vx
noncomputable def eG:FD:=⟨209,Tryz.f209,(.n .z (.n (.n .z (.n (.loop Vv Vw Vx) .z)) .z)),[.h j6,.k (.v (.func (.func 211) #[] #[]))],[],[j6],⟨[(4,.h j1)],[],[j1]⟩,false,true,[]⟩
def NS:Nat->aX->eR:=mF dc eG
def amo:CO:=cF dc eG NS Tryz.func209
def Hs N m n b c a:yh N (m+1) (n,b,c,a)=cond (a<c)
 (aW (ba b a) λd=>
 aW (ac2 N (a,d)) λe=>
 cond e
  ((yh N m ((wrap .i64 (n+1)),b,c,(wrap .i64 (a+1)))))
  ((yh N m (n,b,c,(wrap .i64 (a+1))))))
 (some n):=by kernel_rfl
def ac4 N c:NS (N+1) c=aW (yh N N (0,c,(List.length c:Int),0)) λa=>
 some a:=by kernel_rfl
def gX:List CO:=[aml,aow,amo]
def Vy:PS:=⟨[(2,.k (.pt 900 0)),(3,.k (.pt 901 0)),(7,.h j1)],[(900,.box 271 [.h j6]),(901,.box 51 [.h j1,.h j1,.h j1])],[j1,j6,j1,j1,j1]⟩
def Vz:List (Exit×PS):=[(.normal,⟨[(2,.k (.pt 900 0)),(3,.k (.pt 901 0)),(7,.h j1),(31,.h .b)],[(900,.box 271 [.h j6]),(901,.box 51 [.h j1,.h j1,.h j1])],[j1,.b,j6,j1,j1,j1]⟩)]
def VA:Pl:=.z
def VB:Nat->Nat->Int×aX×Int×Int×Int->Option (Int×Bool×aX×Int×Int×Int):=jnF gX Tryz.f167 [1,0,1,0,1,1,0] Vy Vz VA
noncomputable def jZ:FD:=⟨167,Tryz.f167,(.n .z (.n (.n .z (.n (.n .z (.n .z (.n (.join Vy Vz VA) .z))) .z)) .z)),[.h j6,.ag [.h j1,.h j1,.h j1]],[],[j6,j1,j1,j1],⟨[(4,.h j1),(5,.h j1)],[],[j1,j1]⟩,false,true,[]⟩
def VC:Nat->aX×Int×Int×Int->Pk:=mF gX jZ
def amp:CO:=cF gX jZ VC Tryz.func167
def Yg N m b c a d e:VB N (m+1) (b,c,a,d,e)=cond (b=2)
 (some (b,true,c,a,d,e))
 (some (b,(decide (b=3)),c,a,d,e)):=by kernel_rfl
def ac5 N c a d e:VC (N+1) (c,a,d,e)=cond (a=1)
 (aW (Hr N (c,[d,e])) λf=>
 cond (!f)
  (some (0,10))
  (aW (ba c d) λg=>
  aW (ba c e) λh=>
  cond (g=h)
   (some (1,0))
   (some (0,0))))
 (aW (VB N N (a,c,a,d,e)) λb=>
 cond b.2.1
  (aW (Hr N (b.2.2.1,[b.2.2.2.2.1])) λi=>
  cond (!i)
   (some (0,10))
   (cond (b.2.2.2.1=2)
    (aW (ba b.2.2.1 b.2.2.2.2.1) λj=>
    some (j,0))
    (aW (ac1 N (b.2.2.1,b.2.2.1,b.2.2.2.1,b.2.2.2.2.1,b.2.2.2.2.2)) λk=>
    some (k.1,0))))
  (cond (b.1=4)
   (aW (NS N b.2.2.1) λl=>
   some (l,0))
   (some (0,1)))):=by kernel_rfl
def nL:List CO:=[ajw,amp]
def VD:PS:=⟨[(6,.k (.ow 900)),(8,.k (.ow 901)),(20,.h pv),(21,.h j1),(22,.h j1)],[(900,.arr 3 j1 true),(901,.arr 3 j1 true)],[pv,j1,j1,j6,j6]⟩
def VE:List (Exit×PS):=[((.exit 0),⟨[(8,.k (.ow 900))],[(900,.arr 3 j1 true)],[j6]⟩),(.ret,⟨[(4,.k .nil),(5,.h j1)],[],[j1]⟩)]
def VF:Pl:=.z
def Cw:Nat->Nat->(List A4)×Int×Int×aX×aX->Option ((aX)⊕(Int)):=gh nL Tryz.f98 [1,1,1,1,0,1,0,0] VD VE VF
noncomputable def uV:FD:=⟨98,Tryz.f98,(.n .z (.n .z (.n .z (.n .z (.n (.n .z (.n (.loop VD VE VF) .z)) .z))))),[.ag [.h j1,.h c5],.h pv],[],[j1,c5,pv],⟨[(4,.k (.ow 900)),(5,.h j1)],[(900,.arr 3 j1 true)],[j1,j6]⟩,true,true,[900]⟩
def uW:Nat->Int×fx×(List A4)->Option A6:=mF nL uV
def amq:CO:=cF nL uV uW Tryz.func98
def Ht N m d e a c b:Cw N (m+1) (d,e,a,c,b)=cond (a<e)
 (aW (ba d a) λf=>
 aW (VC N (c,f.1,f.2.1,f.2.2)) λg=>
 cond (!(g.2=0))
  (some (.inr g.2))
  (aW (eN 8 b [g.1]) λh=>
  (Cw N m (d,e,(wrap .i64 (a+1)),c,h))))
 (some (.inl b)):=by kernel_rfl
def ac6 N g a l:uW (N+1) (g,a,l)=aW (QE N (g,a)) λb=>
 cond (!b.1)
  (some (1,[]))
  (aW (Cw N N (l,(List.length l:Int),0,b.2,[])) λc=>
  (match c with
  |.inl d=>some (0,d)
  |.inr e=>some (e,[]))):=by kernel_rfl
def EA:List CO:=[]
noncomputable def EB:FD:=⟨6,Tryz.f6,.z,[],[],[],⟨[(0,.k (.pt 900 0))],[(900,.box 42 [.h j1,.h j1,.h j1,.h j1,.h cy])],[j1,j1,j1,j1,cy]⟩,false,false,[]⟩
def zQ:Nat->Unit->Option (Int×Int×Int×Int×A1):=mF EA EB
def ac7:CO:=cF EA EB zQ Tryz.func6
def Yh N:zQ (N+1) ()=some (8,3,2,3,[(0,1),(1,0),(2,0)]):=by kernel_rfl
def pN:List CO:=[]
def NT:PS:=⟨[(2,.k (.pt 900 0)),(3,.k (.pt 901 0)),(5,.h j1)],[(900,.box 24 [.h j1,.h c5]),(901,.box 24 [.h j1,.h c5])],[j1,j1,c5,j1,c5]⟩
def NU:List (Exit×PS):=[((.exit 0),⟨[],[],[]⟩),(.ret,⟨[(4,.h .b)],[],[.b]⟩)]
def NV:Pl:=.z
def yi:Nat->Nat->Int×Int×fx×Int×fx->Option ((Unit)⊕(Bool)):=gh pN Tryz.f8 [1,1,0,1,0,0] NT NU NV
noncomputable def yj:FD:=⟨8,Tryz.f8,(.n .z (.n .z (.n (.n .z (.n (.loop NT NU NV) .z)) .z))),[.ag [.h j1,.h c5],.ag [.h j1,.h c5]],[],[j1,c5,j1,c5],⟨[(4,.h .b)],[],[.b]⟩,false,true,[]⟩
def zT:Nat->Int×fx×Int×fx->eA:=mF pN yj
def QF:CO:=cF pN yj zT Tryz.func8
def EC N m i a c b f:yi N (m+1) (i,a,c,b,f)=cond (i<(List.length c:Int))
 (aW (ba c i) λd=>
 aW (ba f i) λe=>
 cond (!((decide (d.1=e.1)) && ((decide (d.2.1=e.2.1)) && ((decide (d.2.2.1=e.2.2.1)) && (d.2.2.2==e.2.2.2)))))
  (some (.inr false))
  ((yi N m ((wrap .i64 (i+1)),a,c,b,f))))
 (some (.inl ())):=by kernel_rfl
def Yi N a c b d:zT (N+1) (a,c,b,d)=cond (!(a=b))
 (some false)
 (cond (!((List.length c:Int)=(List.length d:Int)))
  (some false)
  (aW (yi N N (0,a,c,b,d)) λe=>
  (match e with
  |.inl g=>some true
  |.inr f=>some f))):=by kernel_rfl
def yk:List CO:=[QF]
noncomputable def yl:FD:=⟨7,Tryz.f7,.z,[.ag [.h j1,.h c5,.h j1,.h j1],.ag [.h j1,.h c5,.h j1,.h j1]],[],[j1,c5,j1,j1,j1,c5,j1,j1],⟨[(4,.h .b)],[],[.b]⟩,false,true,[]⟩
def Jq:Nat->Int×fx×Int×Int×Int×fx×Int×Int->eA:=mF yk yl
def ac8:CO:=cF yk yl Jq Tryz.func7
def Yj N a c d e b f g h:Jq (N+1) (a,c,d,e,b,f,g,h)=aW (zT N (a,c,b,f)) λi=>
 cond i
  (cond (d=g)
   (some (decide (e=h)))
   (some false))
  (some false):=by kernel_rfl
def pP:List CO:=[]
def NW:PS:=⟨[(0,.h j6),(1,.h j6),(5,.h j1)],[],[j6,j6,j1]⟩
def NX:List (Exit×PS):=[((.exit 0),⟨[],[],[]⟩),(.ret,⟨[(4,.h .b)],[],[.b]⟩)]
def NY:Pl:=.z
def ym:Nat->Nat->aX×aX×Int->Option ((Unit)⊕(Bool)):=gh pP Tryz.f9 [1,1,0,1,0,0] NW NX NY
noncomputable def yn:FD:=⟨9,Tryz.f9,(.n .z (.n .z (.n (.n .z (.n (.loop NW NX NY) .z)) .z))),[.h j6,.h j6],[],[j6,j6],⟨[(4,.h .b)],[],[.b]⟩,false,true,[]⟩
def Jr:Nat->aX×aX->eA:=mF pP yn
def ac9:CO:=cF pP yn Jr Tryz.func9
def ED N m a b i:ym N (m+1) (a,b,i)=cond (i<(List.length a:Int))
 (aW (ba a i) λc=>
 aW (ba b i) λd=>
 cond (!(c=d))
  (some (.inr false))
  ((ym N m (a,b,(wrap .i64 (i+1))))))
 (some (.inl ())):=by kernel_rfl
def Yk N a b:Jr (N+1) (a,b)=cond (!((List.length a:Int)=(List.length b:Int)))
 (some false)
 (aW (ym N N (a,b,0)) λc=>
 (match c with
 |.inl e=>some true
 |.inr d=>some d)):=by kernel_rfl
section
def ac_(e:Int)(f:e≠0):PCX Tryz.prog 97 [] [.v (.int .i64 e)] [{v:=mG e,recovered:=false}]:=by
 refine⟨⟨Tryz.f97,auf,by kernel_rfl,by kernel_rfl⟩,λB Rd e0 w d g a=>?_⟩;obtain⟨v,i,k⟩:=a.get (j:=0) (c:=.v (.int .i64 e)) rfl;obtain rfl:=k.bN;have:d=[.int .i64 e]:=by
  match d,a.1,i with
  |[u],_,h=>simpa using h
 subst this;exact(aaA e w f).mono λx l b=>⟨b.1,e0,b.2▸g.nil⟩
noncomputable def yo:FD:=⟨97,Tryz.f97,.z,[.h (.i .i64)],[],[.i .i64],⟨[],[],[]⟩,false,true,[]⟩
noncomputable def dP:Nat->Int->Option Unit:=mF [] yo
noncomputable def Js:CO:=cF [] yo dP auf
def qw N e:dP (N+1) e=cond (!(e=0)) none (some ()):=by kernel_rfl
noncomputable def Jt:List CO:=[al6,Qz,Js,ajr,ajv,amq]
noncomputable def Ju:FD:=⟨40,Tryz.f40,.z,[.k (.pt 4294967296 0),.ag [.h j1,.h cy,.h pv],.ag [.h j1,.h j1,.h j1,.h j1,.h cy]],[(4294967296,.box 123 [.h j1,.h c5,.h j1,.h j1,.h j1,.h j1,.h j6])],[j1,cy,pv,j1,j1,j1,j1,cy,j1,c5,j1,j1,j1,j1,j6],⟨[],[(4294967296,.box 123 [.h j1,.h c5,.h j1,.h j1,.h j1,.h j1,.h j6])],[j1,c5,j1,j1,j1,j1,j6]⟩,true,false,[4294967296]⟩
noncomputable def zU:Nat->ky Ju.cs->Option (ky Ju.rs.c):=mF Jt Ju
def Yl N k p q l m g P j n b d f e i h:zU (N+1) (k,p,q,l,m,g,P,j,n,b,d,f,e,i,h)=
 aW (oC N (n,b,k,p,q,l,m,g,P,j)) λc=>aW (dP N c.2.1) λ_=>
 aW (kj N (wrap .i64 (((c.2.2.2.1.length:Nat):Int)+((c.2.2.2.2.length:Nat):Int)),g,P,j)) λo=>aW (dP N o.2.1) λ_=>
 cond (c.2.2.1=1)
  (aW (mg N (n,b,c.2.2.2.1)) λa=>aW (dP N a.2.1) λ_=>some (a.2.2.1,a.2.2.2,wrap .i64 (d+1),wrap .i64 (f+wrap .i64 (c.1+o.1)),e,a.1,h))
  (cond (c.2.2.1=2)
   (aW (pM N (n,b,c.2.2.2.1)) λa=>aW (dP N a.1) λ_=>some (a.2.1,a.2.2.1,wrap .i64 (d+1),wrap .i64 (f+wrap .i64 (c.1+o.1)),e,((c.2.2.2.1.length:Nat):Int),h))
   (cond (c.2.2.1=3)
    (aW (uW N (n,b,c.2.2.2.2)) λa=>aW (dP N a.1) λ_=>some (n,b,wrap .i64 (d+1),wrap .i64 (f+wrap .i64 (c.1+o.1)),e,i,a.2))
    (aW (dP N o.2.1) λ_=>some (n,b,wrap .i64 (d+1),wrap .i64 (f+wrap .i64 (c.1+o.1)),e,i,h)))):=by kernel_rfl
noncomputable def ko:CO:=cF Jt Ju zU Tryz.func40
