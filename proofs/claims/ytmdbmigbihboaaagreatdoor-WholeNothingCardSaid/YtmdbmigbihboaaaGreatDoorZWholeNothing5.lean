/- part 5 -/
import Derived.Test.YtmdbmigbihboaaaGreatDoorZWholeNothing4
set_option linter.all false
noncomputable section
open Go Go.RowKit
open IntKind (wrap)
set_option maxRecDepth 100000
namespace Go.Proofs.YtmdbmigbihboaaaGreatDoor
abbrev j1:Sc:=.i .i64
abbrev j2:Sc:=.i .u32
abbrev j3:Sc:=.sl .b
abbrev j4:Sc:=.i .u64
abbrev j5:Sc:=.pr j1 j1
abbrev j6:Sc:=.sl j1
abbrev j7:Sc:=.pr j1 .b
abbrev j8:Sc:=.sl j2
abbrev j9:Sc:=.pr j1 j7
abbrev bW:Sc:=.sl j6
abbrev j11:Sc:=.pr j1 j5
abbrev b_:Sc:=.sl j5
abbrev j13:Sc:=.pr j5 j1
abbrev qf:Sc:=.pr j1 j9
abbrev j15:Sc:=.pr j1 j11
abbrev pf:Sc:=.sl j11
abbrev O6:Sc:=.sl j13
abbrev j18:Sc:=.pr .b j13
abbrev cR:Sc:=.sl qf
abbrev fe:Sc:=.sl j15
abbrev j21:Sc:=.pr .b j18
abbrev j22:Sc:=.sl cR
abbrev j23:Sc:=.sl j21
abbrev A1:Type:=List (Int×Int)
abbrev A2:Type:=Int×(Int×Bool)
abbrev A3:Type:=List (List Int)
abbrev A4:Type:=Int×(Int×Int)
abbrev A5:Type:=List ((Int×Int)×Int)
abbrev A6:Type:=Int×(List Int)
abbrev A7:Type:=Int×Int×(List Int)
abbrev A8:Type:=Bool×((Int×Int)×Int)
abbrev A9:Type:=Bool×(List Int)
abbrev ff:Type:=List (Int×A2)
abbrev mL:Type:=List (Int×A4)
abbrev A12:Type:=Int×Int×A3
abbrev A13:Type:=List (Bool×A8)
abbrev A14:Type:=Int×mL×Int×(List Bool)×A3×Bool×Int×Int×ff
def ue:List CO:=[]
def uf:FD:=⟨122,Tryz.f122,.z,[.h j1],[],[j1],⟨[(2,.h .b)],[],[.b]⟩,false,true,[]⟩
def LA:Nat->Int->Option (Bool):=mF ue uf
def ahr:CO:=cF ue uf LA Tryz.func122
def aaB N n:LA (N+1) n=cond (1<=n)
 (some (decide (n<=64)))
 (some false):=by kernel_rfl
def gN:List CO:=[]
def Si:PS:=⟨[(0,.h j4),(2,.h j1)],[],[j4,j1]⟩
def Sj:List (Exit×PS):=[(.normal,⟨[(0,.h j4),(2,.h j1)],[],[j4,j1]⟩)]
def Sl:Pl:=.z
def Sm:Nat->Nat->Int×Int->Option (Int×Int):=jnF gN Tryz.f196 [1,1,0] Si Sj Sl
def Sq:PS:=⟨[(0,.h j4),(2,.h j1)],[],[j4,j1]⟩
def Sr:List (Exit×PS):=[(.normal,⟨[(0,.h j4),(2,.h j1)],[],[j4,j1]⟩)]
def Ss:Pl:=.z
def Su:Nat->Nat->Int×Int->Option (Int×Int):=jnF gN Tryz.f196 [1,0] Sq Sr Ss
def mM:FD:=⟨196,Tryz.f196,(.n .z (.n (.join Sq Sr Ss) (.n (.join Si Sj Sl) .z))),[.h j4],[],[j4],⟨[(2,.h j1)],[],[j1]⟩,false,true,[]⟩
def Sv:Nat->Int->Option (Int):=mF gN mM
def alm:CO:=cF gN mM Sv Tryz.func196
def W8 N m x n:Sm N (m+1) (x,n)=cond (65536<=x)
 (some ((Int.fdiv x ((2:Int)^(min (Int.toNat 16) 64))),(wrap .i64 (n+16))))
 (some (x,n)):=by kernel_rfl
def W9 N m x n:Su N (m+1) (x,n)=cond (4294967296<=x)
 (some ((Int.fdiv x ((2:Int)^(min (Int.toNat 32) 64))),32))
 (some (x,n)):=by kernel_rfl
def aaC N x:Sv (N+1) x=aW (Su N N (x,0)) λb=>
 aW (Sm N N (b.1,b.2)) λa=>
 cond (256<=a.1)
  (aW (ae7 ⟨#[0,1,2,2,3,3,3,3,4,4,4,4,4,4,4,4,5,5,5,5,5,5,5,5,5,5,5,5,5,5,5,5,6,6,6,6,6,6,6,6,6,6,6,6,6,6,6,6,6,6,6,6,6,6,6,6,6,6,6,6,6,6,6,6,7,7,7,7,7,7,7,7,7,7,7,7,7,7,7,7,7,7,7,7,7,7,7,7,7,7,7,7,7,7,7,7,7,7,7,7,7,7,7,7,7,7,7,7,7,7,7,7,7,7,7,7,7,7,7,7,7,7,7,7,7,7,7,7,8,8,8,8,8,8,8,8,8,8,8,8,8,8,8,8,8,8,8,8,8,8,8,8,8,8,8,8,8,8,8,8,8,8,8,8,8,8,8,8,8,8,8,8,8,8,8,8,8,8,8,8,8,8,8,8,8,8,8,8,8,8,8,8,8,8,8,8,8,8,8,8,8,8,8,8,8,8,8,8,8,8,8,8,8,8,8,8,8,8,8,8,8,8,8,8,8,8,8,8,8,8,8,8,8,8,8,8,8,8,8,8,8,8,8,8,8,8,8,8,8,8,8,8,8,8,8,8]⟩ (wrap .u8 (Int.fdiv a.1 ((2:Int)^(min (Int.toNat 8) 64))))) λc=>
  some (wrap .i64 ((wrap .i64 (a.2+8))+(wrap .i64 c))))
  (aW (ae7 ⟨#[0,1,2,2,3,3,3,3,4,4,4,4,4,4,4,4,5,5,5,5,5,5,5,5,5,5,5,5,5,5,5,5,6,6,6,6,6,6,6,6,6,6,6,6,6,6,6,6,6,6,6,6,6,6,6,6,6,6,6,6,6,6,6,6,7,7,7,7,7,7,7,7,7,7,7,7,7,7,7,7,7,7,7,7,7,7,7,7,7,7,7,7,7,7,7,7,7,7,7,7,7,7,7,7,7,7,7,7,7,7,7,7,7,7,7,7,7,7,7,7,7,7,7,7,7,7,7,7,8,8,8,8,8,8,8,8,8,8,8,8,8,8,8,8,8,8,8,8,8,8,8,8,8,8,8,8,8,8,8,8,8,8,8,8,8,8,8,8,8,8,8,8,8,8,8,8,8,8,8,8,8,8,8,8,8,8,8,8,8,8,8,8,8,8,8,8,8,8,8,8,8,8,8,8,8,8,8,8,8,8,8,8,8,8,8,8,8,8,8,8,8,8,8,8,8,8,8,8,8,8,8,8,8,8,8,8,8,8,8,8,8,8,8,8,8,8,8,8,8,8,8,8,8,8,8,8]⟩ (wrap .u8 a.1)) λd=>
  some (wrap .i64 (a.2+(wrap .i64 d)))):=by kernel_rfl
def qg:List CO:=[alm]
def qh:FD:=⟨142,Tryz.f142,.z,[.h j4],[],[j4],⟨[(2,.h j1)],[],[j1]⟩,false,true,[]⟩
def aaD:Nat->Int->Option (Int):=mF qg qh
def aln:CO:=cF qg qh aaD Tryz.func142
def aaE N x:aaD (N+1) x=aW (Sv N x) λa=>
 some a:=by kernel_rfl
def Aq:List CO:=[ahr,aln]
def Ar:FD:=⟨123,Tryz.f123,.z,[.h j1],[],[j1],⟨[(2,.h j1)],[],[j1]⟩,false,true,[]⟩
def DB:Nat->Int->Option (Int):=mF Aq Ar
def aaF:CO:=cF Aq Ar DB Tryz.func123
def W_ N n:DB (N+1) n=aW (LA N n) λa=>
 cond (!a)
  (some 0)
  (aW (aaD N (wrap .u64 (wrap .i64 (n - 1)))) λb=>
  some b):=by kernel_rfl
def qi:List CO:=[⟨fy,fA⟩,⟨lC,k8⟩]
def qj:FD:=⟨124,Tryz.f124,.z,[.ag [.h j1,.h j1,.h j1,.h .b],.ag [.h j1,.h j1,.h j1,.h .b]],[],[j1,j1,j1,.b,j1,j1,j1,.b],⟨[(4,.h j1)],[],[j1]⟩,false,true,[]⟩
def DC:Nat->Int×Int×Int×Bool×Int×Int×Int×Bool->Option (Int):=mF qi qj
def ahs:CO:=cF qi qj DC Tryz.func124
def aaG N a c e f b d g h:DC (N+1) (a,c,e,f,b,d,g,h)=aW (cx N (a,b)) λi=>
 aW (cx N (c,d)) λj=>
 aW (gn N [i,j]) λk=>
 some k:=by kernel_rfl
def nu:List CO:=[]
def Sw:PS:=⟨[(1,.h j1),(5,.k (.ow 900)),(9,.h cR),(10,.h j1),(11,.h j1)],[(900,.arr 46 j5 true)],[j1,cR,j1,j1,b_]⟩
def Sx:List (Exit×PS):=[((.exit 0),⟨[(5,.k (.ow 900))],[(900,.arr 46 j5 true)],[b_]⟩)]
def Sy:Pl:=.z
def s0:Nat->Nat->Int×ff×Int×Int×A1->Option (A1):=fS nu Tryz.f56 [1,1,0,1,0,0] Sw Sx Sy
def ug:FD:=⟨56,Tryz.f56,(.n .z (.n .z (.n (.n .z (.n (.loop Sw Sx Sy) .z)) .z))),[.ag [.h j1,.h cR],.h j1],[],[j1,cR,j1],⟨[(4,.k (.ow 900))],[(900,.arr 46 j5 true)],[b_]⟩,true,true,[900]⟩
def LB:Nat->Int×ff×Int->Option (A1):=mF nu ug
def aht:CO:=cF nu ug LB Tryz.func56
def s_ N m b d c a l:s0 N (m+1) (b,d,c,a,l)=cond (a<c)
 (aW (aZ d a) λe=>
 cond e.2.2.2
  (cond (b<=e.2.2.1)
   (aW (eC 16 l [(e.1,e.2.1)]) λf=>
   (s0 N m (b,d,c,(wrap .i64 (a+1)),f)))
   ((s0 N m (b,d,c,(wrap .i64 (a+1)),l))))
  ((s0 N m (b,d,c,(wrap .i64 (a+1)),l))))
 (some l):=by kernel_rfl
def aaH N g a b:LB (N+1) (g,a,b)=aW (s0 N N (b,a,(List.length a:Int),0,[])) λc=>
 some c:=by kernel_rfl
def wy:List CO:=[]
def wz:FD:=⟨91,Tryz.f91,.z,[.h j1],[],[j1],⟨[(2,.h .b)],[],[.b]⟩,false,true,[]⟩
def vl:Nat->Int->Option (Bool):=mF wy wz
def IH:CO:=cF wy wz vl Tryz.func91
def Xa N n:vl (N+1) n=cond (1<=n)
 (some (decide (n<=64)))
 (some false):=by kernel_rfl
def rq:List CO:=[IH]
def LC:PS:=⟨[(2,.k (.pt 900 0)),(4,.k (.pt 901 0)),(12,.h j1),(13,.h j1)],[(900,.box 80 [.h j1,.k .nil]),(901,.box 80 [.h j1,.k (.ow 902)]),(902,.arr 33 j6 true)],[j1,j1,j1,j1,bW]⟩
def LD:List (Exit×PS):=[((.exit 0),⟨[(2,.k (.pt 900 0)),(4,.k (.pt 901 0))],[(900,.box 80 [.h j1,.k .nil]),(901,.box 80 [.h j1,.k (.ow 902)]),(902,.arr 33 j6 true)],[j1,j1,bW]⟩)]
def LF:Pl:=.z
def wA:Nat->Nat->Int×Int×Int×Int×A3->Option A12:=fS rq Tryz.f125 [1,1,1,0,1,0,0] LC LD LF
def As:FD:=⟨125,Tryz.f125,(.n .z (.n .z (.n .z (.n (.n .z (.n (.loop LC LD LF) .z)) .z)))),[.h j1],[],[j1],⟨[(2,.k (.pt 900 0)),(3,.h j1)],[(900,.box 80 [.h j1,.h bW])],[j1,j1,bW]⟩,false,false,[]⟩
def II:Nat->Int->Option A12:=mF rq As
def aiW:CO:=cF rq As II Tryz.func125
def DD N m b a c f d:wA N (m+1) (b,a,c,f,d)=cond (a<b)
 (aW (eC 24 d [[a]]) λe=>
 (wA N m (b,(wrap .i64 (a+1)),c,f,e)))
 (some (c,f,d)):=by kernel_rfl
def Xb N n:II (N+1) n=aW (vl N n) λb=>
 cond (!b)
  (some (1,0,[]))
  (aW (wA N N (n,0,0,n,[])) λa=>
  some (0,a.2.1,a.2.2)):=by kernel_rfl
def ny:List CO:=[]
def Sz:PS:=⟨[(3,.k (.ow 900)),(6,.h b_),(7,.h j1),(8,.h j1)],[(900,.arr 3 j1 true)],[b_,j1,j1,j6]⟩
def SA:List (Exit×PS):=[((.exit 0),⟨[(3,.k (.ow 900))],[(900,.arr 3 j1 true)],[j6]⟩)]
def SB:Pl:=.z
def BT:Nat->Nat->A1×Int×Int×(List Int)->Option ((List Int)):=fS ny Tryz.f212 [1,1,0,1,0,0] Sz SA SB
def uh:FD:=⟨212,Tryz.f212,(.n .z (.n .z (.n (.n .z (.n (.loop Sz SA SB) .z)) .z))),[.h b_],[],[b_],⟨[(2,.k (.ow 900))],[(900,.arr 3 j1 true)],[j6]⟩,true,true,[900]⟩
def SC:Nat->A1->Option ((List Int)):=mF ny uh
def alo:CO:=cF ny uh SC Tryz.func212
def Gt N m c d a b:BT N (m+1) (c,d,a,b)=cond (a<d)
 (aW (aZ c a) λe=>
 aW (eC 8 b [e.1,e.2]) λf=>
 (BT N m (c,d,(wrap .i64 (a+1)),f)))
 (some b):=by kernel_rfl
def aaI N l:SC (N+1) l=aW (BT N N (l,(List.length l:Int),0,[])) λa=>
 some a:=by kernel_rfl
def ru:List CO:=[]
def rv:FD:=⟨162,Tryz.f162,.z,[.h j1],[],[j1],⟨[(2,.h .b)],[],[.b]⟩,false,true,[]⟩
def SD:Nat->Int->Option (Bool):=mF ru rv
def alp:CO:=cF ru rv SD Tryz.func162
def aaJ N t:SD (N+1) t=cond (t<0)
 (some true)
 (some (decide (10000<t))):=by kernel_rfl
def dj:List CO:=[alp]
def SE:PS:=⟨[(0,.h j6),(1,.k (.v (.func (.func 162) #[] #[]))),(7,.h j1),(8,.h j1)],[],[j6,j1,j1]⟩
def SF:List (Exit×PS):=[((.exit 0),⟨[],[],[]⟩),(.ret,⟨[(4,.h j1)],[],[j1]⟩)]
def SG:Pl:=.z
def BU:Nat->Nat->(List Int)×Int×Int->Option ((Unit)⊕(Int)):=fS dj Tryz.f116 [1,0,1,0,0] SE SF SG
def ey:FD:=⟨116,Tryz.f116,(.n .z (.n (.n .z (.n (.loop SE SF SG) .z)) .z)),[.h j6,.k (.v (.func (.func 162) #[] #[]))],[],[j6],⟨[(4,.h j1)],[],[j1]⟩,false,true,[]⟩
def aaK:Nat->(List Int)->Option (Int):=mF dj ey
def alq:CO:=cF dj ey aaK atr
def Gu N m s b a:BU N (m+1) (s,b,a)=cond (a<b)
 (aW (aZ s a) λc=>
 aW (SD N c) λd=>
 cond d
  (some (.inr a))
  ((BU N m (s,b,(wrap .i64 (a+1))))))
 (some (.inl ())):=by kernel_rfl
def aaL N s:aaK (N+1) s=aW (BU N N (s,(List.length s:Int),0)) λa=>
 (match a with
 |.inl c=>some (-1)
 |.inr b=>some b):=by kernel_rfl
def ee:List CO:=[alq]
def ef:FD:=⟨48,Tryz.f48,.z,[.h j6,.k (.v (.func (.func 162) #[] #[]))],[],[j6],⟨[(4,.h .b)],[],[.b]⟩,false,true,[]⟩
def SH:Nat->(List Int)->Option (Bool):=mF ee ef
def alr:CO:=cF ee ef SH atS
def aaM N s:SH (N+1) s=aW (aaK N s) λa=>
 some (decide (0<=a)):=by kernel_rfl
def k9:List CO:=[]
def SI:PS:=⟨[(0,.h j6),(3,.k (.mp 900)),(7,.h j6),(8,.h j1),(9,.h j1)],[(900,.mp (.int .i64) j1 j1)],[j6,j6,j1,j1,b_]⟩
def SJ:List (Exit×PS):=[((.exit 0),⟨[(0,.h j6),(3,.k (.mp 900))],[(900,.mp (.int .i64) j1 j1)],[j6,b_]⟩)]
def SK:Pl:=.z
def BV:Nat->Nat->(List Int)×(List Int)×Int×Int×A1->Option ((List Int)×A1):=fS k9 Tryz.f163 [1,1,0,1,0,0] SI SJ SK
def qk:FD:=⟨163,Tryz.f163,(.n .z (.n .z (.n (.n .z (.n (.loop SI SJ SK) .z)) .z))),[.h j6],[],[j6],⟨[(2,.h .b)],[],[.b]⟩,false,true,[]⟩
def SL:Nat->(List Int)->Option (Bool):=mF k9 qk
def als:CO:=cF k9 qk SL Tryz.func163
def Gv N m l c d b a:BV N (m+1) (l,c,d,b,a)=cond (b<d)
 (aW (aZ c b) λe=>
 (BV N m (l,c,d,(wrap .i64 (b+1)),(dI j1 a e (wrap .i64 ((Option.getD (bC j1 a e) 0)+1))))))
 (some (l,a)):=by kernel_rfl
def aaN N l:SL (N+1) l=aW (BV N N (l,l,(List.length l:Int),0,[])) λa=>
 some (decide ((List.length a.2:Int)=(List.length a.1:Int))):=by kernel_rfl
def wB:List CO:=[alr,als]
def wC:FD:=⟨92,Tryz.f92,.z,[.h j6],[],[j6],⟨[(2,.h .b)],[],[.b]⟩,false,true,[]⟩
def zw:Nat->(List Int)->Option (Bool):=mF wB wC
def Qf:CO:=cF wB wC zw Tryz.func92
def Xc N l:zw (N+1) l=cond (1000<(List.length l:Int))
 (some false)
 (aW (SH N l) λa=>
 cond (!a)
  (aW (SL N l) λb=>
  some b)
  (some false)):=by kernel_rfl
def gL:List CO:=[]
def SM:PS:=⟨[(0,.h j6),(3,.h j1),(4,.h j1)],[],[j6,j1,j1]⟩
def SN:List (Exit×PS):=[((.exit 0),⟨[(3,.h j1)],[],[j1]⟩)]
def SO:Pl:=.z
def BW:Nat->Nat->(List Int)×Int×Int->Option (Int):=fS gL Tryz.f93 [1,1,1,0,1,0,0] SM SN SO
def jQ:FD:=⟨93,Tryz.f93,(.n .z (.n .z (.n .z (.n (.n .z (.n (.loop SM SN SO) .z)) .z)))),[.h j6],[],[j6],⟨[(2,.h j1)],[],[j1]⟩,false,true,[]⟩
def LG:Nat->(List Int)->Option (Int):=mF gL jQ
def ahu:CO:=cF gL jQ LG Tryz.func93
def Gw N m x a i:BW N (m+1) (x,a,i)=cond (i<(List.length x:Int))
 (aW (aZ x i) λb=>
 (BW N m (x,(if(b<a)then b else a),(wrap .i64 (i+1)))))
 (some a):=by kernel_rfl
def aaO N x:LG (N+1) x=cond ((List.length x:Int)<1)
 none
 (aW (aZ x 0) λa=>
 aW (BW N N (x,a,1)) λb=>
 some b):=by kernel_rfl
def Gx:List CO:=[IH]
def Gy:FD:=⟨128,Tryz.f128,.z,[.h j1,.h j1],[],[j1,j1],⟨[(4,.h .b)],[],[.b]⟩,false,true,[]⟩
def nz:Nat->Int×Int->Option (Bool):=mF Gx Gy
def IJ:CO:=cF Gx Gy nz Tryz.func128
def Xd N n v:nz (N+1) (n,v)=aW (vl N n) λa=>
 cond a
  (cond (0<=v)
   (some (decide (v<n)))
   (some false))
  (some false):=by kernel_rfl
def wD:List CO:=[IH]
def wF:FD:=⟨164,Tryz.f164,.z,[.h j1,.h j1],[],[j1,j1],⟨[(4,.h j1),(5,.h j1),(6,.h .b),(7,.h .b)],[],[j1,j1,.b,.b]⟩,false,true,[]⟩
def IK:Nat->Int×Int->Option (Int×Int×Bool×Bool):=mF wD wF
def aiX:CO:=cF wD wF IK Tryz.func164
def Xe N n a:IK (N+1) (n,a)=aW (vl N n) λd=>
 cond (!d)
  (some (0,0,false,false))
  (cond (a<0)
   (some (0,0,false,false))
   (cond ((wrap .i64 (n*(wrap .i64 (n+1))))<=a)
    (some (0,0,false,false))
    (cond (a<n)
     (some (a,0,false,true))
     (aW (Pq a n) λb=>
     aW (FJ a n) λc=>
     cond ((wrap .i64 ((wrap .i64 b) - 1))=c)
      (some (0,0,false,false))
      (some ((wrap .i64 ((wrap .i64 b) - 1)),c,true,true)))))):=by kernel_rfl
def iV:List CO:=[]
def iW:FD:=⟨165,Tryz.f165,.z,[.k (.pt 4294967296 0),.h j1,.h j1],[(4294967296,.box 268 [.k (.ow 4294967297),.k (.mp 4294967298),.k (.mp 4294967299)]),(4294967297,.arr 3 j1 true),(4294967298,.mp (.int .i64) j1 j1),(4294967299,.mp (.int .i64) j1 j1)],[j1,j1,j6,b_,b_],⟨[(6,.h .b)],[(4294967298,.mp (.int .i64) j1 j1),(4294967299,.mp (.int .i64) j1 j1),(4294967296,.box 268 [.k (.ow 900),.k (.mp 4294967298),.k (.mp 4294967299)]),(900,.arr 3 j1 true)],[.b,b_,b_,j6]⟩,true,true,[4294967298,4294967299,4294967296,900]⟩
def SQ:Nat->Int×Int×(List Int)×A1×A1->Option (Bool×A1×A1×(List Int)):=mF iV iW
def alu:CO:=cF iV iW SQ Tryz.func165
def aaP N u v h a b:SQ (N+1) (u,v,h,a,b)=aW (aZ h (wrap .i64 ((List.length h:Int) - 1))) λi=>
 aW (aZ h (wrap .i64 ((List.length h:Int) - 1))) λc=>
 cond (!(c=u))
  (some (false,a,b,h))
  (cond (0<(wrap .i64 ((List.length h:Int) - 1)))
   (aW (aZ h (wrap .i64 ((wrap .i64 ((List.length h:Int) - 1)) - 1))) λj=>
   aW (aZ h (wrap .i64 ((wrap .i64 ((List.length h:Int) - 1)) - 1))) λd=>
   cond (d=v)
    (aW (jf h 0 (wrap .i64 ((List.length h:Int) - 1))) λe=>
    some (true,a,b,e))
    (cond (0<(Option.getD (bC j1 a v) 0))
     (some (false,a,b,h))
     (aW (eC 8 h [v]) λf=>
     some (true,(dI j1 a v (wrap .i64 ((Option.getD (bC j1 a v) 0)+1))),b,f))))
   (cond (0<(Option.getD (bC j1 a v) 0))
    (some (false,a,b,h))
    (aW (eC 8 h [v]) λg=>
    some (true,(dI j1 a v (wrap .i64 ((Option.getD (bC j1 a v) 0)+1))),b,g)))):=by kernel_rfl
def rz:List CO:=[IJ,aiX,alu]
def LH:PS:=⟨[(0,.h j1),(5,.k (.pt 900 0)),(30,.h j6),(31,.h j1),(32,.h j1)],[(900,.box 268 [.k (.ow 901),.k (.mp 902),.k (.mp 903)]),(901,.arr 3 j1 true),(902,.mp (.int .i64) j1 j1),(903,.mp (.int .i64) j1 j1)],[j1,j6,j1,j1,j6,b_,b_]⟩
def LI:List (Exit×PS):=[((.exit 0),⟨[(5,.k (.pt 900 0))],[(900,.box 268 [.k (.ow 901),.k (.mp 902),.k (.mp 903)]),(901,.arr 3 j1 true),(902,.mp (.int .i64) j1 j1),(903,.mp (.int .i64) j1 j1)],[j6,b_,b_]⟩),(.ret,⟨[(4,.h .b)],[],[.b]⟩)]
def LJ:Pl:=.z
def hI:Nat->Nat->Int×(List Int)×Int×Int×(List Int)×A1×A1->Option (((List Int)×A1×A1)⊕(Bool)):=fS rz Tryz.f94 [1,1,1,0,1,0,0] LH LI LJ
def Au:FD:=⟨94,Tryz.f94,(.n .z (.n .z (.n .z (.n (.n .z (.n (.loop LH LI LJ) .z)) .z)))),[.h j1,.h j6],[],[j1,j6],⟨[(4,.h .b)],[],[.b]⟩,false,true,[]⟩
def IL:Nat->Int×(List Int)->Option (Bool):=mF rz Au
def aiY:CO:=cF rz Au IL Tryz.func94
def Qg N m n e f c d h g:hI N (m+1) (n,e,f,c,d,h,g)=cond (c<f)
 (aW (aZ e c) λi=>
 aW (IK N (n,i)) λa=>
 cond (!a.2.2.2)
  (some (.inr false))
  (cond a.2.2.1
   (aW (SQ N (a.1,a.2.1,d,h,g)) λb=>
   cond (!b.1)
    (some (.inr false))
    (cond (!a.2.2.1)
     (aW (aZ b.2.2.2 (wrap .i64 ((List.length b.2.2.2:Int) - 1))) λl=>
     aW (aZ b.2.2.2 (wrap .i64 ((List.length b.2.2.2:Int) - 1))) λj=>
     cond (!(j=a.1))
      (some (.inr false))
      (cond (!a.2.2.1)
       ((hI N m (n,e,f,(wrap .i64 (c+1)),b.2.2.2,b.2.1,(dI j1 b.2.2.1 a.1 (wrap .i64 ((Option.getD (bC j1 b.2.2.1 a.1) 0)+1))))))
       ((hI N m (n,e,f,(wrap .i64 (c+1)),b.2.2.2,b.2.1,b.2.2.1)))))
     (cond (!a.2.2.1)
      ((hI N m (n,e,f,(wrap .i64 (c+1)),b.2.2.2,b.2.1,(dI j1 b.2.2.1 a.1 (wrap .i64 ((Option.getD (bC j1 b.2.2.1 a.1) 0)+1))))))
      ((hI N m (n,e,f,(wrap .i64 (c+1)),b.2.2.2,b.2.1,b.2.2.1))))))
   (cond (!a.2.2.1)
    (aW (aZ d (wrap .i64 ((List.length d:Int) - 1))) λo=>
    aW (aZ d (wrap .i64 ((List.length d:Int) - 1))) λk=>
    cond (!(k=a.1))
     (some (.inr false))
     (cond (!a.2.2.1)
      ((hI N m (n,e,f,(wrap .i64 (c+1)),d,h,(dI j1 g a.1 (wrap .i64 ((Option.getD (bC j1 g a.1) 0)+1))))))
      ((hI N m (n,e,f,(wrap .i64 (c+1)),d,h,g)))))
    (cond (!a.2.2.1)
     ((hI N m (n,e,f,(wrap .i64 (c+1)),d,h,(dI j1 g a.1 (wrap .i64 ((Option.getD (bC j1 g a.1) 0)+1))))))
     ((hI N m (n,e,f,(wrap .i64 (c+1)),d,h,g)))))))
 (some (.inl (d,h,g))):=by kernel_rfl
def Xf N n l:IL (N+1) (n,l)=aW (aZ l 0) λb=>
 aW (nz N (n,b)) λc=>
 cond (!c)
  (some false)
  (aW (aZ l 0) λd=>
  aW (aZ l 0) λe=>
  aW (hI N N (n,l,(List.length l:Int),0,[d],(dI j1 [] e 1),[])) λf=>
  (match f with
  |.inl a=>cond ((List.length a.1:Int)=1)
   (some (decide ((List.length a.2.2:Int)=(List.length a.2.1:Int))))
   (some false)
  |.inr g=>some g)):=by kernel_rfl
def jx:List CO:=[IH,Qf,ahu,aiY]
def LK:PS:=⟨[(3,.k (.mp 900)),(78,.h j1),(79,.h j1)],[(900,.mp (.int .i64) j1 j1)],[j1,j1,b_]⟩
def LL:List (Exit×PS):=[((.exit 4),⟨[],[],[]⟩),(.ret,⟨[(2,.h .b)],[],[.b]⟩)]
def LM:Pl:=.z
def wG:Nat->Nat->Int×Int×A1->Option ((Unit)⊕(Bool)):=fS jx Tryz.f36 [1,1,1,1,1,0,1,0,0] LK LL LM
def LN:PS:=⟨[(1,.k (.pt 900 0)),(3,.k (.mp 901)),(4,.h j1),(16,.h bW),(17,.h j1),(18,.h j1),(55,.h j6),(56,.h j1),(57,.h j1)],[(900,.box 80 [.h j1,.h bW]),(901,.mp (.int .i64) j1 j1)],[j1,bW,j1,j1,j6,j1,j1,j1,bW,b_]⟩
def LO:List (Exit×PS):=[((.exit 2),⟨[(1,.k (.pt 900 0)),(3,.k (.mp 901)),(4,.h j1),(16,.h bW),(17,.h j1),(18,.h j1)],[(900,.box 80 [.h j1,.h bW]),(901,.mp (.int .i64) j1 j1)],[j1,bW,j1,j1,j1,bW,b_]⟩),(.ret,⟨[(2,.h .b)],[],[.b]⟩)]
def LP:Pl:=.z
def rA:Nat->Nat->Int×A3×Int×Int×(List Int)×Int×Int×Int×A3×A1->Option ((Int×A3×Int×Int×Int×A3×A1)⊕(Bool)):=fS jx Tryz.f36 [1,1,1,1,0,1,0,0,1,1,0,0,1,1,1,1,0,0] LN LO LP
def LQ:PS:=⟨[(1,.k (.pt 900 0)),(3,.k (.mp 901)),(4,.h j1),(16,.h bW),(17,.h j1),(18,.h j1)],[(900,.box 80 [.h j1,.h bW]),(901,.mp (.int .i64) j1 j1)],[j1,bW,j1,j1,j1,bW,b_]⟩
def LS:List (Exit×PS):=[((.exit 0),⟨[(1,.k (.pt 900 0)),(3,.k (.mp 901))],[(900,.box 80 [.h j1,.h bW]),(901,.mp (.int .i64) j1 j1)],[j1,bW,b_]⟩),(.ret,⟨[(2,.h .b)],[],[.b]⟩)]
def LU:Pl:=(.n .z (.n .z (.n (.n (.n .z (.n .z (.n .z (.n .z (.n (.loop LN LO LP) .z))))) .z) .z)))
def wH:Nat->Nat->Int×A3×Int×Int×Int×A3×A1->Option ((Int×A3×A1)⊕(Bool)):=fS jx Tryz.f36 [1,1,1,1,0,1,0,0] LQ LS LU
def wI:FD:=⟨36,Tryz.f36,(.n .z (.n .z (.n .z (.n .z (.n (.n .z (.n (.loop LQ LS LU) .z)) (.n (.n .z (.n (.loop LK LL LM) .z)) .z)))))),[.ag [.h j1,.h bW]],[],[j1,bW],⟨[(2,.h .b)],[],[.b]⟩,false,true,[]⟩
def rB:Nat->Int×A3->Option (Bool):=mF jx wI
def IM:CO:=cF jx wI rB Tryz.func36
def Qh N m c a b:wG N (m+1) (c,a,b)=cond (a<c)
 (cond ((Option.getD (bC j1 b a) 0)=0)
  (some (.inr false))
  ((wG N m (c,(wrap .i64 (a+1)),b))))
 (some (.inl ())):=by kernel_rfl
def Qi N m e g h i j k c f d a:rA N (m+1) (e,g,h,i,j,k,c,f,d,a)=cond (c<k)
 (aW (aZ j c) λb=>
 cond (b<f)
  (cond (0<(Option.getD (bC j1 a b) 0))
   (some (.inr false))
   ((rA N m (e,g,h,i,j,k,(wrap .i64 (c+1)),f,d,(dI j1 a b (wrap .i64 ((Option.getD (bC j1 a b) 0)+1)))))))
  ((rA N m (e,g,h,i,j,k,(wrap .i64 (c+1)),f,d,(dI j1 a b (wrap .i64 ((Option.getD (bC j1 a b) 0)+1)))))))
 (some (.inl (e,g,h,i,f,d,a))):=by kernel_rfl
def Qj N m i g h c f d e:wH N (m+1) (i,g,h,c,f,d,e)=cond (c<h)
 (aW (aZ g c) λa=>
 cond ((List.length a:Int)=0)
  (some (.inr false))
  (aW (aZ a 0) λj=>
  cond (j<=i)
   (some (.inr false))
   (aW (zw N a) λk=>
   cond (!k)
    (some (.inr false))
    (aW (LG N a) λl=>
    aW (aZ a 0) λn=>
    cond (!(l=n))
     (some (.inr false))
     (aW (IL N (f,a)) λo=>
     cond (!o)
      (some (.inr false))
      (aW (aZ a 0) λp=>
      aW (rA N N (p,g,h,c,a,(List.length a:Int),0,f,d,e)) λq=>
      (match q with
      |.inl b=>(wH N m (b.1,b.2.1,b.2.2.1,(wrap .i64 (b.2.2.2.1+1)),b.2.2.2.2.1,b.2.2.2.2.2.1,b.2.2.2.2.2.2))
      |.inr r=>some (.inr r))))))))
 (some (.inl (f,d,e))):=by kernel_rfl
def Xg N f a:rB (N+1) (f,a)=aW (vl N f) λc=>
 cond (!c)
  (some false)
  (aW (wH N N ((-1),a,(List.length a:Int),0,f,a,[])) λd=>
  (match d with
  |.inl b=>aW (wG N N (b.1,0,b.2.2)) λe=>
   (match e with
   |.inl i=>some true
   |.inr g=>some g)
  |.inr h=>some h)):=by kernel_rfl
def kE:List CO:=[]
def kF:FD:=⟨127,Tryz.f127,.z,[.h j1,.k (.pt 4294967296 0)],[(4294967296,.box 80 [.h j1,.h bW])],[j1,j1,bW],⟨[(3,.h .b)],[(4294967296,.box 80 [.h j1,.h bW])],[.b,j1,bW]⟩,true,false,[4294967296]⟩
def SU:Nat->Int×Int×A3->Option (Bool×Int×A3):=mF kE kF
def alv:CO:=cF kE kF SU Tryz.func127
def aaQ N v a b:SU (N+1) (v,a,b)=cond (v<0)
 (some (true,a,b))
 (some ((decide (a<=v)),a,b)):=by kernel_rfl
def bY:List CO:=[alv]
def SX:PS:=⟨[(0,.h j6),(1,.cl (.func 127) [] [.k (.pt 4294967296 0)]),(7,.h j1),(8,.h j1)],[(4294967296,.box 80 [.h j1,.h bW])],[j6,j1,j1,j1,bW]⟩
def SY:List (Exit×PS):=[((.exit 0),⟨[],[(4294967296,.box 80 [.h j1,.h bW])],[j1,bW]⟩),(.ret,⟨[(4,.h j1)],[(4294967296,.box 80 [.h j1,.h bW])],[j1,j1,bW]⟩)]
def SZ:Pl:=.z
def BX:Nat->Nat->(List Int)×Int×Int×Int×A3->Option ((Int×A3)⊕A12):=fS bY Tryz.f116 [1,0,1,0,0] SX SY SZ
def dA:FD:=⟨116,Tryz.f116,(.n .z (.n (.n .z (.n (.loop SX SY SZ) .z)) .z)),[.h j6,.cl (.func 127) [] [.k (.pt 4294967296 0)]],[(4294967296,.box 80 [.h j1,.h bW])],[j6,j1,bW],⟨[(4,.h j1)],[(4294967296,.box 80 [.h j1,.h bW])],[j1,j1,bW]⟩,true,false,[4294967296]⟩
def aaR:Nat->(List Int)×Int×A3->Option A12:=mF bY dA
def alw:CO:=cF bY dA aaR atr
def Xh N m s d a f c:BX N (m+1) (s,d,a,f,c)=cond (a<d)
 (aW (aZ s a) λe=>
 aW (SU N (e,f,c)) λb=>
 cond b.1
  (some (.inr (a,b.2.1,b.2.2)))
  ((BX N m (s,d,(wrap .i64 (a+1)),b.2.1,b.2.2))))
 (some (.inl (f,c))):=by kernel_rfl
def aaS N s f b:aaR (N+1) (s,f,b)=aW (BX N N (s,(List.length s:Int),0,f,b)) λd=>
 (match d with
 |.inl c=>some ((-1),c.1,c.2)
 |.inr a=>some (a.1,a.2.1,a.2.2)):=by kernel_rfl
def db:List CO:=[alw]
def dc:FD:=⟨48,Tryz.f48,.z,[.h j6,.cl (.func 127) [] [.k (.pt 4294967296 0)]],[(4294967296,.box 80 [.h j1,.h bW])],[j6,j1,bW],⟨[(4,.h .b)],[(4294967296,.box 80 [.h j1,.h bW])],[.b,j1,bW]⟩,true,false,[4294967296]⟩
def aiZ:Nat->(List Int)×Int×A3->Option (Bool×Int×A3):=mF db dc
def aox:CO:=cF db dc aiZ atS
def afV N s f b:aiZ (N+1) (s,f,b)=aW (aaR N (s,f,b)) λa=>
 some ((decide (0<=a.1)),a.2.1,a.2.2):=by kernel_rfl
def rC:List CO:=[IM,aox]
def rD:FD:=⟨57,Tryz.f57,.z,[.ag [.h j1,.h bW],.h j6],[],[j1,bW,j6],⟨[(4,.h j1)],[],[j1]⟩,false,true,[]⟩
def Gz:Nat->Int×A3×(List Int)->Option (Int):=mF rC rD
def aaT:CO:=cF rC rD Gz Tryz.func57
def aaU N f a b:Gz (N+1) (f,a,b)=aW (rB N (f,a)) λc=>
 cond (!c)
  (some 1)
  (aW (aiZ N (b,f,a)) λd=>
  cond d.1
   (some 10)
   (some 0)):=by kernel_rfl
def wJ:List CO:=[IM,IJ]
def wK:FD:=⟨213,Tryz.f213,.z,[.ag [.h j1,.h bW],.h j1,.h j1],[],[j1,bW,j1,j1],⟨[(6,.h j1)],[],[j1]⟩,false,true,[]⟩
def IN:Nat->Int×A3×Int×Int->Option (Int):=mF wJ wK
def ai0:CO:=cF wJ wK IN Tryz.func213
def Xi N f a u v:IN (N+1) (f,a,u,v)=aW (rB N (f,a)) λb=>
 cond (!b)
  (some 1)
  (aW (nz N (f,u)) λc=>
  cond (!c)
   (some 10)
   (aW (nz N (f,v)) λd=>
   cond (!d)
    (some 10)
    (some 0))):=by kernel_rfl
def fT:List CO:=[]
def S0:PS:=⟨[(0,.h j6),(1,.h j1),(7,.h j1),(8,.h j1)],[],[j6,j1,j1,j1]⟩
def S2:List (Exit×PS):=[((.exit 0),⟨[],[],[]⟩),(.ret,⟨[(4,.h j1)],[],[j1]⟩)]
def S3:Pl:=.z
def BY:Nat->Nat->(List Int)×Int×Int×Int->Option ((Unit)⊕(Int)):=fS fT Tryz.f119 [1,0,1,0,0] S0 S2 S3
def iX:FD:=⟨119,Tryz.f119,(.n .z (.n (.n .z (.n (.loop S0 S2 S3) .z)) .z)),[.h j6,.h j1],[],[j6,j1],⟨[(4,.h j1)],[],[j1]⟩,false,true,[]⟩
def GA:Nat->(List Int)×Int->Option (Int):=mF fT iX
def aaV:CO:=cF fT iX GA Tryz.func119
def GB N m s v b a:BY N (m+1) (s,v,b,a)=cond (a<b)
 (aW (aZ s a) λc=>
 cond (v=c)
  (some (.inr a))
  ((BY N m (s,v,b,(wrap .i64 (a+1))))))
 (some (.inl ())):=by kernel_rfl
def aaW N s v:GA (N+1) (s,v)=aW (BY N N (s,v,(List.length s:Int),0)) λa=>
 (match a with
 |.inl c=>some (-1)
 |.inr b=>some b):=by kernel_rfl
def hJ:List CO:=[aaV]
def hL:FD:=⟨179,Tryz.f179,.z,[.h j6,.h j1],[],[j6,j1],⟨[(4,.h .b)],[],[.b]⟩,false,true,[]⟩
def DE:Nat->(List Int)×Int->Option (Bool):=mF hJ hL
def S4:CO:=cF hJ hL DE Tryz.func179
def aaX N s v:DE (N+1) (s,v)=aW (GA N (s,v)) λa=>
 some (decide (0<=a)):=by kernel_rfl
def mN:List CO:=[S4]
def mO:FD:=⟨178,Tryz.f178,.z,[.h j6,.k (.pt 4294967296 0)],[(4294967296,.box 3 [.h j1])],[j6,j1],⟨[(3,.h .b)],[(4294967296,.box 3 [.h j1])],[.b,j1]⟩,true,true,[4294967296]⟩
def aaY:Nat->(List Int)×Int->Option (Bool×Int):=mF mN mO
def alx:CO:=cF mN mO aaY Tryz.func178
def aaZ N l a:aaY (N+1) (l,a)=aW (DE N (l,a)) λb=>
 some (b,a):=by kernel_rfl
def ca:List CO:=[alx]
def S5:PS:=⟨[(0,.h bW),(1,.cl (.func 178) [] [.k (.pt 4294967296 0)]),(7,.h j1),(8,.h j1)],[(4294967296,.box 3 [.h j1])],[bW,j1,j1,j1]⟩
def S6:List (Exit×PS):=[((.exit 0),⟨[],[(4294967296,.box 3 [.h j1])],[j1]⟩),(.ret,⟨[(4,.h j1)],[(4294967296,.box 3 [.h j1])],[j1,j1]⟩)]
def S7:Pl:=.z
def BZ:Nat->Nat->A3×Int×Int×Int->Option ((Int)⊕(Int×Int)):=fS ca Tryz.f177 [1,0,1,0,0] S5 S6 S7
def dD:FD:=⟨177,Tryz.f177,(.n .z (.n (.n .z (.n (.loop S5 S6 S7) .z)) .z)),[.h bW,.cl (.func 178) [] [.k (.pt 4294967296 0)]],[(4294967296,.box 3 [.h j1])],[bW,j1],⟨[(4,.h j1)],[(4294967296,.box 3 [.h j1])],[j1,j1]⟩,true,true,[4294967296]⟩
def aa0:Nat->A3×Int->Option (Int×Int):=mF ca dD
def aly:CO:=cF ca dD aa0 Tryz.func177
def Xj N m s b a f:BZ N (m+1) (s,b,a,f)=cond (a<b)
 (aW (aZ s a) λd=>
 aW (aaY N (d,f)) λc=>
 cond c.1
  (some (.inr (a,c.2)))
  ((BZ N m (s,b,(wrap .i64 (a+1)),c.2))))
 (some (.inl f)):=by kernel_rfl
def aa1 N s f:aa0 (N+1) (s,f)=aW (BZ N N (s,(List.length s:Int),0,f)) λb=>
 (match b with
 |.inl c=>some ((-1),c)
 |.inr a=>some (a.1,a.2)):=by kernel_rfl
def wL:List CO:=[aly]
def wM:FD:=⟨129,Tryz.f129,.z,[.ag [.h j1,.h bW],.h j1],[],[j1,bW,j1],⟨[(4,.h j1)],[],[j1]⟩,false,true,[]⟩
def zx:Nat->Int×A3×Int->Option (Int):=mF wL wM
def aa2:CO:=cF wL wM zx Tryz.func129
def Xk N f a v:zx (N+1) (f,a,v)=aW (aa0 N (a,v)) λb=>
 some b.1:=by kernel_rfl
def nA:List CO:=[Qf,aaV,S4]
def S8:PS:=⟨[(0,.h j6),(6,.k (.ow 900)),(12,.h j6),(13,.h j1),(14,.h j1)],[(900,.arr 3 j1 true)],[j6,j6,j1,j1,j6]⟩
def S9:List (Exit×PS):=[((.exit 0),⟨[(6,.k (.ow 900))],[(900,.arr 3 j1 true)],[j6]⟩)]
def S_:Pl:=.z
def B0:Nat->Nat->(List Int)×(List Int)×Int×Int×(List Int)->Option ((List Int)):=fS nA Tryz.f254 [1,1,1,0,1,0,0] S8 S9 S_
def ui:FD:=⟨254,Tryz.f254,(.n .z (.n .z (.n .z (.n (.n .z (.n (.loop S8 S9 S_) .z)) .z)))),[.h j6,.h j6],[],[j6,j6],⟨[(4,.k (.ow 900)),(5,.h .b)],[(900,.arr 3 j1 true)],[.b,j6]⟩,true,true,[900]⟩
def Ta:Nat->(List Int)×(List Int)->Option A9:=mF nA ui
def alz:CO:=cF nA ui Ta Tryz.func254
def GC N m l b c a d:B0 N (m+1) (l,b,c,a,d)=cond (a<c)
 (aW (aZ b a) λe=>
 aW (GA N (l,e)) λf=>
 aW (eC 8 d [f]) λg=>
 (B0 N m (l,b,c,(wrap .i64 (a+1)),g)))
 (some d):=by kernel_rfl
def aa3 N l a:Ta (N+1) (l,a)=aW (zw N l) λc=>
 cond (!c)
  (some (false,[]))
  (aW (B0 N N (l,a,(List.length a:Int),0,[])) λb=>
  aW (DE N (b,(-1))) λd=>
  some ((!d),b)):=by kernel_rfl
def eE:List CO:=[⟨jw,mB⟩]
def Tb:PS:=⟨[(6,.k (.ow 900)),(25,.h bW),(26,.h j1),(27,.h j1)],[(900,.arr 3 j1 true)],[bW,j1,j1,j6]⟩
def Tc:List (Exit×PS):=[((.exit 2),⟨[(6,.k (.ow 900))],[(900,.arr 3 j1 true)],[j6]⟩)]
def Td:Pl:=.z
def ta:Nat->Nat->A3×Int×Int×(List Int)->Option ((List Int)):=fS eE Tryz.f108 [1,1,1,1,0,1,0,0] Tb Tc Td
def Te:PS:=⟨[(0,.h bW),(3,.h j1),(9,.h bW),(10,.h j1),(11,.h j1)],[],[bW,j1,bW,j1,j1]⟩
def Tf:List (Exit×PS):=[((.exit 0),⟨[(0,.h bW),(3,.h j1)],[],[bW,j1]⟩)]
def Tg:Pl:=.z
def te:Nat->Nat->A3×Int×A3×Int×Int->Option (A3×Int):=fS eE Tryz.f108 [1,1,0,1,0,0] Te Tf Tg
def iJ:FD:=⟨108,Tryz.f108,(.n .z (.n .z (.n (.n .z (.n (.loop Te Tf Tg) .z)) (.n .z (.n (.n .z (.n (.loop Tb Tc Td) .z)) .z))))),[.h bW],[],[bW],⟨[(2,.k (.ow 900))],[(900,.arr 3 j1 true)],[j6]⟩,true,true,[900]⟩
def GD:Nat->A3->Option ((List Int)):=mF eE iJ
def ahv:CO:=cF eE iJ GD Tryz.func108
def tf N m c d a b:ta N (m+1) (c,d,a,b)=cond (a<d)
 (aW (aZ c a) λe=>
 aW (eC 8 b e) λf=>
 (ta N m (c,d,(wrap .i64 (a+1)),f)))
 (some b):=by kernel_rfl
def tg N m c a e d b:te N (m+1) (c,a,e,d,b)=cond (b<d)
 (aW (aZ e b) λf=>
 cond ((wrap .i64 (a+(List.length f:Int)))<0)
  none
  ((te N m (c,(wrap .i64 (a+(List.length f:Int))),e,d,(wrap .i64 (b+1))))))
 (some (c,a)):=by kernel_rfl
def LV N a:GD (N+1) a=aW (te N N (a,0,a,(List.length a:Int),0)) λb=>
 aW (eM N b.2) λd=>
 aW (ta N N (b.1,(List.length b.1:Int),0,[])) λc=>
 some c:=by kernel_rfl
def uj:List CO:=[ahv]
def uk:FD:=⟨255,Tryz.f255,.z,[.h j6,.h j1],[],[j6,j1],⟨[(4,.k (.ow 900))],[(900,.arr 3 j1 true)],[j6]⟩,true,true,[900]⟩
def LW:Nat->(List Int)×Int->Option ((List Int)):=mF uj uk
def ahw:CO:=cF uj uk LW Tryz.func255
def aa4 N l a:LW (N+1) (l,a)=aW (jf l a (List.length l:Int)) λb=>
 aW (jf l 0 a) λc=>
 aW (GD N [b,c]) λd=>
 some d:=by kernel_rfl
def Av:List CO:=[alz,ahw]
def Aw:FD:=⟨214,Tryz.f214,.z,[.h j6,.h j1],[],[j6,j1],⟨[(4,.k (.ow 900)),(5,.h .b)],[(900,.arr 3 j1 true)],[.b,j6]⟩,true,true,[900]⟩
def DF:Nat->(List Int)×Int->Option A9:=mF Av Aw
def ai1:CO:=cF Av Aw DF Tryz.func214
def Xl N l b:DF (N+1) (l,b)=aW (Ta N (l,[b])) λa=>
 cond (!a.1)
  (some (false,[]))
  (aW (aZ a.2 0) λe=>
  aW (aZ a.2 0) λc=>
  aW (LW N (l,c)) λd=>
  some (true,d)):=by kernel_rfl
def DG:List CO:=[IJ]
def DH:FD:=⟨215,Tryz.f215,.z,[.h j1,.h j1,.h j1],[],[j1,j1,j1],⟨[(6,.h j1)],[],[j1]⟩,false,true,[]⟩
def DI:Nat->Int×Int×Int->Option (Int):=mF DG DH
def ai2:CO:=cF DG DH DI Tryz.func215
def Xm N n u v:DI (N+1) (n,u,v)=cond (u=v)
 (some (-1))
 (aW (nz N (n,u)) λa=>
 cond (!a)
  (some (-1))
  (aW (nz N (n,v)) λb=>
  cond (!b)
   (some (-1))
   (some (wrap .i64 ((wrap .i64 (n*(wrap .i64 (u+1))))+v))))):=by kernel_rfl
def wN:List CO:=[Qf,ahu,aaV,ahw]
def wO:FD:=⟨256,Tryz.f256,.z,[.h j6],[],[j6],⟨[(2,.k (.ow 900))],[(900,.arr 3 j1 true)],[j6]⟩,true,true,[900]⟩
def IP:Nat->(List Int)->Option ((List Int)):=mF wN wO
def ai3:CO:=cF wN wO IP Tryz.func256
def Xn N l:IP (N+1) l=aW (zw N l) λa=>
 cond (!a)
  (some [])
  (cond ((List.length l:Int)=0)
   (some [])
   (aW (LG N l) λb=>
   aW (GA N (l,b)) λc=>
   aW (LW N (l,c)) λd=>
   some d)):=by kernel_rfl
def mP:List CO:=[S4,ai3,⟨ei,fO⟩]
def LX:PS:=⟨[(3,.k (.pt 900 0)),(6,.k (.pt 901 0)),(7,.k (.ow 902)),(29,.h bW),(30,.h j1),(31,.h j1)],[(900,.box 80 [.h j1,.h bW]),(901,.box 80 [.h j1,.k .nil]),(902,.arr 33 j6 true)],[bW,j1,j1,j1,bW,j1,bW]⟩
def LY:List (Exit×PS):=[((.exit 2),⟨[(3,.k (.pt 900 0)),(6,.k (.pt 901 0)),(7,.k (.ow 902))],[(900,.box 80 [.h j1,.h bW]),(901,.box 80 [.h j1,.k .nil]),(902,.arr 33 j6 true)],[j1,bW,j1,bW]⟩)]
def LZ:Pl:=.z
def wP:Nat->Nat->A3×Int×Int×Int×A3×Int×A3->Option (Int×A3×Int×A3):=fS mP Tryz.f216 [1,1,1,0,1,0,0] LX LY LZ
def L0:PS:=⟨[(1,.h j6),(2,.h bW),(3,.k (.pt 900 0)),(6,.k (.pt 901 0)),(7,.k (.ow 902)),(13,.h bW),(14,.h j1),(15,.h j1)],[(900,.box 80 [.h j1,.h bW]),(901,.box 80 [.h j1,.k .nil]),(902,.arr 33 j6 true)],[j6,bW,bW,j1,j1,j1,bW,j1,bW]⟩
def L1:List (Exit×PS):=[((.exit 0),⟨[(2,.h bW),(3,.k (.pt 900 0)),(6,.k (.pt 901 0)),(7,.k (.ow 902))],[(900,.box 80 [.h j1,.h bW]),(901,.box 80 [.h j1,.k .nil]),(902,.arr 33 j6 true)],[bW,j1,bW,j1,bW]⟩)]
def L2:Pl:=.z
def oh:Nat->Nat->(List Int)×A3×A3×Int×Int×Int×A3×Int×A3->Option (A3×Int×A3×Int×A3):=fS mP Tryz.f216 [1,1,0,1,0,0] L0 L1 L2
def Ax:FD:=⟨216,Tryz.f216,(.n .z (.n .z (.n (.n .z (.n (.loop L0 L1 L2) .z)) (.n (.n .z (.n (.loop LX LY LZ) .z)) .z)))),[.ag [.h j1,.h bW],.h j6,.h bW],[],[j1,bW,j6,bW],⟨[(6,.k (.pt 900 0))],[(900,.box 80 [.h j1,.h bW])],[j1,bW]⟩,false,false,[]⟩
def IQ:Nat->Int×A3×(List Int)×A3->Option (Int×A3):=mF mP Ax
def ai4:CO:=cF mP Ax IQ Tryz.func216
def DJ N m c d a f b e l:wP N (m+1) (c,d,a,f,b,e,l)=cond (a<d)
 (aW (aZ c a) λg=>
 aW (IP N g) λh=>
 aW (eC 24 l [h]) λi=>
 (wP N m (c,d,(wrap .i64 (a+1)),f,b,e,i)))
 (some (f,b,e,l)):=by kernel_rfl
def vm N m b c e g a f d h l:oh N (m+1) (b,c,e,g,a,f,d,h,l)=cond (a<g)
 (aW (aZ e a) λi=>
 aW (DE N (b,a)) λj=>
 cond (!j)
  (aW (eC 24 l [i]) λk=>
  (oh N m (b,c,e,g,(wrap .i64 (a+1)),f,d,h,k)))
  ((oh N m (b,c,e,g,(wrap .i64 (a+1)),f,d,h,l))))
 (some (c,f,d,h,l)):=by kernel_rfl
def Xo N f b c d:IQ (N+1) (f,b,c,d)=aW (oh N N (c,d,b,(List.length b:Int),0,f,b,0,[])) λa=>
 aW (wP N N (a.1,(List.length a.1:Int),0,a.2.1,a.2.2.1,a.2.2.2.1,a.2.2.2.2)) λe=>
 aW (bq N e.2.2.2) λg=>
 some (e.1,g):=by kernel_rfl
def Ay:List CO:=[ai0,aa2,ai1,ai2,ahv,ai4]
def Az:FD:=⟨176,Tryz.f176,.z,[.ag [.h j1,.h bW],.h j1,.h j1],[],[j1,bW,j1,j1],⟨[(6,.k (.pt 900 0)),(7,.h j1)],[(900,.box 80 [.h j1,.h bW])],[j1,j1,bW]⟩,false,false,[]⟩
def IS:Nat->Int×A3×Int×Int->Option A12:=mF Ay Az
def ai5:CO:=cF Ay Az IS Tryz.func176
def Xp N f a u v:IS (N+1) (f,a,u,v)=aW (IN N (f,a,u,v)) λe=>
 cond (!(e=0))
  (some (e,f,a))
  (aW (zx N (f,a,u)) λb=>
  aW (zx N (f,a,v)) λc=>
  cond (b=c)
   (some (5,f,a))
   (aW (aZ a b) λk=>
   aW (DF N (k,u)) λd=>
   aW (aZ a c) λl=>
   aW (DF N (l,v)) λm=>
   aW (jf d.2 0 1) λn=>
   aW (DI N (f,u,v)) λo=>
   aW (DI N (f,v,u)) λh=>
   aW (jf d.2 1 (List.length d.2:Int)) λi=>
   aW (GD N [n,[o],m.2,[h],i]) λj=>
   aW (IQ N (f,a,[b,c],[j])) λg=>
   some (0,g.1,g.2))):=by kernel_rfl
def fU:List CO:=[alo,aaT,ai5]
def Th:PS:=⟨[(2,.k (.v (.func (.func 176) #[] #[]))),(3,.k (.pt 900 0)),(6,.k (.pt 901 0)),(10,.k (.ow 902)),(23,.h b_),(24,.h j1),(25,.h j1)],[(900,.box 80 [.h j1,.h bW]),(901,.box 80 [.h j1,.k .nil]),(902,.arr 4 .b true)],[b_,j1,j1,j1,bW,j1,j3]⟩
def Ti:List (Exit×PS):=[((.exit 0),⟨[(3,.k (.pt 900 0)),(6,.k (.pt 901 0)),(10,.k (.ow 902))],[(900,.box 80 [.h j1,.h bW]),(901,.box 80 [.h j1,.k .nil]),(902,.arr 4 .b true)],[j1,bW,j1,j3]⟩)]
def Tj:Pl:=.z
def B1:Nat->Nat->A1×Int×Int×Int×A3×Int×(List Bool)->Option (Int×A3×Int×(List Bool)):=fS fU Tryz.f175 [1,1,1,0,1,0,0] Th Ti Tj
def iY:FD:=⟨175,Tryz.f175,(.n .z (.n .z (.n .z (.n (.n .z (.n (.loop Th Ti Tj) .z)) .z)))),[.ag [.h j1,.h bW],.h b_,.k (.v (.func (.func 176) #[] #[]))],[],[j1,bW,b_],⟨[(6,.k (.pt 900 0)),(7,.k (.ow 901)),(8,.h j1)],[(900,.box 80 [.h j1,.h bW]),(901,.arr 4 .b true)],[j1,j1,bW,j3]⟩,true,false,[901]⟩
def aa5:Nat->Int×A3×A1->Option (Int×Int×A3×(List Bool)):=mF fU iY
def alA:CO:=cF fU iY aa5 Tryz.func175
def GG N m d e a f b g c:B1 N (m+1) (d,e,a,f,b,g,c)=cond (a<e)
 (aW (aZ d a) λi=>
 aW (IS N (f,b,i.1,i.2)) λh=>
 aW (eC 1 c [(decide (h.1=0))]) λj=>
 (B1 N m (d,e,(wrap .i64 (a+1)),h.2.1,h.2.2,g,j)))
 (some (f,b,g,c)):=by kernel_rfl
def aa6 N f a l:aa5 (N+1) (f,a,l)=aW (SC N l) λd=>
 aW (Gz N (f,a,d)) λc=>
 cond (!(c=0))
  (some (c,f,a,[]))
  (aW (B1 N N (l,(List.length l:Int),0,f,a,0,[])) λb=>
  some (0,b.1,b.2.1,b.2.2.2)):=by kernel_rfl
def rE:List CO:=[alA]
def rF:FD:=⟨126,Tryz.f126,.z,[.ag [.h j1,.h bW],.h b_],[],[j1,bW,b_],⟨[(4,.k (.pt 900 0)),(5,.k (.ow 901)),(6,.h j1)],[(900,.box 80 [.h j1,.h bW]),(901,.arr 4 .b true)],[j1,j1,bW,j3]⟩,true,false,[901]⟩
def Tl:Nat->Int×A3×A1->Option (Int×Int×A3×(List Bool)):=mF rE rF
def alB:CO:=cF rE rF Tl Tryz.func126
def aa7 N f b l:Tl (N+1) (f,b,l)=aW (aa5 N (f,b,l)) λa=>
 some (a.1,a.2.1,a.2.2.1,a.2.2.2):=by kernel_rfl
def AA:List CO:=[aiW,alB]
def AB:FD:=⟨55,Tryz.f55,.z,[.h j1,.h b_],[],[j1,b_],⟨[(4,.k (.pt 900 0)),(5,.h j1)],[(900,.box 80 [.h j1,.h bW])],[j1,j1,bW]⟩,false,false,[]⟩
def DK:Nat->Int×A1->Option A12:=mF AA AB
def aa8:CO:=cF AA AB DK Tryz.func55
def Xq N n l:DK (N+1) (n,l)=aW (II N n) λa=>
 cond (!(a.1=0))
  (some (a.1,0,[]))
  (aW (Tl N (a.2.1,a.2.2,l)) λb=>
  cond (!(b.1=0))
   (some (b.1,0,[]))
   (some (0,b.2.1,b.2.2.1))):=by kernel_rfl
def nB:List CO:=[ahr,aaF,ahs,aht,aa8]
def Tm:PS:=⟨[(1,.k (.pt 900 0)),(3,.h j1),(23,.h cR),(24,.h j1),(25,.h j1)],[(900,.box 24 [.h j1,.h cR])],[j1,cR,j1,j1,j1,cR]⟩
def Tn:List (Exit×PS):=[((.exit 0),⟨[(1,.k (.pt 900 0))],[(900,.box 24 [.h j1,.h cR])],[j1,cR]⟩),(.ret,⟨[(2,.h .b)],[],[.b]⟩)]
def To:Pl:=.z
def th:Nat->Nat->Int×ff×Int×Int×Int×ff->Option ((Int×ff)⊕(Bool)):=fS nB Tryz.f54 [1,1,1,0,1,0,0] Tm Tn To
def um:FD:=⟨54,Tryz.f54,(.n .z (.n .z (.n .z (.n (.n .z (.n (.loop Tm Tn To) .z)) .z)))),[.ag [.h j1,.h cR]],[],[j1,cR],⟨[(2,.h .b)],[],[.b]⟩,false,true,[]⟩
def mQ:Nat->Int×ff->Option (Bool):=mF nB um
def uo:CO:=cF nB um mQ Tryz.func54
def GH N m d e f b g c:th N (m+1) (d,e,f,b,g,c)=cond (b<f)
 (aW (aZ e b) λa=>
 cond (a.1<0)
  (some (.inr false))
  (cond (a.2.1<=a.1)
   (some (.inr false))
   (cond (g<=a.2.1)
    (some (.inr false))
    (cond (a.2.2.1<0)
     (some (.inr false))
     (cond (d<a.2.2.1)
      (some (.inr false))
      (cond (0<b)
       (aW (aZ c (wrap .i64 (b - 1))) λh=>
       aW (DC N (h.1,h.2.1,h.2.2.1,h.2.2.2,a.1,a.2.1,a.2.2.1,a.2.2.2)) λi=>
       cond (0<=i)
        (some (.inr false))
        ((th N m (d,e,f,(wrap .i64 (b+1)),g,c))))
       ((th N m (d,e,f,(wrap .i64 (b+1)),g,c)))))))))
 (some (.inl (g,c))):=by kernel_rfl
def aa9 N g a:mQ (N+1) (g,a)=aW (LA N g) λe=>
 cond (!e)
  (some false)
  (cond (400<(List.length a:Int))
   (some false)
   (aW (DB N g) λf=>
   aW (th N N (f,a,(List.length a:Int),0,g,a)) λh=>
   (match h with
   |.inl b=>aW (LB N (b.1,b.2,0)) λc=>
    aW (DK N (b.1,c)) λd=>
    cond (d.1=0)
     (some (decide ((List.length d.2.2:Int)=(wrap .i64 (b.1 - (List.length c:Int))))))
     (some false)
   |.inr i=>some i))):=by kernel_rfl
def ql:List CO:=[]
def qm:FD:=⟨96,Tryz.f96,.z,[.h j1],[],[j1],⟨[(2,.h .b)],[],[.b]⟩,false,true,[]⟩
def L3:Nat->Int->Option (Bool):=mF ql qm
def alC:CO:=cF ql qm L3 Tryz.func96
def aa_ N n:L3 (N+1) n=cond (0<=n)
 (some (decide (n<=1099511627776)))
 (some false):=by kernel_rfl
def uq:List CO:=[uo,alC]
def ur:FD:=⟨38,Tryz.f38,.z,[.ag [.h j1,.h cR,.h j1,.h j1]],[],[j1,cR,j1,j1],⟨[(2,.h .b)],[],[.b]⟩,false,true,[]⟩
def qn:Nat->Int×ff×Int×Int->Option (Bool):=mF uq ur
def alD:CO:=cF uq ur qn Tryz.func38
def aba N s a b c:qn (N+1) (s,a,b,c)=aW (mQ N (s,a)) λd=>
 cond d
  (aW (L3 N b) λe=>
  cond e
   (aW (L3 N c) λf=>
   some f)
   (some false))
  (some false):=by kernel_rfl
def AD:List CO:=[]
def AE:FD:=⟨100,Tryz.f100,.z,[.h j1],[],[j1],⟨[(2,.h .b)],[],[.b]⟩,false,true,[]⟩
def vo:Nat->Int->Option (Bool):=mF AD AE
def abb:CO:=cF AD AE vo Tryz.func100
def Xr N n:vo (N+1) n=some (decide (n=(wrap .i64 (wrap .u16 n)))):=by kernel_rfl
def rG:List CO:=[abb]
def rH:FD:=⟨99,Tryz.f99,.z,[.ag [.h j1,.h j1]],[],[j1,j1],⟨[(2,.h .b)],[],[.b]⟩,false,true,[]⟩
def Tp:Nat->Int×Int->Option (Bool):=mF rG rH
def alF:CO:=cF rG rH Tp Tryz.func99
def abc N e a:Tp (N+1) (e,a)=aW (vo N e) λb=>
 cond (!b)
  (some true)
  (aW (vo N a) λc=>
  some (!c)):=by kernel_rfl
def bZ:List CO:=[alF]
def Tq:PS:=⟨[(0,.h b_),(1,.k (.v (.func (.func 99) #[] #[]))),(7,.h j1),(8,.h j1)],[],[b_,j1,j1]⟩
def Ts:List (Exit×PS):=[((.exit 0),⟨[],[],[]⟩),(.ret,⟨[(4,.h j1)],[],[j1]⟩)]
def Tt:Pl:=.z
def B2:Nat->Nat->A1×Int×Int->Option ((Unit)⊕(Int)):=fS bZ Tryz.f168 [1,0,1,0,0] Tq Ts Tt
def dB:FD:=⟨168,Tryz.f168,(.n .z (.n (.n .z (.n (.loop Tq Ts Tt) .z)) .z)),[.h b_,.k (.v (.func (.func 99) #[] #[]))],[],[b_],⟨[(4,.h j1)],[],[j1]⟩,false,true,[]⟩
def abd:Nat->A1->Option (Int):=mF bZ dB
def alG:CO:=cF bZ dB abd Tryz.func168
def GI N m s b a:B2 N (m+1) (s,b,a)=cond (a<b)
 (aW (aZ s a) λc=>
 aW (Tp N (c.1,c.2)) λd=>
 cond d
  (some (.inr a))
  ((B2 N m (s,b,(wrap .i64 (a+1))))))
 (some (.inl ())):=by kernel_rfl
def abe N s:abd (N+1) s=aW (B2 N N (s,(List.length s:Int),0)) λa=>
 (match a with
 |.inl c=>some (-1)
 |.inr b=>some b):=by kernel_rfl
def de:List CO:=[alG]
def dg:FD:=⟨101,Tryz.f101,.z,[.h b_,.k (.v (.func (.func 99) #[] #[]))],[],[b_],⟨[(4,.h .b)],[],[.b]⟩,false,true,[]⟩
def abf:Nat->A1->Option (Bool):=mF de dg
def aoy:CO:=cF de dg abf Tryz.func101
def afW N s:abf (N+1) s=aW (abd N s) λa=>
 some (decide (0<=a)):=by kernel_rfl
def wQ:List CO:=[]
def wR:FD:=⟨103,Tryz.f103,.z,[.h j1],[],[j1],⟨[(2,.h .b)],[],[.b]⟩,false,true,[]⟩
def IT:Nat->Int->Option (Bool):=mF wQ wR
def ai6:CO:=cF wQ wR IT Tryz.func103
def Xs N a:IT (N+1) a=cond (1<=a)
 (some (decide (a<=4)))
 (some false):=by kernel_rfl
def rI:List CO:=[ai6,abb]
def rJ:FD:=⟨102,Tryz.f102,.z,[.ag [.h j1,.h j1,.h j1]],[],[j1,j1,j1],⟨[(2,.h .b)],[],[.b]⟩,false,true,[]⟩
def Tu:Nat->Int×Int×Int->Option (Bool):=mF rI rJ
def alH:CO:=cF rI rJ Tu Tryz.func102
def abg N a b c:Tu (N+1) (a,b,c)=aW (IT N a) λd=>
 cond (!d)
  (some true)
  (aW (vo N b) λe=>
  cond (!e)
   (some true)
   (aW (vo N c) λf=>
   some (!f))):=by kernel_rfl
def cg:List CO:=[alH]
def Tv:PS:=⟨[(0,.h pf),(1,.k (.v (.func (.func 102) #[] #[]))),(7,.h j1),(8,.h j1)],[],[pf,j1,j1]⟩
def Tw:List (Exit×PS):=[((.exit 0),⟨[],[],[]⟩),(.ret,⟨[(4,.h j1)],[],[j1]⟩)]
def Tx:Pl:=.z
def B3:Nat->Nat->(List A4)×Int×Int->Option ((Unit)⊕(Int)):=fS cg Tryz.f169 [1,0,1,0,0] Tv Tw Tx
def dJ:FD:=⟨169,Tryz.f169,(.n .z (.n (.n .z (.n (.loop Tv Tw Tx) .z)) .z)),[.h pf,.k (.v (.func (.func 102) #[] #[]))],[],[pf],⟨[(4,.h j1)],[],[j1]⟩,false,true,[]⟩
def abh:Nat->(List A4)->Option (Int):=mF cg dJ
def alI:CO:=cF cg dJ abh Tryz.func169
def GJ N m s b a:B3 N (m+1) (s,b,a)=cond (a<b)
 (aW (aZ s a) λc=>
 aW (Tu N (c.1,c.2.1,c.2.2)) λd=>
 cond d
  (some (.inr a))
  ((B3 N m (s,b,(wrap .i64 (a+1))))))
 (some (.inl ())):=by kernel_rfl
def abi N s:abh (N+1) s=aW (B3 N N (s,(List.length s:Int),0)) λa=>
 (match a with
 |.inl c=>some (-1)
 |.inr b=>some b):=by kernel_rfl
def dv:List CO:=[alI]
def dw:FD:=⟨104,Tryz.f104,.z,[.h pf,.k (.v (.func (.func 102) #[] #[]))],[],[pf],⟨[(4,.h .b)],[],[.b]⟩,false,true,[]⟩
def abj:Nat->(List A4)->Option (Bool):=mF dv dw
def aoz:CO:=cF dv dw abj Tryz.func104
def afX N s:abj (N+1) s=aW (abh N s) λa=>
 some (decide (0<=a)):=by kernel_rfl
def pg:List CO:=[aoy,aoz]
def L4:PS:=⟨[(1,.k (.pt 900 0)),(6,.h j1)],[(900,.box 30 [.h j1,.h b_,.h pf])],[j1,j1,b_,pf]⟩
def L5:List (Exit×PS):=[(.normal,⟨[(1,.k (.pt 900 0)),(6,.h j1),(7,.h .b)],[(900,.box 30 [.h j1,.h b_,.h pf])],[j1,.b,j1,b_,pf]⟩)]
def L6:Pl:=.z
def L7:Nat->Nat->Int×Int×A1×(List A4)->Option (Int×Bool×Int×A1×(List A4)):=jnF pg Tryz.f41 [1,0,1,0,0] L4 L5 L6
def wS:FD:=⟨41,Tryz.f41,(.n .z (.n (.n .z (.n (.n (.join L4 L5 L6) .z) .z)) .z)),[.ag [.h j1,.h b_,.h pf]],[],[j1,b_,pf],⟨[(2,.h .b)],[],[.b]⟩,false,true,[]⟩
def IU:Nat->Int×A1×(List A4)->Option (Bool):=mF pg wS
def ai7:CO:=cF pg wS IU Tryz.func41
def Qk N m a x b c:L7 N (m+1) (a,x,b,c)=cond (a=1)
 (some (a,true,x,b,c))
 (some (a,(decide (a=2)),x,b,c)):=by kernel_rfl
def Xt N x b c:IU (N+1) (x,b,c)=aW (L7 N N (x,x,b,c)) λa=>
 cond a.2.1
  (cond ((List.length a.2.2.2.2:Int)=0)
   (cond ((List.length a.2.2.2.1:Int)<=60)
    (aW (abf N a.2.2.2.1) λd=>
    some (!d))
    (some false))
   (some false))
  (cond (a.1=3)
   (cond ((List.length a.2.2.2.1:Int)=0)
    (cond ((List.length a.2.2.2.2:Int)<=60)
     (aW (abj N a.2.2.2.2) λe=>
     some (!e))
     (some false))
    (some false))
   (some false)):=by kernel_rfl
def uu:List CO:=[]
def uv:FD:=⟨152,Tryz.f152,.z,[.ag [.h j1,.h j1,.h j1]],[],[j1,j1,j1],⟨[(2,.k (.ow 900))],[(900,.arr 3 j1 true)],[j6]⟩,true,true,[900]⟩
def Ty:Nat->Int×Int×Int->Option ((List Int)):=mF uu uv
def alJ:CO:=cF uu uv Ty Tryz.func152
def abk N a b c:Ty (N+1) (a,b,c)=cond (a=1)
 (some [b,c])
 (cond (a=2)
  (some [b])
  (cond (a=3)
   (some [b])
   (some []))):=by kernel_rfl
def hY:List CO:=[alJ]
def Tz:PS:=⟨[(3,.k (.ow 900)),(24,.h pf),(25,.h j1),(26,.h j1)],[(900,.arr 3 j1 true)],[pf,j1,j1,j6]⟩
def TB:List (Exit×PS):=[((.exit 2),⟨[(3,.k (.ow 900))],[(900,.arr 3 j1 true)],[j6]⟩)]
def TD:Pl:=.z
def B4:Nat->Nat->(List A4)×Int×Int×(List Int)->Option ((List Int)):=fS hY Tryz.f82 [1,1,1,0,1,0,0] Tz TB TD
def TE:PS:=⟨[(1,.k (.pt 900 0)),(3,.k (.ow 901)),(9,.h b_),(10,.h j1),(11,.h j1)],[(900,.box 30 [.h j1,.h b_,.h pf]),(901,.arr 3 j1 true)],[b_,j1,j1,j1,b_,pf,j6]⟩
def TF:List (Exit×PS):=[((.exit 0),⟨[(1,.k (.pt 900 0)),(3,.k (.ow 901))],[(900,.box 30 [.h j1,.h b_,.h pf]),(901,.arr 3 j1 true)],[j1,b_,pf,j6]⟩)]
def TG:Pl:=.z
def B5:Nat->Nat->A1×Int×Int×Int×A1×(List A4)×(List Int)->Option (Int×A1×(List A4)×(List Int)):=fS hY Tryz.f82 [1,1,0,1,0,0] TE TF TG
def oj:FD:=⟨82,Tryz.f82,(.n .z (.n .z (.n (.n .z (.n (.loop TE TF TG) .z)) (.n (.n .z (.n (.loop Tz TB TD) .z)) .z)))),[.ag [.h j1,.h b_,.h pf]],[],[j1,b_,pf],⟨[(2,.k (.ow 900))],[(900,.arr 3 j1 true)],[j6]⟩,true,true,[900]⟩
def TH:Nat->Int×A1×(List A4)->Option ((List Int)):=mF hY oj
def alK:CO:=cF hY oj TH Tryz.func82
def GK N m b c a l:B4 N (m+1) (b,c,a,l)=cond (a<c)
 (aW (aZ b a) λd=>
 aW (Ty N (d.1,d.2.1,d.2.2)) λe=>
 aW (eC 8 l e) λf=>
 (B4 N m (b,c,(wrap .i64 (a+1)),f)))
 (some l):=by kernel_rfl
def GL N m c b a x d e l:B5 N (m+1) (c,b,a,x,d,e,l)=cond (a<b)
 (aW (aZ c a) λf=>
 aW (eC 8 l [f.1,f.2]) λg=>
 (B5 N m (c,b,(wrap .i64 (a+1)),x,d,e,g)))
 (some (x,d,e,l)):=by kernel_rfl
def abl N x a c:TH (N+1) (x,a,c)=aW (B5 N N (a,(List.length a:Int),0,x,a,c,[])) λb=>
 aW (B4 N N (b.2.2.1,(List.length b.2.2.1:Int),0,b.2.2.2)) λd=>
 some d:=by kernel_rfl
def ln:List CO:=[]
def lq:FD:=⟨83,Tryz.f83,.z,[.h j1,.k (.pt 4294967296 0)],[(4294967296,.box 24 [.h j1,.h cR])],[j1,j1,cR],⟨[(3,.h .b)],[(4294967296,.box 24 [.h j1,.h cR])],[.b,j1,cR]⟩,true,false,[4294967296]⟩
def abm:Nat->Int×Int×ff->Option (Bool×Int×ff):=mF ln lq
def alL:CO:=cF ln lq abm Tryz.func83
def abn N v a b:abm (N+1) (v,a,b)=some ((decide (a<=v)),a,b):=by kernel_rfl
def cj:List CO:=[alL]
def TI:PS:=⟨[(0,.h j6),(1,.cl (.func 83) [] [.k (.pt 4294967296 0)]),(7,.h j1),(8,.h j1)],[(4294967296,.box 24 [.h j1,.h cR])],[j6,j1,j1,j1,cR]⟩
def TJ:List (Exit×PS):=[((.exit 0),⟨[],[(4294967296,.box 24 [.h j1,.h cR])],[j1,cR]⟩),(.ret,⟨[(4,.h j1)],[(4294967296,.box 24 [.h j1,.h cR])],[j1,j1,cR]⟩)]
def TK:Pl:=.z
def B6:Nat->Nat->(List Int)×Int×Int×Int×ff->Option ((Int×ff)⊕(Int×Int×ff)):=fS cj Tryz.f116 [1,0,1,0,0] TI TJ TK
def dK:FD:=⟨116,Tryz.f116,(.n .z (.n (.n .z (.n (.loop TI TJ TK) .z)) .z)),[.h j6,.cl (.func 83) [] [.k (.pt 4294967296 0)]],[(4294967296,.box 24 [.h j1,.h cR])],[j6,j1,cR],⟨[(4,.h j1)],[(4294967296,.box 24 [.h j1,.h cR])],[j1,j1,cR]⟩,true,false,[4294967296]⟩
def abo:Nat->(List Int)×Int×ff->Option (Int×Int×ff):=mF cj dK
def alM:CO:=cF cj dK abo atr
def GM N m s d a f c:B6 N (m+1) (s,d,a,f,c)=cond (a<d)
 (aW (aZ s a) λe=>
 aW (abm N (e,f,c)) λb=>
 cond b.1
  (some (.inr (a,b.2.1,b.2.2)))
  ((B6 N m (s,d,(wrap .i64 (a+1)),b.2.1,b.2.2))))
 (some (.inl (f,c))):=by kernel_rfl
def abp N s f b:abo (N+1) (s,f,b)=aW (B6 N N (s,(List.length s:Int),0,f,b)) λd=>
 (match d with
 |.inl c=>some ((-1),c.1,c.2)
 |.inr a=>some (a.1,a.2.1,a.2.2)):=by kernel_rfl
def dx:List CO:=[alM]
def dy:FD:=⟨48,Tryz.f48,.z,[.h j6,.cl (.func 83) [] [.k (.pt 4294967296 0)]],[(4294967296,.box 24 [.h j1,.h cR])],[j6,j1,cR],⟨[(4,.h .b)],[(4294967296,.box 24 [.h j1,.h cR])],[.b,j1,cR]⟩,true,false,[4294967296]⟩
def TM:Nat->(List Int)×Int×ff->Option (Bool×Int×ff):=mF dx dy
def alN:CO:=cF dx dy TM atS
def abq N s f b:TM (N+1) (s,f,b)=aW (abo N (s,f,b)) λa=>
 some ((decide (0<=a.1)),a.2.1,a.2.2):=by kernel_rfl
def wT:List CO:=[]
def wV:FD:=⟨137,Tryz.f137,.z,[.h j1],[],[j1],⟨[(2,.h .b)],[],[.b]⟩,false,true,[]⟩
def DL:Nat->Int->Option (Bool):=mF wT wV
def ai8:CO:=cF wT wV DL Tryz.func137
def Xu N n:DL (N+1) n=cond (0<=n)
 (some (decide (n<65536)))
 (some false):=by kernel_rfl
def AF:List CO:=[ai8]
def AG:FD:=⟨67,Tryz.f67,.z,[.ag [.h j1,.h j1]],[],[j1,j1],⟨[(2,.h j2),(3,.h .b)],[],[j2,.b]⟩,false,true,[]⟩
def IV:Nat->Int×Int->Option (Int×Bool):=mF AF AG
def ai9:CO:=cF AF AG IV Tryz.func67
def Xv N e a:IV (N+1) (e,a)=aW (DL N e) λb=>
 cond (!b)
  (some (0,false))
  (aW (DL N a) λc=>
  cond (!c)
   (some (0,false))
   (some ((Ia .or .u32 (wrap .u32 ((wrap .u32 (if(a<e)then a else e))*((2:Int)^(min (Int.toNat 16) 32)))) (wrap .u32 (if(a>e)then a else e))),true))):=by kernel_rfl
def rK:List CO:=[]
def rL:FD:=⟨226,Tryz.f226,.z,[.h j1],[],[j1],⟨[(2,.h j1)],[],[j1]⟩,false,true,[]⟩
def L8:Nat->Int->Option (Int):=mF rK rL
def ahx:CO:=cF rK rL L8 Tryz.func226
def abr N bits:L8 (N+1) bits=cond (bits<1)
 (some 0)
 (cond (16<bits)
  (some 0)
  (aW (Pq (wrap .i64 ((wrap .i64 (32+bits)) - 1)) bits) λa=>
  some (wrap .i64 a))):=by kernel_rfl
def wW:List CO:=[]
def wX:FD:=⟨279,Tryz.f279,.z,[.h j1],[],[j1],⟨[(2,.h .b)],[],[.b]⟩,false,true,[]⟩
def IW:Nat->Int->Option (Bool):=mF wW wX
def abt:CO:=cF wW wX IW Tryz.func279
def GN N a:IW (N+1) a=cond (1<=a)
 (some (decide (a<=100)))
 (some false):=by kernel_rfl
def uw:List CO:=[abt]
def ux:FD:=⟨280,Tryz.f280,.z,[.h j1,.h j1],[],[j1,j1],⟨[(4,.h j1)],[],[j1]⟩,false,true,[]⟩
def IX:Nat->Int×Int->Option (Int):=mF uw ux
def ai_:CO:=cF uw ux IX Tryz.func280
def Xw N n block:IX (N+1) (n,block)=cond (n<0)
 (some 0)
 (cond (1000<n)
  (some 0)
  (aW (IW N block) λa=>
  cond (!a)
   (some 0)
   (aW (Pq (wrap .i64 ((wrap .i64 (n+block)) - 1)) block) λb=>
   some (wrap .i64 b)))):=by kernel_rfl
def wY:List CO:=[]
def wZ:FD:=⟨79,Tryz.f79,.z,[.ag [.h j1,.h j1,.h b_]],[],[j1,j1,b_],⟨[(2,.h .b)],[],[.b]⟩,false,true,[]⟩
def IY:Nat->Int×Int×A1->Option (Bool):=mF wY wZ
def aja:CO:=cF wY wZ IY Tryz.func79
def GO N p p2 p3:IY (N+1) (p,p2,p3)=cond (1<=p)
 (cond (p<=100)
  (cond (1<=p2)
   (cond (p2<=8)
    (some (decide ((List.length p3:Int)<=4000)))
    (some false))
   (some false))
  (some false))
 (some false):=by kernel_rfl
def rM:List CO:=[]
def rN:FD:=⟨132,Tryz.f132,.z,[.h j1,.h j1],[],[j1,j1],⟨[(4,.h .b)],[],[.b]⟩,false,true,[]⟩
def L9:Nat->Int×Int->Option (Bool):=mF rM rN
def ahy:CO:=cF rM rN L9 Tryz.func132
def abu N n a:L9 (N+1) (n,a)=cond (1<=n)
 (cond (n<=1000)
  (cond (1<=a)
   (some (decide (a<=100)))
   (some false))
  (some false))
 (some false):=by kernel_rfl
def w8:List CO:=[ahy]
def w9:FD:=⟨63,Tryz.f63,.z,[.h j1,.h j1],[],[j1,j1],⟨[(4,.k (.pt 900 0)),(5,.h j1)],[(900,.box 92 [.h fe,.h j1,.h j3])],[j1,fe,j1,j3]⟩,false,false,[]⟩
def IZ:Nat->Int×Int->Option (Int×mL×Int×(List Bool)):=mF w8 w9
def ajb:CO:=cF w8 w9 IZ Tryz.func63
def Xx N n a:IZ (N+1) (n,a)=aW (L9 N (n,a)) λb=>
 cond (!b)
  (some ((1:Int),[],(0:Int),[]))
  (aW (qI n (1:Nat)) λc=>
  some ((0:Int),[((0:Int),n,(-(1:Int)),(0:Int))],a,(List.replicate c false))):=by kernel_rfl
def w_:List CO:=[ajb]
def xa:FD:=⟨25,Tryz.f25,.z,[.h j1,.h j1,.h j1],[],[j1,j1,j1],⟨[(6,.k (.pt 900 0)),(7,.h j1)],[(900,.box 94 [.h fe,.h j1,.h j3,.h bW,.h .b,.h j1,.h j1])],[j1,fe,j1,j3,bW,.b,j1,j1]⟩,false,false,[]⟩
def I0:Nat->Int×Int×Int->Option (Int×mL×Int×(List Bool)×A3×Bool×Int×Int):=mF w_ xa
def ajc:CO:=cF w_ xa I0 Tryz.func25
def Xy N n d c:I0 (N+1) (n,d,c)=cond (c<(1:Int))
 (some ((1:Int),[],(0:Int),[],[],false,(0:Int),(0:Int)))
 (cond ((8:Int)<c)
  (some ((1:Int),[],(0:Int),[],[],false,(0:Int),(0:Int)))
  (aW (IZ N (n,d)) λb=>
  cond (!(b.1=(0:Int)))
   (some (b.1,[],(0:Int),[],[],false,(0:Int),(0:Int)))
   (aW (qI c (24:Nat)) λa=>
   aW (aZ (List.replicate a ([]:List Int)) (0:Int)) λf=>
   aW (aZ (List.replicate a ([]:List Int)) (0:Int)) λe=>
   cond (lX e)
    (aW (aZ (List.replicate a ([]:List Int)) (0:Int)) λg=>
    aW (aZ (List.replicate a ([]:List Int)) (0:Int)) λh=>
    aW (aZ (List.replicate a ([]:List Int)) (0:Int)) λi=>
    some ((0:Int),b.2.1,b.2.2.1,b.2.2.2,(List.set (List.replicate a ([]:List Int)) (Int.toNat (0:Int)) ([]++[(0:Int)])),false,(0:Int),(0:Int)))
    none))):=by kernel_rfl
def pj:List CO:=[ahy]
def L_:PS:=⟨[(1,.k (.pt 900 0)),(25,.h fe),(26,.h j1),(27,.h j1)],[(900,.box 92 [.h fe,.h j1,.h j3])],[fe,j1,j1,fe,j1,j3]⟩
def Ma:List (Exit×PS):=[((.exit 0),⟨[],[],[]⟩),(.ret,⟨[(2,.h .b)],[],[.b]⟩)]
def Mb:Pl:=.z
def xb:Nat->Nat->mL×Int×Int×mL×Int×(List Bool)->Option ((Unit)⊕(Bool)):=fS pj Tryz.f153 [1,1,0,1,0,0] L_ Ma Mb
def xc:FD:=⟨153,Tryz.f153,(.n .z (.n .z (.n (.n .z (.n (.loop L_ Ma Mb) .z)) .z))),[.ag [.h fe,.h j1,.h j3]],[],[fe,j1,j3],⟨[(2,.h .b)],[],[.b]⟩,false,true,[]⟩
def DM:Nat->mL×Int×(List Bool)->Option (Bool):=mF pj xc
def abv:CO:=cF pj xc DM Tryz.func153
def DN N m c d b w f e:xb N (m+1) (c,d,b,w,f,e)=cond (b<d)
 (aW (aZ c b) λa=>
 cond (a.1<0)
  (some (.inr false))
  (cond (a.2.1<=a.1)
   (some (.inr false))
   (cond ((List.length e:Int)<a.2.1)
    (some (.inr false))
    (cond (a.2.2.1<(-1))
     (some (.inr false))
     (cond (b<=a.2.2.1)
      (some (.inr false))
      (cond (a.2.2.2<0)
       (some (.inr false))
       (cond (2<a.2.2.2)
        (some (.inr false))
        ((xb N m (c,d,(wrap .i64 (b+1)),w,f,e))))))))))
 (some (.inl ())):=by kernel_rfl
def Xz N w a b:DM (N+1) (w,a,b)=aW (L9 N ((List.length b:Int),a)) λc=>
 cond (!c)
  (some false)
  (cond ((List.length w:Int)=0)
   (some false)
   (cond (2000<(List.length w:Int))
    (some false)
    (aW (xb N N (w,(List.length w:Int),0,w,a,b)) λd=>
    (match d with
    |.inl f=>some true
    |.inr e=>some e)))):=by kernel_rfl
def rO:List CO:=[]
def rP:FD:=⟨154,Tryz.f154,.z,[.h j1],[],[j1],⟨[(2,.h .b)],[],[.b]⟩,false,true,[]⟩
def Mc:Nat->Int->Option (Bool):=mF rO rP
def alO:CO:=cF rO rP Mc Tryz.func154
def abw N n:Mc (N+1) n=cond (0<=n)
 (some (decide (n<=100000)))
 (some false):=by kernel_rfl
def xd:List CO:=[abv]
def xe:FD:=⟨251,Tryz.f251,.z,[.ag [.h fe,.h j1,.h j3],.h j1],[],[fe,j1,j3,j1],⟨[(4,.h j1)],[],[j1]⟩,false,true,[]⟩
def zy:Nat->mL×Int×(List Bool)×Int->Option (Int):=mF xd xe
def Ql:CO:=cF xd xe zy Tryz.func251
def XA N w a b i:zy (N+1) (w,a,b,i)=aW (DM N (w,a,b)) λc=>
 cond (!c)
  (some 1)
  (cond (i<0)
   (some 6)
   (cond ((List.length w:Int)<=i)
    (some 6)
    (some 0))):=by kernel_rfl
def xf:List CO:=[]
def xg:FD:=⟨252,Tryz.f252,.z,[.ag [.h j1,.h j1,.h j1,.h j1]],[],[j1,j1,j1,j1],⟨[(2,.h j1)],[],[j1]⟩,false,true,[]⟩
def vp:Nat->Int×Int×Int×Int->Option (Int):=mF xf xg
def Qm:CO:=cF xf xg vp Tryz.func252
def XB N t a b c:vp (N+1) (t,a,b,c)=some (wrap .i64 (a - t)):=by kernel_rfl
def xh:List CO:=[Ql,Qm]
def xi:FD:=⟨205,Tryz.f205,.z,[.ag [.h fe,.h j1,.h j3],.h j1],[],[fe,j1,j3,j1],⟨[(4,.h .b)],[],[.b]⟩,false,true,[]⟩
def DO:Nat->mL×Int×(List Bool)×Int->Option (Bool):=mF xh xi
def abx:CO:=cF xh xi DO Tryz.func205
def XC N w b c i:DO (N+1) (w,b,c,i)=aW (zy N (w,b,c,i)) λd=>
 cond (d=0)
  (aW (aZ w i) λa=>
  aW (vp N (a.1,a.2.1,a.2.2.1,a.2.2.2)) λe=>
  some (decide (b<e)))
  (some false):=by kernel_rfl
def xj:List CO:=[abx]
def xk:FD:=⟨155,Tryz.f155,.z,[.ag [.h fe,.h j1,.h j3],.h j1],[],[fe,j1,j3,j1],⟨[(4,.h .b)],[],[.b]⟩,false,true,[]⟩
def I1:Nat->mL×Int×(List Bool)×Int->Option (Bool):=mF xj xk
def ajd:CO:=cF xj xk I1 Tryz.func155
def XD N w b a t:I1 (N+1) (w,b,a,t)=cond (0<=t)
 (cond (t<(List.length w:Int))
  (aW (aZ w t) λc=>
  cond (c.2.2.2=0)
   (aW (DO N (w,b,a,t)) λd=>
   cond d
    (some true)
    (aW (aZ w t) λe=>
    aW (aZ a e.1) λf=>
    some (!f)))
   (some false))
  (some false))
 (some false):=by kernel_rfl
def lF:List CO:=[abv,alO,ajd]
def Md:PS:=⟨[(1,.k (.pt 900 0)),(3,.k (.mp 901)),(38,.h bW),(39,.h j1),(40,.h j1),(44,.h j6),(45,.h j1),(46,.h j1)],[(900,.box 94 [.h fe,.h j1,.h j3,.h bW,.h .b,.h j1,.h j1]),(901,.mp (.int .i64) j1 j1)],[bW,j1,j1,j6,j1,j1,fe,j1,j3,bW,.b,j1,j1,b_]⟩
def Mf:List (Exit×PS):=[((.exit 2),⟨[(1,.k (.pt 900 0)),(3,.k (.mp 901)),(38,.h bW),(39,.h j1),(40,.h j1)],[(900,.box 94 [.h fe,.h j1,.h j3,.h bW,.h .b,.h j1,.h j1]),(901,.mp (.int .i64) j1 j1)],[bW,j1,j1,fe,j1,j3,bW,.b,j1,j1,b_]⟩),(.ret,⟨[(2,.h .b)],[],[.b]⟩)]
def Mg:Pl:=.z
def xl:Nat->Nat->A3×Int×Int×(List Int)×Int×Int×mL×Int×(List Bool)×A3×Bool×Int×Int×A1->Option ((A3×Int×Int×mL×Int×(List Bool)×A3×Bool×Int×Int×A1)⊕(Bool)):=fS lF Tryz.f85 [1,1,1,0,1,0,0,1,1,0,0,1,1,0,0] Md Mf Mg
def Mh:PS:=⟨[(1,.k (.pt 900 0)),(3,.k (.mp 901)),(38,.h bW),(39,.h j1),(40,.h j1)],[(900,.box 94 [.h fe,.h j1,.h j3,.h bW,.h .b,.h j1,.h j1]),(901,.mp (.int .i64) j1 j1)],[bW,j1,j1,fe,j1,j3,bW,.b,j1,j1,b_]⟩
def Mi:List (Exit×PS):=[((.exit 0),⟨[],[],[]⟩),(.ret,⟨[(2,.h .b)],[],[.b]⟩)]
def Mj:Pl:=(.n .z (.n .z (.n (.n (.n .z (.n .z (.n (.loop Md Mf Mg) .z))) .z) .z)))
def xn:Nat->Nat->A3×Int×Int×mL×Int×(List Bool)×A3×Bool×Int×Int×A1->Option ((Unit)⊕(Bool)):=fS lF Tryz.f85 [1,1,1,0,1,0,0] Mh Mi Mj
def xo:FD:=⟨85,Tryz.f85,(.n .z (.n .z (.n .z (.n (.n .z (.n (.loop Mh Mi Mj) .z)) .z)))),[.ag [.h fe,.h j1,.h j3,.h bW,.h .b,.h j1,.h j1]],[],[fe,j1,j3,bW,.b,j1,j1],⟨[(2,.h .b)],[],[.b]⟩,false,true,[]⟩
def I2:Nat->mL×Int×(List Bool)×A3×Bool×Int×Int->Option (Bool):=mF lF xo
def aje:CO:=cF lF xo I2 Tryz.func85
def DP N m k l n o p f c d e g h i j a:xl N (m+1) (k,l,n,o,p,f,c,d,e,g,h,i,j,a)=cond (f<p)
 (aW (aZ o f) λb=>
 cond (1<(Option.getD (bC j1 (dI j1 a b (wrap .i64 ((Option.getD (bC j1 a b) 0)+1))) b) 0))
  (some (.inr false))
  (aW (I1 N (c,d,e,b)) λq=>
  cond (!q)
   (some (.inr false))
   ((xl N m (k,l,n,o,p,(wrap .i64 (f+1)),c,d,e,g,h,i,j,(dI j1 a b (wrap .i64 ((Option.getD (bC j1 a b) 0)+1))))))))
 (some (.inl (k,l,n,c,d,e,g,h,i,j,a))):=by kernel_rfl
def DQ N m d e b c f g h i j k l:xn N (m+1) (d,e,b,c,f,g,h,i,j,k,l)=cond (b<e)
 (aW (aZ d b) λn=>
 aW (xl N N (d,e,b,n,(List.length n:Int),0,c,f,g,h,i,j,k,l)) λo=>
 (match o with
 |.inl a=>(xn N m (a.1,a.2.1,(wrap .i64 (a.2.2.1+1)),a.2.2.2.1,a.2.2.2.2.1,a.2.2.2.2.2.1,a.2.2.2.2.2.2.1,a.2.2.2.2.2.2.2.1,a.2.2.2.2.2.2.2.2.1,a.2.2.2.2.2.2.2.2.2.1,a.2.2.2.2.2.2.2.2.2.2))
 |.inr p=>some (.inr p)))
 (some (.inl ())):=by kernel_rfl
def XE N c b d a g e f:I2 (N+1) (c,b,d,a,g,e,f)=aW (DM N (c,b,d)) λh=>
 cond (!h)
  (some false)
  (cond ((List.length a:Int)=0)
   (some false)
   (cond (8<(List.length a:Int))
    (some false)
    (aW (Mc N e) λi=>
    cond (!i)
     (some false)
     (aW (Mc N f) λj=>
     cond (!j)
      (some false)
      (aW (xn N N (a,(List.length a:Int),0,c,b,d,a,g,e,f,[])) λk=>
      (match k with
      |.inl m=>some true
      |.inr l=>some l)))))):=by kernel_rfl
def im:List CO:=[]
def iq:FD:=⟨247,Tryz.f247,.z,[.h bW],[],[bW],⟨[(2,.k (.ow 900))],[(900,.arr 33 j6 true)],[bW]⟩,true,false,[900]⟩
def TN:Nat->A3->Option (A3):=mF im iq
def alP:CO:=cF im iq TN Tryz.func247
def aby N s:TN (N+1) s=cond (oY s)
 (dem λc=>
 cond c
  (some [])
  (aW (eC 24 [] s) λa=>
  some a))
 (aW (eC 24 [] s) λb=>
 some b):=by kernel_rfl
def eP:List CO:=[]
def eQ:FD:=⟨248,Tryz.f248,.z,[.k (.pt 4294967296 0),.h j1],[(4294967296,.box 346 [.h fe,.h j1,.h j3,.k (.ow 4294967297),.h .b,.h j1,.h j1,.h j1,.h j1,.h j1,.h .b]),(4294967297,.arr 33 j6 true)],[j1,fe,j1,j3,.b,j1,j1,j1,j1,j1,.b,bW],⟨[(4,.h j1)],[(4294967297,.arr 33 j6 true),(4294967296,.box 346 [.h fe,.h j1,.h j3,.k (.ow 4294967297),.h .b,.h j1,.h j1,.h j1,.h j1,.h j1,.h .b])],[j1,bW,fe,j1,j3,.b,j1,j1,j1,j1,j1,.b]⟩,true,false,[4294967297,4294967296]⟩
def Ml:Nat->Int×mL×Int×(List Bool)×Bool×Int×Int×Int×Int×Int×Bool×A3->Option (Int×A3×mL×Int×(List Bool)×Bool×Int×Int×Int×Int×Int×Bool):=mF eP eQ
def alQ:CO:=cF eP eQ Ml Tryz.func248
def abz N n s b c d e f g i j a h:Ml (N+1) (n,s,b,c,d,e,f,g,i,j,a,h)=aW (FJ n (List.length h:Int)) λk=>
 aW (FJ (wrap .i64 (k+(List.length h:Int))) (List.length h:Int)) λl=>
 some (l,h,s,b,c,d,e,f,g,i,j,a):=by kernel_rfl
def eZ:List CO:=[]
def e5:FD:=⟨249,Tryz.f249,.z,[.k (.pt 4294967296 0),.h j1,.h j1],[(4294967296,.box 346 [.h fe,.h j1,.h j3,.k (.ow 4294967297),.h .b,.h j1,.h j1,.h j1,.h j1,.h j1,.h .b]),(4294967297,.arr 33 j6 true)],[j1,j1,fe,j1,j3,.b,j1,j1,j1,j1,j1,.b,bW],⟨[(6,.h .b)],[(4294967297,.arr 33 j6 true),(4294967296,.box 346 [.h fe,.h j1,.h j3,.k (.ow 4294967297),.h .b,.h j1,.h j1,.h j1,.h j1,.h j1,.h .b])],[.b,bW,fe,j1,j3,.b,j1,j1,j1,j1,j1,.b]⟩,true,false,[4294967297,4294967296]⟩
def AH:Nat->Int×Int×mL×Int×(List Bool)×Bool×Int×Int×Int×Int×Int×Bool×A3->Option (Bool×A3×mL×Int×(List Bool)×Bool×Int×Int×Int×Int×Int×Bool):=mF eZ e5
def alR:CO:=cF eZ e5 AH Tryz.func249
def DR N p v s c d e f g i k l b h:AH (N+1) (p,v,s,c,d,e,f,g,i,k,l,b,h)=aW (aZ h p) λr=>
 aW (aZ h p) λa=>
 aW (aZ h v) λw=>
 aW (aZ h v) λj=>
 cond (0<=(wrap .i64 ((List.length a:Int) - 1)))
  (aW (aZ a (wrap .i64 ((List.length a:Int) - 1))) λn=>
  aW (KL a 0 (wrap .i64 ((List.length a:Int) - 1)) (wrap .i64 ((List.length a:Int) - 1))) λo=>
  cond ((wrap .i64 ((List.length a:Int) - 1))=(wrap .i64 ((List.length a:Int) - 1)))
   (aW (aZ h p) λx=>
   aW (aZ h p) λy=>
   some (true,(List.set h (Int.toNat p) o),s,c,d,e,f,g,i,p,n,b))
   none)
  (cond (0<(List.length j:Int))
   (aW (aZ j 0) λq=>
   aW (jf j 1 (List.length j:Int)) λm=>
   aW (aZ h v) λt=>
   aW (aZ h v) λu=>
   some (true,(List.set h (Int.toNat v) m),s,c,d,e,f,g,i,v,q,b))
   (some (false,h,s,c,d,e,f,g,i,k,l,b))):=by kernel_rfl
def fg:List CO:=[]
def fi:FD:=⟨286,Tryz.f286,.z,[.h fe],[],[fe],⟨[(2,.k (.ow 900))],[(900,.arr 195 j15 true)],[fe]⟩,true,true,[900]⟩
def Mm:Nat->mL->Option (mL):=mF fg fi
def ahz:CO:=cF fg fi Mm Tryz.func286
def abA N s:Mm (N+1) s=cond (oY s)
 (dem λc=>
 cond c
  (some [])
  (aW (eC 32 [] s) λa=>
  some a))
 (aW (eC 32 [] s) λb=>
 some b):=by kernel_rfl
def AI:List CO:=[Ql,Qm,ahz]
def AJ:FD:=⟨274,Tryz.f274,.z,[.ag [.h fe,.h j1,.h j3],.h j1],[],[fe,j1,j3,j1],⟨[(4,.k (.pt 900 0)),(5,.h j1),(6,.h j1),(7,.h j1)],[(900,.box 92 [.h fe,.h j1,.h j3])],[j1,j1,j1,fe,j1,j3]⟩,false,false,[]⟩
def I3:Nat->mL×Int×(List Bool)×Int->Option (Int×Int×Int×mL×Int×(List Bool)):=mF AI AJ
def ajf:CO:=cF AI AJ I3 Tryz.func274
def XF N w b c i:I3 (N+1) (w,b,c,i)=aW (zy N (w,b,c,i)) λf=>
 cond (!(f=0))
  (some (0,0,f,w,b,c))
  (aW (aZ w i) λa=>
  aW (vp N (a.1,a.2.1,a.2.2.1,a.2.2.2)) λh=>
  cond (h<=b)
   (some (0,0,5,w,b,c))
   (cond (0<a.2.2.2)
    (some (0,0,5,w,b,c))
    (cond (2000<(wrap .i64 ((List.length w:Int)+2)))
     (some (0,0,2,w,b,c))
     (aW (vp N (a.1,a.2.1,a.2.2.1,a.2.2.2)) λg=>
     aW (Mm N w) λj=>
     aW (eC 32 j [(a.1,(wrap .i64 (a.1+(wrap .i64 (Int.tdiv g 2)))),i,0),((wrap .i64 (a.1+(wrap .i64 (Int.tdiv g 2)))),a.2.1,i,0)]) λd=>
     aW (aZ d i) λk=>
     aW (aZ d i) λe=>
     some ((List.length w:Int),(wrap .i64 ((List.length w:Int)+1)),0,(List.set d (Int.toNat i) (e.1,e.2.1,e.2.2.1,2)),b,c))))):=by kernel_rfl
def jy:List CO:=[]
def jz:FD:=⟨275,Tryz.f275,.z,[.h j6],[],[j6],⟨[(2,.t j1)],[],[j6]⟩,false,false,[]⟩
def TO:Nat->(List Int)->Option ((List Int)):=mF jy jz
def alS:CO:=cF jy jz TO Tryz.func275
def abB N s:TO (N+1) s=aW (KL s 0 (List.length s:Int) (List.length s:Int)) λa=>
 cond ((List.length s:Int)=(List.length s:Int))
  (some a)
  none:=by kernel_rfl
def iu:List CO:=[]
def iv:FD:=⟨287,Tryz.f287,.z,[.h j3],[],[j3],⟨[(2,.k (.ow 900))],[(900,.arr 4 .b true)],[j3]⟩,true,true,[900]⟩
def TP:Nat->(List Bool)->Option ((List Bool)):=mF iu iv
def alT:CO:=cF iu iv TP Tryz.func287
def abC N s:TP (N+1) s=cond (oY s)
 (dem λc=>
 cond c
  (some [])
  (aW (eC 1 [] s) λa=>
  some a))
 (aW (eC 1 [] s) λb=>
 some b):=by kernel_rfl
def k_:List CO:=[]
def TQ:PS:=⟨[(0,.k (.ow 4294967296)),(1,.h j1)],[(4294967296,.arr 195 j15 true)],[j1,fe]⟩
def TS:List (Exit×PS):=[((.exit 0),⟨[],[(4294967296,.arr 195 j15 true)],[fe]⟩),(.ret,⟨[(4,.h .b)],[(4294967296,.arr 195 j15 true)],[.b,fe]⟩)]
def TT:Pl:=.z
def B7:Nat->Nat->Int×mL->Option ((mL)⊕(Bool×mL)):=fS k_ Tryz.f288 [1,0,0,0] TQ TS TT
def qo:FD:=⟨288,Tryz.f288,(.n .z (.n (.n (.loop TQ TS TT) .z) .z)),[.k (.ow 4294967296),.h j1],[(4294967296,.arr 195 j15 true)],[j1,fe],⟨[(4,.h .b)],[(4294967296,.arr 195 j15 true)],[.b,fe]⟩,true,true,[4294967296]⟩
def abD:Nat->Int×mL->Option (Bool×mL):=mF k_ qo
def alU:CO:=cF k_ qo abD Tryz.func288
def ti N m a c:B7 N (m+1) (a,c)=cond (!(a=(-1)))
 (aW (aZ c a) λh=>
 aW (aZ c a) λe=>
 cond (e.2.2.2=0)
  (some (.inr (false,c)))
  (aW (aZ c a) λd=>
  aW (aZ c a) λb=>
  aW (aZ (List.set c (Int.toNat a) (b.1,b.2.1,b.2.2.1,(wrap .i64 (d.2.2.2 - 1)))) a) λf=>
  cond (0<f.2.2.2)
   (some (.inr (false,(List.set c (Int.toNat a) (b.1,b.2.1,b.2.2.1,(wrap .i64 (d.2.2.2 - 1)))))))
   (aW (aZ (List.set c (Int.toNat a) (b.1,b.2.1,b.2.2.1,(wrap .i64 (d.2.2.2 - 1)))) a) λg=>
   (B7 N m (g.2.2.1,(List.set c (Int.toNat a) (b.1,b.2.1,b.2.2.1,(wrap .i64 (d.2.2.2 - 1)))))))))
 (some (.inl c)):=by kernel_rfl
def abE N b a:abD (N+1) (b,a)=aW (B7 N N (b,a)) λd=>
 (match d with
 |.inl e=>some (true,e)
 |.inr c=>some (c.1,c.2)):=by kernel_rfl
def zA:List CO:=[Ql,Qm,ahz,alT,alU]
def Mn:PS:=⟨[(2,.k (.pt 900 0)),(4,.k (.pt 901 0)),(8,.k (.pt 902 0)),(9,.h j1)],[(900,.box 92 [.k (.ow 903),.h j1,.k (.ow 904)]),(901,.box 92 [.k .nil,.h j1,.k .nil]),(902,.box 195 [.h j1,.h j1,.h j1,.h j1]),(903,.arr 195 j15 true),(904,.arr 4 .b true)],[j1,j1,j1,j1,j1,j1,j1,fe,j3]⟩
def Mo:List (Exit×PS):=[((.exit 0),⟨[(2,.k (.pt 900 0)),(4,.k (.pt 901 0)),(8,.k (.pt 902 0))],[(900,.box 92 [.k (.ow 903),.h j1,.k (.ow 904)]),(901,.box 92 [.k .nil,.h j1,.k .nil]),(902,.box 195 [.h j1,.h j1,.h j1,.h j1]),(903,.arr 195 j15 true),(904,.arr 4 .b true)],[j1,j1,j1,j1,j1,j1,fe,j3]⟩)]
def Mp:Pl:=.z
def xp:Nat->Nat->Int×Int×Int×Int×Int×Int×Int×mL×(List Bool)->Option (Int×Int×Int×Int×Int×Int×mL×(List Bool)):=fS zA Tryz.f276 [1,1,1,1,1,0,1,0,0] Mn Mo Mp
def GP:FD:=⟨276,Tryz.f276,(.n .z (.n .z (.n .z (.n .z (.n .z (.n (.n .z (.n (.loop Mn Mo Mp) .z)) .z)))))),[.ag [.h fe,.h j1,.h j3],.h j1],[],[fe,j1,j3,j1],⟨[(4,.k (.pt 900 0)),(5,.h .b),(6,.h j1)],[(900,.box 92 [.h fe,.h j1,.h j3])],[.b,j1,fe,j1,j3]⟩,false,false,[]⟩
def I4:Nat->mL×Int×(List Bool)×Int->Option (Bool×Int×mL×Int×(List Bool)):=mF zA GP
def ajg:CO:=cF zA GP I4 Tryz.func276
def DU N m k w e t b c d f a:xp N (m+1) (k,w,e,t,b,c,d,f,a)=cond (k<b)
 (aW (aZ a k) λg=>
 aW (aZ a k) λh=>
 (xp N m ((wrap .i64 (k+1)),w,e,t,b,c,d,f,(List.set a (Int.toNat k) true))))
 (some (w,e,t,b,c,d,f,a)):=by kernel_rfl
def XG N w b c i:I4 (N+1) (w,b,c,i)=aW (zy N (w,b,c,i)) λe=>
 cond (!(e=0))
  (some (false,e,w,b,c))
  (aW (aZ w i) λa=>
  aW (vp N (a.1,a.2.1,a.2.2.1,a.2.2.2)) λg=>
  cond (b<g)
   (some (false,5,w,b,c))
   (cond (0<a.2.2.2)
    (some (false,5,w,b,c))
    (aW (aZ c a.1) λh=>
    cond h
     (some (false,5,w,b,c))
     (aW (Mm N w) λj=>
     aW (TP N c) λk=>
     aW (xp N N (a.1,b,0,a.1,a.2.1,a.2.2.1,a.2.2.2,j,k)) λd=>
     aW (abD N (d.2.2.2.2.1,d.2.2.2.2.2.2.1)) λf=>
     some (f.1,0,f.2,d.1,d.2.2.2.2.2.2.2))))):=by kernel_rfl
def fB:List CO:=[abx,ajf,alS,ajg]
def fC:FD:=⟨250,Tryz.f250,.z,[.k (.pt 4294967296 0),.h j1],[(4294967296,.box 346 [.h fe,.h j1,.h j3,.k (.ow 4294967297),.h .b,.h j1,.h j1,.h j1,.h j1,.h j1,.h .b]),(4294967297,.arr 33 j6 true)],[j1,fe,j1,j3,.b,j1,j1,j1,j1,j1,.b,bW],⟨[(4,.h j1)],[(4294967297,.arr 33 j6 true),(4294967296,.box 346 [.h fe,.h j1,.h j3,.k (.ow 4294967297),.h .b,.h j1,.h j1,.h j1,.h j1,.h j1,.h .b])],[j1,bW,fe,j1,j3,.b,j1,j1,j1,j1,j1,.b]⟩,true,false,[4294967297,4294967296]⟩
def Mq:Nat->Int×mL×Int×(List Bool)×Bool×Int×Int×Int×Int×Int×Bool×A3->Option (Int×A3×mL×Int×(List Bool)×Bool×Int×Int×Int×Int×Int×Bool):=mF fB fC
def alV:CO:=cF fB fC Mq Tryz.func250
def Mr N p s j k l d e f g c i h:Mq (N+1) (p,s,j,k,l,d,e,f,g,c,i,h)=aW (DO N (s,j,k,c)) λm=>
 cond m
  (aW (I3 N (s,j,k,c)) λa=>
  cond (a.2.2.1=0)
   (aW (aZ h p) λr=>
   aW (aZ h p) λn=>
   aW (TO N n) λo=>
   aW (eC 8 o [a.2.1,a.1]) λq=>
   aW (aZ h p) λt=>
   aW (aZ h p) λu=>
   some (a.2.2.1,(List.set h (Int.toNat p) q),a.2.2.2.1,a.2.2.2.2.1,a.2.2.2.2.2,l,d,e,f,g,c,true))
   (some (a.2.2.1,h,a.2.2.2.1,a.2.2.2.2.1,a.2.2.2.2.2,l,d,e,f,g,c,i)))
  (aW (I4 N (s,j,k,c)) λb=>
  cond l
   (some (b.2.1,h,b.2.2.1,b.2.2.2.1,b.2.2.2.2,true,d,e,f,g,c,i))
   (some (b.2.1,h,b.2.2.1,b.2.2.2.1,b.2.2.2.2,b.1,d,e,f,g,c,i))):=by kernel_rfl
def AK:List CO:=[aje,alP,alQ,alR,alV]
def AM:FD:=⟨203,Tryz.f203,.z,[.ag [.h fe,.h j1,.h j3,.h bW,.h .b,.h j1,.h j1],.h j1,.h j1],[],[fe,j1,j3,bW,.b,j1,j1,j1,j1],⟨[(6,.k (.pt 900 0)),(7,.k (.pt 901 0)),(8,.h j1)],[(900,.box 94 [.h fe,.h j1,.h j3,.h bW,.h .b,.h j1,.h j1]),(901,.box 254 [.h j1,.h j1,.h j1,.h .b])],[j1,fe,j1,j3,bW,.b,j1,j1,j1,j1,j1,.b]⟩,false,false,[]⟩
def zB:Nat->mL×Int×(List Bool)×A3×Bool×Int×Int×Int×Int->Option (Int×mL×Int×(List Bool)×A3×Bool×Int×Int×Int×Int×Int×Bool):=mF AK AM
def abF:CO:=cF AK AM zB Tryz.func203
def XH N c g h i j f k p v:zB (N+1) (c,g,h,i,j,f,k,p,v)=aW (I2 N (c,g,h,i,j,f,k)) λl=>
 cond (!l)
  (some (1,c,g,h,i,j,f,k,0,0,0,false))
  (cond (f=100000)
   (some (2,c,g,h,i,j,f,k,0,0,0,false))
   (aW (TN N i) λm=>
   aW (Ml N (p,c,g,h,j,f,k,0,(-1),(-1),false,m)) λb=>
   aW (Ml N (v,b.2.2.1,b.2.2.2.1,b.2.2.2.2.1,b.2.2.2.2.2.1,b.2.2.2.2.2.2.1,b.2.2.2.2.2.2.2.1,b.2.2.2.2.2.2.2.2.1,b.2.2.2.2.2.2.2.2.2.1,b.2.2.2.2.2.2.2.2.2.2.1,b.2.2.2.2.2.2.2.2.2.2.2,b.2.1)) λe=>
   aW (AH N (b.1,e.1,e.2.2.1,e.2.2.2.1,e.2.2.2.2.1,e.2.2.2.2.2.1,(wrap .i64 (e.2.2.2.2.2.2.1+1)),e.2.2.2.2.2.2.2.1,b.1,e.2.2.2.2.2.2.2.2.2.1,e.2.2.2.2.2.2.2.2.2.2.1,e.2.2.2.2.2.2.2.2.2.2.2,e.2.1)) λa=>
   cond a.1
    (aW (Mq N (b.1,a.2.2.1,a.2.2.2.1,a.2.2.2.2.1,a.2.2.2.2.2.1,a.2.2.2.2.2.2.1,a.2.2.2.2.2.2.2.1,a.2.2.2.2.2.2.2.2.1,a.2.2.2.2.2.2.2.2.2.1,a.2.2.2.2.2.2.2.2.2.2.1,a.2.2.2.2.2.2.2.2.2.2.2,a.2.1)) λd=>
    cond (!(d.1=0))
     (some (d.1,c,g,h,i,j,f,k,0,0,0,false))
     (some (0,d.2.2.1,d.2.2.2.1,d.2.2.2.2.1,d.2.1,d.2.2.2.2.2.1,d.2.2.2.2.2.2.1,d.2.2.2.2.2.2.2.1,d.2.2.2.2.2.2.2.2.1,d.2.2.2.2.2.2.2.2.2.1,d.2.2.2.2.2.2.2.2.2.2.1,d.2.2.2.2.2.2.2.2.2.2.2)))
    (cond (a.2.2.2.2.2.2.2.1=100000)
     (some (2,c,g,h,i,j,f,k,0,0,0,false))
     (some (0,a.2.2.1,a.2.2.2.1,a.2.2.2.2.1,a.2.1,a.2.2.2.2.2.1,a.2.2.2.2.2.2.1,(wrap .i64 (a.2.2.2.2.2.2.2.1+1)),a.2.2.2.2.2.2.2.2.1,a.2.2.2.2.2.2.2.2.2.1,a.2.2.2.2.2.2.2.2.2.2.1,a.2.2.2.2.2.2.2.2.2.2.2))))):=by kernel_rfl
def gO:List CO:=[abF]
def gP:FD:=⟨150,Tryz.f150,.z,[.k (.pt 4294967296 0),.h j1,.h j1],[(4294967296,.box 250 [.h fe,.h j1,.h j3,.h bW,.h .b,.h j1,.h j1,.k .nil])],[j1,j1,fe,j1,j3,bW,.b,j1,j1],⟨[(6,.h j1)],[(4294967296,.box 250 [.h fe,.h j1,.h j3,.h bW,.h .b,.h j1,.h j1,.k (.ow 900)]),(900,.arr 254 qf true)],[j1,fe,j1,j3,bW,.b,j1,j1,cR]⟩,true,false,[4294967296,900]⟩
def alW:Nat->Int×Int×mL×Int×(List Bool)×A3×Bool×Int×Int->Option A14:=mF gO gP
def alX:CO:=cF gO gP alW Tryz.func150
def gQ:List CO:=[abF]
def gR:FD:=⟨150,Tryz.f150,.z,[.k (.pt 4294967296 0),.h j1,.h j1],[(4294967296,.box 250 [.h fe,.h j1,.h j3,.h bW,.h .b,.h j1,.h j1,.k (.ow 4294967297)]),(4294967297,.arr 254 qf true)],[j1,j1,fe,j1,j3,bW,.b,j1,j1,cR],⟨[(6,.h j1)],[(4294967296,.box 250 [.h fe,.h j1,.h j3,.h bW,.h .b,.h j1,.h j1,.k (.ow 901)]),(901,.arr 254 qf true)],[j1,fe,j1,j3,bW,.b,j1,j1,cR]⟩,true,false,[4294967296,901]⟩
def Ms:Nat->Int×Int×mL×Int×(List Bool)×A3×Bool×Int×Int×ff->Option A14:=mF gQ gR
def ahA:CO:=cF gQ gR Ms Tryz.func150
def abG N p v g b c d e f i h:Ms (N+1) (p,v,g,b,c,d,e,f,i,h)=aW (zB N (g,b,c,d,e,f,i,p,v)) λa=>
 cond (a.1=0)
  (aW (eC 32 h [(a.2.2.2.2.2.2.2.2.1,a.2.2.2.2.2.2.2.2.2.1,a.2.2.2.2.2.2.2.2.2.2.1,a.2.2.2.2.2.2.2.2.2.2.2)]) λj=>
  some (a.1,a.2.1,a.2.2.1,a.2.2.2.1,a.2.2.2.2.1,a.2.2.2.2.2.1,a.2.2.2.2.2.2.1,a.2.2.2.2.2.2.2.1,j))
  (some (a.1,g,b,c,d,e,f,i,h)):=by kernel_rfl
def rQ:List CO:=[]
def Mt:PS:=⟨[(2,.h j1),(6,.h bW),(7,.h j1),(8,.h j1)],[],[j1,bW,j1,j1]⟩
def Mu:List (Exit×PS):=[((.exit 0),⟨[(2,.h j1)],[],[j1]⟩)]
def Mw:Pl:=.z
def xq:Nat->Nat->Int×A3×Int×Int->Option (Int):=fS rQ Tryz.f204 [1,0,1,0,0] Mt Mu Mw
def AN:FD:=⟨204,Tryz.f204,(.n .z (.n (.n .z (.n (.loop Mt Mu Mw) .z)) .z)),[.ag [.h fe,.h j1,.h j3,.h bW,.h .b,.h j1,.h j1]],[],[fe,j1,j3,bW,.b,j1,j1],⟨[(2,.h j1)],[],[j1]⟩,false,true,[]⟩
def I5:Nat->mL×Int×(List Bool)×A3×Bool×Int×Int->Option (Int):=mF rQ AN
def ajh:CO:=cF rQ AN I5 Tryz.func204
def DV N m n b c a:xq N (m+1) (n,b,c,a)=cond (a<c)
 (aW (aZ b a) λd=>
 (xq N m ((wrap .i64 (n+(List.length d:Int))),b,c,(wrap .i64 (a+1)))))
 (some n):=by kernel_rfl
def XI N c b d a e f g:I5 (N+1) (c,b,d,a,e,f,g)=aW (xq N N (0,a,(List.length a:Int),0)) λh=>
 some h:=by kernel_rfl
def dP:List CO:=[ajh,ahA]
def TU:PS:=⟨[(0,.k (.pt 4294967296 0)),(3,.h j1),(13,.h j1),(14,.h j1)],[(4294967296,.box 250 [.h fe,.h j1,.h j3,.h bW,.h .b,.h j1,.h j1,.k (.ow 900)]),(900,.arr 254 qf true)],[j1,j1,j1,fe,j1,j3,bW,.b,j1,j1,cR]⟩
def TV:List (Exit×PS):=[((.exit 2),⟨[(0,.k (.pt 4294967296 0)),(3,.h j1)],[(4294967296,.box 250 [.h fe,.h j1,.h j3,.h bW,.h .b,.h j1,.h j1,.k (.ow 900)]),(900,.arr 254 qf true)],[j1,fe,j1,j3,bW,.b,j1,j1,cR]⟩),(.ret,⟨[(2,.h j1)],[(4294967296,.box 250 [.h fe,.h j1,.h j3,.h bW,.h .b,.h j1,.h j1,.k (.ow 900)]),(900,.arr 254 qf true)],[j1,fe,j1,j3,bW,.b,j1,j1,cR]⟩)]
def TW:Pl:=.z
def pn:Nat->Nat->Int×Int×Int×mL×Int×(List Bool)×A3×Bool×Int×Int×ff->Option (A14⊕A14):=fS dP Tryz.f151 [1,1,0,0,0,0,1,0,0] TU TV TW
def TY:PS:=⟨[(0,.k (.pt 4294967296 0)),(3,.h j1)],[(4294967296,.box 250 [.h fe,.h j1,.h j3,.h bW,.h .b,.h j1,.h j1,.k (.ow 907)]),(907,.arr 254 qf true)],[j1,fe,j1,j3,bW,.b,j1,j1,cR]⟩
def TZ:List (Exit×PS):=[(.ret,⟨[(2,.h j1)],[(4294967296,.box 250 [.h fe,.h j1,.h j3,.h bW,.h .b,.h j1,.h j1,.k (.ow 900)]),(900,.arr 254 qf true)],[j1,fe,j1,j3,bW,.b,j1,j1,cR]⟩)]
def T0:Pl:=(.n (.n (.n .z (.n (.loop TU TV TW) .z)) .z) .z)
def B8:Nat->Nat->Int×mL×Int×(List Bool)×A3×Bool×Int×Int×ff->Option A14:=fS dP Tryz.f151 [1,1,0,0] TY TZ T0
def ga:FD:=⟨151,Tryz.f151,(.n .z (.n .z (.n (.loop TY TZ T0) .z))),[.k (.pt 4294967296 0)],[(4294967296,.box 250 [.h fe,.h j1,.h j3,.h bW,.h .b,.h j1,.h j1,.k (.ow 4294967297)]),(4294967297,.arr 254 qf true)],[fe,j1,j3,bW,.b,j1,j1,cR],⟨[(2,.h j1)],[(4294967296,.box 250 [.h fe,.h j1,.h j3,.h bW,.h .b,.h j1,.h j1,.k (.ow 900)]),(900,.arr 254 qf true)],[j1,fe,j1,j3,bW,.b,j1,j1,cR]⟩,true,false,[4294967296,900]⟩
def abH:Nat->mL×Int×(List Bool)×A3×Bool×Int×Int×ff->Option A14:=mF dP ga
def alY:CO:=cF dP ga abH Tryz.func151
def om N m r k i g c d e b f h j:pn N (m+1) (r,k,i,g,c,d,e,b,f,h,j)=cond (i<k)
 (cond b
  (some (.inr (0,g,c,d,e,b,f,h,j)))
  (aW (I5 N (g,c,d,e,b,f,h)) λl=>
  cond (l=0)
   (some (.inr (4,g,c,d,e,b,f,h,j)))
   (aW (Ms N (i,(wrap .i64 ((wrap .i64 (i+1))+r)),g,c,d,e,b,f,h,j)) λa=>
   cond (!(a.1=0))
    (some (.inr (a.1,a.2.1,a.2.2.1,a.2.2.2.1,a.2.2.2.2.1,a.2.2.2.2.2.1,a.2.2.2.2.2.2.1,a.2.2.2.2.2.2.2.1,a.2.2.2.2.2.2.2.2)))
    ((pn N m (r,k,(wrap .i64 (i+1)),a.2.1,a.2.2.1,a.2.2.2.1,a.2.2.2.2.1,a.2.2.2.2.2.1,a.2.2.2.2.2.2.1,a.2.2.2.2.2.2.2.1,a.2.2.2.2.2.2.2.2))))))
 (some (.inl (r,g,c,d,e,b,f,h,j))):=by kernel_rfl
def tj N m r g d e c f h i j:B8 N (m+1) (r,g,d,e,c,f,h,i,j)=aW (pn N N (r,(List.length c:Int),0,g,d,e,c,f,h,i,j)) λk=>
 (match k with
 |.inl a=>(B8 N m ((wrap .i64 (a.1+1)),a.2.1,a.2.2.1,a.2.2.2.1,a.2.2.2.2.1,a.2.2.2.2.2.1,a.2.2.2.2.2.2.1,a.2.2.2.2.2.2.2.1,a.2.2.2.2.2.2.2.2))
 |.inr b=>some (b.1,b.2.1,b.2.2.1,b.2.2.2.1,b.2.2.2.2.1,b.2.2.2.2.2.1,b.2.2.2.2.2.2.1,b.2.2.2.2.2.2.2.1,b.2.2.2.2.2.2.2.2)):=by kernel_rfl
def abI N g b c d e f i h:abH (N+1) (g,b,c,d,e,f,i,h)=aW (B8 N N (0,g,b,c,d,e,f,i,h)) λa=>
 some (a.1,a.2.1,a.2.2.1,a.2.2.2.1,a.2.2.2.2.1,a.2.2.2.2.2.1,a.2.2.2.2.2.2.1,a.2.2.2.2.2.2.2.1,a.2.2.2.2.2.2.2.2):=by kernel_rfl
def nC:List CO:=[ajc,alX,ahA,alY]
def T1:PS:=⟨[(8,.k (.pt 900 0)),(13,.k (.pt 901 0)),(31,.h b_),(32,.h j1),(33,.h j1)],[(900,.box 94 [.k .nil,.h j1,.k .nil,.k .nil,.h .b,.h j1,.h j1]),(901,.box 250 [.h fe,.h j1,.h j3,.h bW,.h .b,.h j1,.h j1,.k (.ow 902)]),(902,.arr 254 qf true)],[b_,j1,j1,j1,.b,j1,j1,fe,j1,j3,bW,.b,j1,j1,cR]⟩
def T2:List (Exit×PS):=[((.exit 0),⟨[(8,.k (.pt 900 0)),(13,.k (.pt 901 0))],[(900,.box 94 [.k .nil,.h j1,.k .nil,.k .nil,.h .b,.h j1,.h j1]),(901,.box 250 [.h fe,.h j1,.h j3,.h bW,.h .b,.h j1,.h j1,.k (.ow 902)]),(902,.arr 254 qf true)],[j1,.b,j1,j1,fe,j1,j3,bW,.b,j1,j1,cR]⟩),(.ret,⟨[(8,.k (.pt 900 0)),(9,.k (.ow 901)),(10,.h j1)],[(900,.box 94 [.h fe,.h j1,.h j3,.h bW,.h .b,.h j1,.h j1]),(901,.arr 254 qf true)],[j1,fe,j1,j3,bW,.b,j1,j1,cR]⟩)]
def T3:Pl:=.z
def xr:Nat->Nat->A1×Int×Int×Int×Bool×Int×Int×mL×Int×(List Bool)×A3×Bool×Int×Int×ff->Option ((Int×Bool×Int×Int×mL×Int×(List Bool)×A3×Bool×Int×Int×ff)⊕A14):=fS nC Tryz.f80 [1,1,1,1,0,1,0,0] T1 T2 T3
def uy:FD:=⟨80,Tryz.f80,(.n .z (.n .z (.n .z (.n .z (.n (.n .z (.n (.loop T1 T2 T3) .z)) .z))))),[.h j1,.h j1,.h j1,.h b_],[],[j1,j1,j1,b_],⟨[(8,.k (.pt 900 0)),(9,.k (.ow 901)),(10,.h j1)],[(900,.box 94 [.h fe,.h j1,.h j3,.h bW,.h .b,.h j1,.h j1]),(901,.arr 254 qf true)],[j1,fe,j1,j3,bW,.b,j1,j1,cR]⟩,true,false,[901]⟩
def Mx:Nat->Int×Int×Int×A1->Option A14:=mF nC uy
def alZ:CO:=cF nC uy Mx Tryz.func80
def zC N m p q i j k l n g c d e b f h o:xr N (m+1) (p,q,i,j,k,l,n,g,c,d,e,b,f,h,o)=cond (i<q)
 (aW (aZ p i) λr=>
 cond b
  (some (.inl (j,k,l,n,g,c,d,e,b,f,h,o)))
  (aW (Ms N (r.1,r.2,g,c,d,e,b,f,h,o)) λa=>
  cond (!(a.1=0))
   (some (.inr (a.1,a.2.1,a.2.2.1,a.2.2.2.1,a.2.2.2.2.1,a.2.2.2.2.2.1,a.2.2.2.2.2.2.1,a.2.2.2.2.2.2.2.1,a.2.2.2.2.2.2.2.2)))
   ((xr N m (p,q,(wrap .i64 (i+1)),j,k,l,n,a.2.1,a.2.2.1,a.2.2.2.1,a.2.2.2.2.1,a.2.2.2.2.2.1,a.2.2.2.2.2.2.1,a.2.2.2.2.2.2.2.1,a.2.2.2.2.2.2.2.2)))))
 (some (.inl (j,k,l,n,g,c,d,e,b,f,h,o))):=by kernel_rfl
def abJ N n f g e:Mx (N+1) (n,f,g,e)=aW (I0 N (n,f,g)) λa=>
 cond (!(a.1=0))
  (some (a.1,[],0,[],[],false,0,0,[]))
  (aW (xr N N (e,(List.length e:Int),0,0,false,0,0,a.2.1,a.2.2.1,a.2.2.2.1,a.2.2.2.2.1,a.2.2.2.2.2.1,a.2.2.2.2.2.2.1,a.2.2.2.2.2.2.2,[])) λh=>
  (match h with
  |.inl d=>aW (abH N (d.2.2.2.2.1,d.2.2.2.2.2.1,d.2.2.2.2.2.2.1,d.2.2.2.2.2.2.2.1,d.2.2.2.2.2.2.2.2.1,d.2.2.2.2.2.2.2.2.2.1,d.2.2.2.2.2.2.2.2.2.2.1,d.2.2.2.2.2.2.2.2.2.2.2)) λb=>
   some (b.1,b.2.1,b.2.2.1,b.2.2.2.1,b.2.2.2.2.1,b.2.2.2.2.2.1,b.2.2.2.2.2.2.1,b.2.2.2.2.2.2.2.1,b.2.2.2.2.2.2.2.2)
  |.inr c=>some (c.1,c.2.1,c.2.2.1,c.2.2.2.1,c.2.2.2.2.1,c.2.2.2.2.2.1,c.2.2.2.2.2.2.1,c.2.2.2.2.2.2.2.1,c.2.2.2.2.2.2.2.2))):=by kernel_rfl
def l7:List CO:=[]
def T4:PS:=⟨[(2,.k (.pt 900 0)),(5,.k (.ow 901)),(9,.h cR),(10,.h j1),(11,.h j1)],[(900,.box 94 [.h fe,.h j1,.h j3,.h bW,.h .b,.h j1,.h j1]),(901,.arr 189 j5 true)],[cR,j1,j1,fe,j1,j3,bW,.b,j1,j1,b_]⟩
def T5:List (Exit×PS):=[((.exit 0),⟨[(5,.k (.ow 900))],[(900,.arr 189 j5 true)],[b_]⟩)]
def T6:Pl:=.z
def pw:Nat->Nat->ff×Int×Int×mL×Int×(List Bool)×A3×Bool×Int×Int×A1->Option (A1):=fS l7 Tryz.f81 [1,1,0,1,0,0] T4 T5 T6
def rR:FD:=⟨81,Tryz.f81,(.n .z (.n .z (.n (.n .z (.n (.loop T4 T5 T6) .z)) .z))),[.ag [.h fe,.h j1,.h j3,.h bW,.h .b,.h j1,.h j1],.h cR],[],[fe,j1,j3,bW,.b,j1,j1,cR],⟨[(4,.k (.ow 900))],[(900,.arr 189 j5 true)],[b_]⟩,true,true,[900]⟩
def T7:Nat->mL×Int×(List Bool)×A3×Bool×Int×Int×ff->Option (A1):=mF l7 rR
def al0:CO:=cF l7 rR T7 Tryz.func81
def GQ N m e d a c f g h i j k b:pw N (m+1) (e,d,a,c,f,g,h,i,j,k,b)=cond (a<d)
 (aW (aZ e a) λl=>
 cond l.2.2.2
  ((pw N m (e,d,(wrap .i64 (a+1)),c,f,g,h,i,j,k,b)))
  (cond (l.2.2.1<0)
   ((pw N m (e,d,(wrap .i64 (a+1)),c,f,g,h,i,j,k,b)))
   (cond ((List.length c:Int)<=l.2.2.1)
    ((pw N m (e,d,(wrap .i64 (a+1)),c,f,g,h,i,j,k,b)))
    (aW (aZ c l.2.2.1) λn=>
    aW (eC 16 b [(n.1,n.2.1)]) λo=>
    (pw N m (e,d,(wrap .i64 (a+1)),c,f,g,h,i,j,k,o))))))
 (some b):=by kernel_rfl
def abK N c a b d e f g l:T7 (N+1) (c,a,b,d,e,f,g,l)=aW (pw N N (l,(List.length l:Int),0,c,a,b,d,e,f,g,[])) λh=>
 some h:=by kernel_rfl
def lG:List CO:=[aja,alZ,al0]
def My:PS:=⟨[(8,.k (.ow 900)),(10,.k (.ow 903)),(12,.k (.pt 901 0)),(44,.k (.ow 902)),(45,.h j1),(46,.h j1),(54,.h j1),(55,.h j1)],[(900,.arr 254 qf true),(903,.arr 3 j1 true),(901,.box 189 [.h j1,.h j1]),(902,.arr 189 j5 true)],[j1,j1,j1,j1,cR,j6,j1,j1,b_]⟩
def Mz:List (Exit×PS):=[((.exit 2),⟨[(8,.k (.ow 900)),(10,.k (.ow 901)),(44,.k (.ow 902)),(45,.h j1),(46,.h j1)],[(900,.arr 254 qf true),(901,.arr 3 j1 true),(902,.arr 189 j5 true)],[j1,j1,cR,j6,b_]⟩)]
def MA:Pl:=.z
def xt:Nat->Nat->Int×Int×Int×Int×ff×(List Int)×Int×Int×A1->Option (Int×Int×ff×(List Int)×A1):=fS lG Tryz.f30 [1,1,1,1,1,1,0,1,0,0,1,1,0,0,1,1,0,0] My Mz MA
def MB:PS:=⟨[(8,.k (.ow 900)),(10,.k (.ow 902)),(44,.k (.ow 901)),(45,.h j1),(46,.h j1)],[(900,.arr 254 qf true),(902,.arr 3 j1 true),(901,.arr 189 j5 true)],[j1,j1,cR,j6,b_]⟩
def MC:List (Exit×PS):=[((.exit 0),⟨[(8,.k (.ow 900)),(10,.k (.ow 901))],[(900,.arr 254 qf true),(901,.arr 3 j1 true)],[cR,j6]⟩)]
def MD:Pl:=(.n .z (.n .z (.n (.n (.n .z (.n .z (.n (.loop My Mz MA) .z))) .z) .z)))
def xu:Nat->Nat->Int×Int×ff×(List Int)×A1->Option (ff×(List Int)):=fS lG Tryz.f30 [1,1,1,1,1,1,0,1,0,0] MB MC MD
def xv:FD:=⟨30,Tryz.f30,(.n .z (.n .z (.n .z (.n .z (.n .z (.n .z (.n (.n .z (.n (.loop MB MC MD) .z)) .z))))))),[.h j1,.ag [.h j1,.h j1,.h b_]],[],[j1,j1,j1,b_],⟨[(4,.k (.ow 900)),(5,.h j1),(6,.h j1)],[(900,.arr 3 j1 true)],[j1,j1,j6]⟩,true,true,[900]⟩
def jX:Nat->Int×Int×Int×A1->Option A7:=mF lG xv
def Qn:CO:=cF lG xv jX Tryz.func30
def DW N m c d e v55 l a s f b:xt N (m+1) (c,d,e,v55,l,a,s,f,b)=cond (v55<e)
 (aW (eC 8 a [(wrap .i64 (s+v55))]) λg=>
 (xt N m (c,d,e,(wrap .i64 (v55+1)),l,g,s,f,b)))
 (some (c,d,l,a,b)):=by kernel_rfl
def DX N m f a l e c:xu N (m+1) (f,a,l,e,c)=cond (a<f)
 (aW (aZ c a) λg=>
 aW (aZ c a) λd=>
 aW (xt N N (f,a,(wrap .i64 (d.2 - d.1)),0,l,e,d.1,d.2,c)) λb=>
 (xu N m (b.1,(wrap .i64 (b.2.1+1)),b.2.2.1,b.2.2.2.1,b.2.2.2.2)))
 (some (l,e)):=by kernel_rfl
def GU N n p p2 p3:jX (N+1) (n,p,p2,p3)=cond (n<0)
 (some (0,1,[]))
 (cond (1000<n)
  (some (0,1,[]))
  (aW (IY N (p,p2,p3)) λd=>
  cond (!d)
   (some (0,1,[]))
   (cond (n=0)
    (some (0,0,[]))
    (aW (Mx N (n,p,p2,p3)) λa=>
    cond (!(a.1=0))
     (some (0,a.1,[]))
     (aW (T7 N (a.2.1,a.2.2.1,a.2.2.2.1,a.2.2.2.2.1,a.2.2.2.2.2.1,a.2.2.2.2.2.2.1,a.2.2.2.2.2.2.2.1,a.2.2.2.2.2.2.2.2)) λb=>
     aW (xu N N ((List.length b:Int),0,a.2.2.2.2.2.2.2.2,[],b)) λc=>
     some ((List.length c.1:Int),0,c.2)))))):=by kernel_rfl
def AO:List CO:=[]
def AP:FD:=⟨282,Tryz.f282,.z,[.h j8,.h j1,.h j1],[],[j8,j1,j1],⟨[(6,.h j8)],[],[j8]⟩,false,false,[]⟩
def DY:Nat->(List Int)×Int×Int->Option ((List Int)):=mF AO AP
def aji:CO:=cF AO AP DY Tryz.func282
def XJ N l i a:DY (N+1) (l,i,a)=aW (jf l (wrap .i64 (i*a)) (if((wrap .i64 ((wrap .i64 (i+1))*a))<(List.length l:Int))then(wrap .i64 ((wrap .i64 (i+1))*a))else(List.length l:Int))) λb=>
 some b:=by kernel_rfl
def uz:List CO:=[]
def uA:FD:=⟨264,Tryz.f264,.z,[.h j2,.h j2],[],[j2,j2],⟨[(4,.h j2)],[],[j2]⟩,false,true,[]⟩
def I6:Nat->Int×Int->Option (Int):=mF uz uA
def abL:CO:=cF uz uA I6 Tryz.func264
def GV N a b:I6 (N+1) (a,b)=some (wrap .u32 (a+b)):=by kernel_rfl
def fI:List CO:=[abL]
def T8:PS:=⟨[(1,.k (.v (.func (.func 264) #[] #[]))),(6,.k (.ow 900)),(7,.h j2),(13,.h j8),(14,.h j1),(15,.h j1)],[(900,.arr 66 j2 true)],[j2,j8,j1,j1,j8]⟩
def T9:List (Exit×PS):=[((.exit 0),⟨[(6,.k (.ow 900)),(7,.h j2)],[(900,.arr 66 j2 true)],[j2,j8]⟩)]
def T_:Pl:=.z
def B9:Nat->Nat->Int×(List Int)×Int×Int×(List Int)->Option A6:=fS fI Tryz.f281 [1,1,1,0,1,0,0] T8 T9 T_
def iK:FD:=⟨281,Tryz.f281,(.n .z (.n .z (.n .z (.n (.n .z (.n (.loop T8 T9 T_) .z)) .z)))),[.h j8,.k (.v (.func (.func 264) #[] #[]))],[],[j8],⟨[(4,.k (.ow 900)),(5,.h j2)],[(900,.arr 66 j2 true)],[j2,j8]⟩,true,true,[900]⟩
def GW:Nat->(List Int)->Option A6:=mF fI iK
def al1:CO:=cF fI iK GW Tryz.func281
def GX N m all c d a b:B9 N (m+1) (all,c,d,a,b)=cond (a<d)
 (aW (aZ c a) λe=>
 aW (aZ b a) λg=>
 aW (aZ b a) λh=>
 aW (I6 N (all,e)) λf=>
 (B9 N m (f,c,d,(wrap .i64 (a+1)),(List.set b (Int.toNat a) all))))
 (some (all,b)):=by kernel_rfl
def abM N l:GW (N+1) l=aW (qI (List.length l:Int) (4:Nat)) λb=>
 aW (B9 N N ((0:Int),l,(List.length l:Int),(0:Int),(List.replicate b (0:Int)))) λa=>
 some (a.1,a.2):=by kernel_rfl
def dL:List CO:=[abt,ai_,Qn,aji,al1,abL]
def Ua:PS:=⟨[(0,.h j8),(1,.h j1),(3,.k (.v (.func (.func 264) #[] #[]))),(8,.k (.ow 900)),(9,.h j2),(10,.h j1),(17,.k (.ow 901)),(19,.h j1),(76,.k (.ow 902)),(77,.h j1),(78,.h j1),(91,.k (.ow 903)),(92,.h j1),(93,.h j1)],[(900,.arr 66 j2 true),(901,.arr 66 j2 true),(902,.arr 3 j1 true),(903,.arr 66 j2 true)],[j8,j1,j2,j1,j1,j1,j1,j1,j1,j8,j8,j6,j8]⟩
def Ub:List (Exit×PS):=[((.exit 4),⟨[(0,.h j8),(1,.h j1),(3,.k (.v (.func (.func 264) #[] #[]))),(8,.k (.ow 900)),(9,.h j2),(10,.h j1),(17,.k (.ow 901)),(76,.k (.ow 902)),(77,.h j1),(78,.h j1)],[(900,.arr 66 j2 true),(901,.arr 66 j2 true),(902,.arr 3 j1 true)],[j8,j1,j2,j1,j1,j1,j8,j8,j6]⟩)]
def Uc:Pl:=.z
def xw:Nat->Nat->(List Int)×Int×Int×Int×Int×Int×Int×Int×Int×(List Int)×(List Int)×(List Int)×(List Int)->Option ((List Int)×Int×Int×Int×Int×Int×(List Int)×(List Int)×(List Int)):=fS dL Tryz.f263 [1,1,1,1,1,1,1,1,1,0,1,0,0,1,1,0,0,1,1,1,0,0] Ua Ub Uc
def Ud:PS:=⟨[(0,.h j8),(1,.h j1),(3,.k (.v (.func (.func 264) #[] #[]))),(8,.k (.ow 900)),(9,.h j2),(10,.h j1),(17,.k (.ow 901)),(76,.k (.ow 902)),(77,.h j1),(78,.h j1)],[(900,.arr 66 j2 true),(901,.arr 66 j2 true),(902,.arr 3 j1 true)],[j8,j1,j2,j1,j1,j1,j8,j8,j6]⟩
def Ue:List (Exit×PS):=[((.exit 2),⟨[(8,.k (.ow 900)),(9,.h j2),(10,.h j1)],[(900,.arr 66 j2 true)],[j2,j1,j8]⟩)]
def Uf:Pl:=(.n .z (.n .z (.n (.n (.n .z (.n .z (.n .z (.n (.loop Ua Ub Uc) .z)))) .z) .z)))
def B_:Nat->Nat->(List Int)×Int×Int×Int×Int×Int×(List Int)×(List Int)×(List Int)->Option A7:=fS dL Tryz.f263 [1,1,1,1,1,1,1,1,1,0,1,0,0] Ud Ue Uf
def Ug:PS:=⟨[(0,.h j8),(1,.h j1),(3,.k (.v (.func (.func 264) #[] #[]))),(10,.h j1),(13,.k (.ow 900)),(14,.k (.ow 901)),(48,.k (.ow 900)),(49,.h j1),(50,.h j1)],[(900,.arr 3 j1 true),(901,.arr 66 j2 true)],[j8,j1,j1,j1,j1,j6,j8]⟩
def Uh:List (Exit×PS):=[((.exit 0),⟨[(0,.h j8),(1,.h j1),(3,.k (.v (.func (.func 264) #[] #[]))),(10,.h j1),(13,.k (.ow 900)),(14,.k (.ow 901))],[(900,.arr 3 j1 true),(901,.arr 66 j2 true)],[j8,j1,j1,j6,j8]⟩)]
def Ui:Pl:=.z
def Ca:Nat->Nat->(List Int)×Int×Int×Int×Int×(List Int)×(List Int)->Option ((List Int)×Int×Int×(List Int)×(List Int)):=fS dL Tryz.f263 [1,1,1,1,1,1,0,1,0,0] Ug Uh Ui
def iw:FD:=⟨263,Tryz.f263,(.n .z (.n .z (.n .z (.n .z (.n .z (.n .z (.n (.n .z (.n (.loop Ug Uh Ui) .z)) (.n .z (.n .z (.n (.n .z (.n (.loop Ud Ue Uf) .z)) .z)))))))))),[.h j8,.h j1,.ag [.h j1,.h j1,.h b_],.k (.v (.func (.func 264) #[] #[]))],[],[j8,j1,j1,j1,b_],⟨[(8,.k (.ow 900)),(9,.h j2),(10,.h j1),(11,.h j1)],[(900,.arr 66 j2 true)],[j2,j1,j1,j8]⟩,true,true,[900]⟩
def abN:Nat->(List Int)×Int×Int×Int×A1->Option (Int×Int×Int×(List Int)):=mF dL iw
def al2:CO:=cF dL iw abN Tryz.func263
def GY N m l a all e i g h j v93 c b f d:xw N (m+1) (l,a,all,e,i,g,h,j,v93,c,b,f,d)=cond (v93<j)
 (aW (aZ d v93) λp=>
 aW (aZ d v93) λk=>
 aW (aZ b i) λq=>
 aW (aZ b i) λn=>
 aW (I6 N (n,k)) λo=>
 aW (aZ c (wrap .i64 ((wrap .i64 (i*a))+v93))) λr=>
 aW (aZ c (wrap .i64 ((wrap .i64 (i*a))+v93))) λs=>
 (xw N m (l,a,all,e,i,g,h,j,(wrap .i64 (v93+1)),(List.set c (Int.toNat (wrap .i64 ((wrap .i64 (i*a))+v93))) o),b,f,d)))
 (some (l,a,all,e,g,h,c,b,f)):=by kernel_rfl
def GZ N m l d all f g b e h c:B_ N (m+1) (l,d,all,f,g,b,e,h,c)=cond (b<g)
 (aW (aZ c b) λn=>
 aW (aZ c b) λi=>
 aW (DY N (l,i,d)) λk=>
 aW (GW N k) λj=>
 aW (xw N N (l,d,all,f,i,g,b,(List.length j.2:Int),0,e,h,c,j.2)) λa=>
 (B_ N m (a.1,a.2.1,a.2.2.1,a.2.2.2.1,a.2.2.2.2.1,(wrap .i64 (a.2.2.2.2.2.1+1)),a.2.2.2.2.2.2.1,a.2.2.2.2.2.2.2.1,a.2.2.2.2.2.2.2.2)))
 (some (all,f,e)):=by kernel_rfl
def G1 N m l d f g c b a:Ca N (m+1) (l,d,f,g,c,b,a)=cond (c<g)
 (aW (aZ b c) λj=>
 aW (aZ b c) λe=>
 aW (DY N (l,e,d)) λh=>
 aW (GW N h) λi=>
 aW (aZ a e) λk=>
 aW (aZ a e) λn=>
 (Ca N m (l,d,f,g,(wrap .i64 (c+1)),b,(List.set a (Int.toNat e) i.1))))
 (some (l,d,f,b,a)):=by kernel_rfl
def abO N l c p p2 p3:abN (N+1) (l,c,p,p2,p3)=aW (IW N c) λg=>
 cond (!g)
  (some ((0:Int),(0:Int),(1:Int),[]))
  (cond ((1000:Int)<(List.length l:Int))
   (some ((0:Int),(0:Int),(1:Int),[]))
   (aW (IX N ((List.length l:Int),c)) λe=>
   aW (jX N (e,p,p2,p3)) λb=>
   cond (!(b.2.1=(0:Int)))
    (some ((0:Int),(0:Int),b.2.1,[]))
    (aW (qI e (4:Nat)) λh=>
    aW (Ca N N (l,c,b.1,(List.length b.2.2:Int),(0:Int),b.2.2,(List.replicate h (0:Int)))) λa=>
    aW (GW N a.2.2.2.2) λf=>
    aW (qI (List.length a.1:Int) (4:Nat)) λi=>
    aW (B_ N N (a.1,a.2.1,f.1,a.2.2.1,(List.length a.2.2.2.1:Int),(0:Int),(List.replicate i (0:Int)),f.2,a.2.2.2.1)) λd=>
    some (d.1,(wrap .i64 ((2:Int)*d.2.1)),(0:Int),d.2.2)))):=by kernel_rfl
def AQ:List CO:=[al2]
def AR:FD:=⟨227,Tryz.f227,.z,[.h j8,.h j1,.ag [.h j1,.h j1,.h b_]],[],[j8,j1,j1,j1,b_],⟨[(6,.k (.ow 900)),(7,.h j2),(8,.h j1),(9,.h j1)],[(900,.arr 66 j2 true)],[j2,j1,j1,j8]⟩,true,true,[900]⟩
def DZ:Nat->(List Int)×Int×Int×Int×A1->Option (Int×Int×Int×(List Int)):=mF AQ AR
def abP:CO:=cF AQ AR DZ Tryz.func227
def XK N l b p p2 p3:DZ (N+1) (l,b,p,p2,p3)=aW (abN N (l,b,p,p2,p3)) λa=>
 some (a.1,a.2.1,a.2.2.1,a.2.2.2):=by kernel_rfl
def uB:List CO:=[ahx]
def uC:FD:=⟨283,Tryz.f283,.z,[.h j1,.h j1],[],[j1,j1],⟨[(4,.h .b)],[],[.b]⟩,false,true,[]⟩
def abQ:Nat->Int×Int->Option (Bool):=mF uB uC
def al3:CO:=cF uB uC abQ Tryz.func283
def abR N a bits:abQ (N+1) (a,bits)=cond (0<=a)
 (aW (L8 N bits) λb=>
 some (decide (a<b)))
 (some false):=by kernel_rfl
def uD:List CO:=[al3]
def uE:FD:=⟨265,Tryz.f265,.z,[.h j2,.h j1,.h j1],[],[j2,j1,j1],⟨[(6,.h j2)],[],[j2]⟩,false,true,[]⟩
def ME:Nat->Int×Int×Int->Option (Int):=mF uD uE
def al4:CO:=cF uD uE ME Tryz.func265
def abS N b a bits:ME (N+1) (b,a,bits)=aW (abQ N (a,bits)) λc=>
 cond (!c)
  (some 0)
  (aW (Zh .u32 b (wrap .u64 (wrap .i64 (a*bits)))) λd=>
  aW (Pr .u32 1 (wrap .u64 bits)) λe=>
  some (Ia .and .u32 d (wrap .u32 (e - 1)))):=by kernel_rfl
def l8:List CO:=[al4]
def MF:PS:=⟨[(0,.h j8),(2,.h j1),(3,.h j1),(9,.k (.ow 900)),(13,.k (.ow 901)),(63,.h j6),(64,.h j1),(65,.h j1)],[(900,.arr 3 j1 true),(901,.arr 3 j1 true)],[j8,j1,j1,j6,j1,j1,j6,j6]⟩
def MG:List (Exit×PS):=[((.exit 4),⟨[(13,.k (.ow 900))],[(900,.arr 3 j1 true)],[j6]⟩)]
def MH:Pl:=.z
def xx:Nat->Nat->(List Int)×Int×Int×(List Int)×Int×Int×(List Int)×(List Int)->Option ((List Int)):=fS l8 Tryz.f228 [1,1,1,1,1,0,1,0,0] MF MG MH
def MI:PS:=⟨[(0,.h j8),(1,.h j6),(2,.h j1),(3,.h j1),(9,.k (.ow 900)),(44,.h j1),(45,.h j1)],[(900,.arr 3 j1 true)],[j8,j6,j1,j1,j1,j1,j6]⟩
def MJ:List (Exit×PS):=[((.exit 2),⟨[(0,.h j8),(1,.h j6),(2,.h j1),(3,.h j1),(9,.k (.ow 900))],[(900,.arr 3 j1 true)],[j8,j6,j1,j1,j6]⟩)]
def MK:Pl:=.z
def xy:Nat->Nat->(List Int)×(List Int)×Int×Int×Int×Int×(List Int)->Option ((List Int)×(List Int)×Int×Int×(List Int)):=fS l8 Tryz.f228 [1,1,1,0,1,0,0] MI MJ MK
def ML:PS:=⟨[(0,.h j8),(1,.h j6),(2,.h j1),(3,.h j1),(9,.k (.ow 900)),(22,.h j6),(23,.h j1),(24,.h j1)],[(900,.arr 3 j1 true)],[j8,j6,j1,j1,j6,j1,j1,j6]⟩
def MM:List (Exit×PS):=[((.exit 0),⟨[(0,.h j8),(1,.h j6),(2,.h j1),(3,.h j1),(9,.k (.ow 900))],[(900,.arr 3 j1 true)],[j8,j6,j1,j1,j6]⟩)]
def MN:Pl:=.z
def xz:Nat->Nat->(List Int)×(List Int)×Int×Int×(List Int)×Int×Int×(List Int)->Option ((List Int)×(List Int)×Int×Int×(List Int)):=fS l8 Tryz.f228 [1,1,0,1,0,0] ML MM MN
def D0:FD:=⟨228,Tryz.f228,(.n .z (.n .z (.n (.n .z (.n (.loop ML MM MN) .z)) (.n (.n .z (.n (.loop MI MJ MK) .z)) (.n .z (.n (.n .z (.n (.loop MF MG MH) .z)) .z)))))),[.h j8,.h j6,.h j1,.h j1],[],[j8,j6,j1,j1],⟨[(8,.k (.ow 900))],[(900,.arr 3 j1 true)],[j6]⟩,true,true,[900]⟩
def I7:Nat->(List Int)×(List Int)×Int×Int->Option ((List Int)):=mF l8 D0
def ajj:CO:=cF l8 D0 I7 Tryz.func228
def D1 N m e f bits g h d a c:xx N (m+1) (e,f,bits,g,h,d,a,c)=cond (d<h)
 (aW (aZ g d) λj=>
 aW (aZ e j) λk=>
 aW (ME N (k,f,bits)) λb=>
 aW (aZ a b) λp=>
 aW (aZ a b) λi=>
 aW (aZ c i) λq=>
 aW (aZ c i) λr=>
 aW (aZ a b) λs=>
 aW (aZ a b) λl=>
 aW (aZ a b) λn=>
 aW (aZ a b) λo=>
 (xx N m (e,f,bits,g,h,(wrap .i64 (d+1)),(List.set a (Int.toNat b) (wrap .i64 (l+1))),(List.set c (Int.toNat i) j))))
 (some c):=by kernel_rfl
def D2 N m c d e bits f a b:xy N (m+1) (c,d,e,bits,f,a,b)=cond (a<f)
 (aW (aZ b (wrap .i64 (a+1))) λh=>
 aW (aZ b (wrap .i64 (a+1))) λg=>
 aW (aZ b a) λi=>
 aW (aZ b a) λz4=>
 aW (aZ b (wrap .i64 (a+1))) λj=>
 aW (aZ b (wrap .i64 (a+1))) λk=>
 (xy N m (c,d,e,bits,f,(wrap .i64 (a+1)),(List.set b (Int.toNat (wrap .i64 (a+1))) (wrap .i64 (g+z4))))))
 (some (c,d,e,bits,b)):=by kernel_rfl
def D3 N m c f d bits g h e a:xz N (m+1) (c,f,d,bits,g,h,e,a)=cond (e<h)
 (aW (aZ g e) λi=>
 aW (aZ c i) λj=>
 aW (ME N (j,d,bits)) λb=>
 aW (aZ a (wrap .u32 (b+1))) λl=>
 aW (aZ a (wrap .u32 (b+1))) λk=>
 aW (aZ a (wrap .u32 (b+1))) λn=>
 aW (aZ a (wrap .u32 (b+1))) λo=>
 (xz N m (c,f,d,bits,g,h,(wrap .i64 (e+1)),(List.set a (Int.toNat (wrap .u32 (b+1))) (wrap .i64 (k+1))))))
 (some (c,f,d,bits,a)):=by kernel_rfl
def XL N d c e bits:I7 (N+1) (d,c,e,bits)=aW (Pr .i64 (1:Int) (wrap .u64 bits)) λf=>
 aW (qI (wrap .i64 (f+(1:Int))) (8:Nat)) λg=>
 aW (xz N N (d,c,e,bits,c,(List.length c:Int),(0:Int),(List.replicate g (0:Int)))) λb=>
 aW (xy N N (b.1,b.2.1,b.2.2.1,b.2.2.2.1,(wrap .i64 ((List.length b.2.2.2.2:Int) - (1:Int))),(0:Int),b.2.2.2.2)) λa=>
 aW (qI (List.length a.2.1:Int) (8:Nat)) λh=>
 aW (xx N N (a.1,a.2.2.1,a.2.2.2.1,a.2.1,(List.length a.2.1:Int),(0:Int),a.2.2.2.2,(List.replicate h (0:Int)))) λi=>
 some i:=by kernel_rfl
def lH:List CO:=[ahx,abP,ajj]
def MO:PS:=⟨[(0,.h j8),(1,.h j1),(11,.h j1),(14,.h j1),(16,.k (.ow 900)),(45,.h j1),(46,.h j1)],[(900,.arr 3 j1 true)],[j8,j1,j1,j1,j1,j1,j6]⟩
def MP:List (Exit×PS):=[((.exit 2),⟨[(11,.h j1),(14,.h j1),(16,.k (.ow 900))],[(900,.arr 3 j1 true)],[j1,j1,j6]⟩)]
def MQ:Pl:=.z
def xA:Nat->Nat->(List Int)×Int×Int×Int×Int×Int×(List Int)->Option A7:=fS lH Tryz.f181 [1,1,1,1,1,1,1,0,1,0,0] MO MP MQ
def MS:PS:=⟨[(0,.h j8),(1,.h j1),(11,.h j1),(14,.h j1),(16,.k (.ow 900)),(36,.h j1),(37,.h j1)],[(900,.arr 3 j1 true)],[j8,j1,j1,j1,j1,j1,j6]⟩
def MT:List (Exit×PS):=[((.exit 0),⟨[(0,.h j8),(1,.h j1),(11,.h j1),(14,.h j1),(16,.k (.ow 900))],[(900,.arr 3 j1 true)],[j8,j1,j1,j1,j6]⟩)]
def MU:Pl:=.z
def xB:Nat->Nat->(List Int)×Int×Int×Int×Int×Int×(List Int)->Option ((List Int)×Int×Int×Int×(List Int)):=fS lH Tryz.f181 [1,1,1,1,1,1,0,1,0,0] MS MT MU
def xC:FD:=⟨181,Tryz.f181,(.n .z (.n .z (.n .z (.n .z (.n .z (.n .z (.n (.n .z (.n (.loop MS MT MU) .z)) (.n (.n .z (.n (.loop MO MP MQ) .z)) .z)))))))),[.h j8,.h j1,.h j1,.ag [.h j1,.h j1,.h b_]],[],[j8,j1,j1,j1,j1,b_],⟨[(8,.k (.ow 900)),(9,.h j1),(10,.h j1)],[(900,.arr 3 j1 true)],[j1,j1,j6]⟩,true,true,[900]⟩
def I8:Nat->(List Int)×Int×Int×Int×Int×A1->Option A7:=mF lH xC
def ajk:CO:=cF lH xC I8 Tryz.func181
def D4 N m b bits d e f a c:xA N (m+1) (b,bits,d,e,f,a,c)=cond (a<f)
 (aW (I7 N (b,c,a,bits)) λg=>
 (xA N m (b,bits,d,e,f,(wrap .i64 (a+1)),g)))
 (some (d,e,c)):=by kernel_rfl
def D5 N m b bits d e f a c:xB N (m+1) (b,bits,d,e,f,a,c)=cond (a<f)
 (aW (eC 8 c [a]) λg=>
 (xB N m (b,bits,d,e,f,(wrap .i64 (a+1)),g)))
 (some (b,bits,d,e,c)):=by kernel_rfl
def XM N b bits e p p2 p3:I8 (N+1) (b,bits,e,p,p2,p3)=aW (L8 N bits) λf=>
 cond (f=0)
  (some (0,1,[]))
  (aW (DZ N (b,e,p,p2,p3)) λc=>
  cond (!(c.2.2.1=0))
   (some (0,c.2.2.1,[]))
   (aW (xB N N (b,bits,f,c.2.1,(List.length b:Int),0,[])) λa=>
   aW (xA N N (a.1,a.2.1,a.2.2.1,a.2.2.2.1,a.2.2.1,0,a.2.2.2.2)) λd=>
   some ((wrap .i64 (d.2.1*d.1)),0,d.2.2))):=by kernel_rfl
def py:List CO:=[]
def MV:PS:=⟨[(0,.h j6),(1,.h j1),(5,.k (.mp 900)),(9,.h j6),(10,.h j1),(11,.h j1)],[(900,.mp (.int .i64) j1 j1)],[j6,j1,j6,j1,j1,b_]⟩
def MW:List (Exit×PS):=[((.exit 0),⟨[(0,.h j6),(1,.h j1)],[],[j6,j1]⟩),(.ret,⟨[(4,.h .b)],[],[.b]⟩)]
def MX:Pl:=.z
def xD:Nat->Nat->(List Int)×Int×(List Int)×Int×Int×A1->Option (((List Int)×Int)⊕(Bool)):=fS py Tryz.f229 [1,1,0,1,0,0] MV MW MX
def xE:FD:=⟨229,Tryz.f229,(.n .z (.n .z (.n (.n .z (.n (.loop MV MW MX) .z)) .z))),[.h j6,.h j1],[],[j6,j1],⟨[(4,.h .b)],[],[.b]⟩,false,true,[]⟩
def I9:Nat->(List Int)×Int->Option (Bool):=mF py xE
def ajl:CO:=cF py xE I9 Tryz.func229
def D6 N m d n f e c b:xD N (m+1) (d,n,f,e,c,b)=cond (c<e)
 (aW (aZ f c) λa=>
 cond (a<0)
  (some (.inr false))
  (cond (n<=a)
   (some (.inr false))
   (cond (1<(Option.getD (bC j1 (dI j1 b a (wrap .i64 ((Option.getD (bC j1 b a) 0)+1))) a) 0))
    (some (.inr false))
    ((xD N m (d,n,f,e,(wrap .i64 (c+1)),(dI j1 b a (wrap .i64 ((Option.getD (bC j1 b a) 0)+1)))))))))
 (some (.inl (d,n))):=by kernel_rfl
def XN N a n:I9 (N+1) (a,n)=aW (xD N N (a,n,a,(List.length a:Int),0,[])) λc=>
 (match c with
 |.inl b=>some (decide ((List.length b.1:Int)=b.2))
 |.inr d=>some d):=by kernel_rfl
def l9:List CO:=[ajl]
def Uj:PS:=⟨[(0,.h j8),(6,.k (.ow 900)),(14,.h j6),(15,.h j1),(16,.h j1)],[(900,.arr 66 j2 true)],[j8,j6,j1,j1,j8]⟩
def Uk:List (Exit×PS):=[((.exit 0),⟨[(6,.k (.ow 900))],[(900,.arr 66 j2 true)],[j8]⟩)]
def Ul:Pl:=.z
def Cb:Nat->Nat->(List Int)×(List Int)×Int×Int×(List Int)->Option ((List Int)):=fS l9 Tryz.f182 [1,1,1,0,1,0,0] Uj Uk Ul
def rS:FD:=⟨182,Tryz.f182,(.n .z (.n .z (.n .z (.n (.n .z (.n (.loop Uj Uk Ul) .z)) .z)))),[.h j8,.h j6],[],[j8,j6],⟨[(4,.k (.ow 900)),(5,.h .b)],[(900,.arr 66 j2 true)],[.b,j8]⟩,true,true,[900]⟩
def Um:Nat->(List Int)×(List Int)->Option A9:=mF l9 rS
def al5:CO:=cF l9 rS Um Tryz.func182
def G2 N m b c d a l:Cb N (m+1) (b,c,d,a,l)=cond (a<d)
 (aW (aZ c a) λe=>
 aW (aZ b e) λf=>
 aW (eC 4 l [f]) λg=>
 (Cb N m (b,c,d,(wrap .i64 (a+1)),g)))
 (some l):=by kernel_rfl
def abT N b a:Um (N+1) (b,a)=aW (I9 N (a,(List.length b:Int))) λc=>
 cond (!c)
  (some (false,[]))
  (aW (Cb N N (b,a,(List.length a:Int),0,[])) λd=>
  some (true,d)):=by kernel_rfl
def l_:List CO:=[]
def Un:PS:=⟨[(0,.h j8),(3,.k (.ow 900)),(9,.h j8),(10,.h j1),(11,.h j1)],[(900,.arr 4 .b true)],[j8,j8,j1,j1,j3]⟩
def Uo:List (Exit×PS):=[((.exit 0),⟨[(3,.k (.ow 900))],[(900,.arr 4 .b true)],[j3]⟩)]
def Up:Pl:=.z
def xF:Nat->Nat->(List Int)×(List Int)×Int×Int×(List Bool)->Option ((List Bool)):=fS l_ Tryz.f184 [1,1,0,1,0,0] Un Uo Up
def rT:FD:=⟨184,Tryz.f184,(.n .z (.n .z (.n (.n .z (.n (.loop Un Uo Up) .z)) .z))),[.h j8],[],[j8],⟨[(2,.k (.ow 900))],[(900,.arr 4 .b true)],[j3]⟩,true,true,[900]⟩
def Uq:Nat->(List Int)->Option ((List Bool)):=mF l_ rT
def al6:CO:=cF l_ rT Uq Tryz.func184
def G3 N m b d c a l:xF N (m+1) (b,d,c,a,l)=cond (a<c)
 (aW (aZ d a) λe=>
 cond (a=0)
  (aW (aZ l a) λg=>
  aW (aZ l a) λh=>
  (xF N m (b,d,c,(wrap .i64 (a+1)),(List.set l (Int.toNat a) true))))
  (aW (aZ b (wrap .i64 (a - 1))) λf=>
  aW (aZ l a) λi=>
  aW (aZ l a) λj=>
  (xF N m (b,d,c,(wrap .i64 (a+1)),(List.set l (Int.toNat a) (!(f=e)))))))
 (some l):=by kernel_rfl
def abU N a:Uq (N+1) a=aW (qI (List.length a:Int) (1:Nat)) λb=>
 aW (xF N N (a,a,(List.length a:Int),(0:Int),(List.replicate b false))) λc=>
 some c:=by kernel_rfl
def pz:List CO:=[]
def MY:PS:=⟨[(1,.h .b),(5,.k (.ow 900)),(11,.h j3),(12,.h j1),(13,.h j1)],[(900,.arr 66 j2 true)],[.b,j3,j1,j1,j8]⟩
def MZ:List (Exit×PS):=[((.exit 0),⟨[(5,.k (.ow 900))],[(900,.arr 66 j2 true)],[j8]⟩)]
def M0:Pl:=.z
def rU:Nat->Nat->Bool×(List Bool)×Int×Int×(List Int)->Option ((List Int)):=fS pz Tryz.f231 [1,1,0,1,0,0] MY MZ M0
def xG:FD:=⟨231,Tryz.f231,(.n .z (.n .z (.n (.n .z (.n (.loop MY MZ M0) .z)) .z))),[.h j3,.h .b],[],[j3,.b],⟨[(4,.k (.ow 900))],[(900,.arr 66 j2 true)],[j8]⟩,true,true,[900]⟩
def I_:Nat->(List Bool)×Bool->Option ((List Int)):=mF pz xG
def ajm:CO:=cF pz xG I_ Tryz.func231
def D7 N m b c d a l:rU N (m+1) (b,c,d,a,l)=cond (a<d)
 (aW (aZ c a) λe=>
 cond (!(e==b))
  (aW (aZ l a) λf=>
  aW (aZ l a) λg=>
  (rU N m (b,c,d,(wrap .i64 (a+1)),(List.set l (Int.toNat a) 1))))
  ((rU N m (b,c,d,(wrap .i64 (a+1)),l))))
 (some l):=by kernel_rfl
def XO N a b:I_ (N+1) (a,b)=aW (qI (List.length a:Int) (4:Nat)) λc=>
 aW (rU N N (b,a,(List.length a:Int),(0:Int),(List.replicate c (0:Int)))) λd=>
 some d:=by kernel_rfl
def nD:List CO:=[abP,Qn]
def Ur:PS:=⟨[(0,.h j8),(9,.k (.ow 900)),(11,.h j1),(14,.h j1),(15,.k (.ow 901)),(43,.k (.ow 902)),(44,.h j1),(45,.h j1)],[(900,.arr 66 j2 true),(901,.arr 3 j1 true),(902,.arr 3 j1 true)],[j8,j1,j1,j1,j1,j8,j6,j6]⟩
def Us:List (Exit×PS):=[((.exit 0),⟨[(11,.h j1),(14,.h j1),(15,.k (.ow 900))],[(900,.arr 3 j1 true)],[j1,j1,j6]⟩)]
def Ut:Pl:=.z
def xH:Nat->Nat->(List Int)×Int×Int×Int×Int×(List Int)×(List Int)×(List Int)->Option A7:=fS nD Tryz.f230 [1,1,1,1,1,1,0,1,0,0] Ur Us Ut
def uF:FD:=⟨230,Tryz.f230,(.n .z (.n .z (.n .z (.n .z (.n .z (.n .z (.n (.n .z (.n (.loop Ur Us Ut) .z)) .z))))))),[.h j8,.h j1,.ag [.h j1,.h j1,.h b_]],[],[j8,j1,j1,j1,b_],⟨[(6,.k (.ow 900)),(7,.h j1),(8,.h j1)],[(900,.arr 3 j1 true)],[j1,j1,j6]⟩,true,true,[900]⟩
def abV:Nat->(List Int)×Int×Int×Int×A1->Option A7:=mF nD uF
def al7:CO:=cF nD uF abV Tryz.func230
def G4 N m d n e f a b l c:xH N (m+1) (d,n,e,f,a,b,l,c)=cond (a<f)
 (aW (aZ c a) λj=>
 aW (aZ c a) λg=>
 aW (aZ d g) λi=>
 cond (i=1)
  (aW (aZ b g) λk=>
  aW (aZ b g) λh=>
  aW (aZ l h) λo=>
  aW (aZ l h) λp=>
  (xH N m (d,n,e,f,(wrap .i64 (a+1)),b,(List.set l (Int.toNat h) g),c)))
  ((xH N m (d,n,e,f,(wrap .i64 (a+1)),b,l,c))))
 (some (n,e,l)):=by kernel_rfl
def abW N c d p p2 p3:abV (N+1) (c,d,p,p2,p3)=aW (DZ N (c,d,p,p2,p3)) λa=>
 cond (!(a.2.2.1=(0:Int)))
  (some ((0:Int),a.2.2.1,[]))
  (aW (jX N ((List.length c:Int),p,p2,p3)) λb=>
  cond (!(b.2.1=(0:Int)))
   (some ((0:Int),b.2.1,[]))
   (aW (qI a.1 (8:Nat)) λe=>
   aW (xH N N (c,a.2.1,b.1,(List.length b.2.2:Int),(0:Int),a.2.2.2,(List.replicate e (0:Int)),b.2.2)) λz4=>
   some ((wrap .i64 (z4.1+z4.2.1)),(0:Int),z4.2.2))):=by kernel_rfl
def xI:List CO:=[ajm,al7]
def xJ:FD:=⟨183,Tryz.f183,.z,[.h j3,.h j1,.ag [.h j1,.h j1,.h b_]],[],[j3,j1,j1,j1,b_],⟨[(6,.k (.ow 900)),(7,.h j1),(8,.h j1)],[(900,.arr 3 j1 true)],[j1,j1,j6]⟩,true,true,[900]⟩
def Ja:Nat->(List Bool)×Int×Int×Int×A1->Option A7:=mF xI xJ
def ajn:CO:=cF xI xJ Ja Tryz.func183
def XP N c b p p2 p3:Ja (N+1) (c,b,p,p2,p3)=aW (I_ N (c,false)) λd=>
 aW (abV N (d,b,p,p2,p3)) λa=>
 some (a.1,a.2.1,a.2.2):=by kernel_rfl
def jA:List CO:=[ajk,al5,al6,ajn]
def Uu:PS:=⟨[(9,.h j1),(11,.k (.ow 900)),(13,.k (.ow 901)),(14,.h j1),(15,.k (.ow 902)),(16,.k (.ow 903)),(17,.h j1),(18,.h j1),(19,.h j1),(55,.k (.ow 901)),(56,.h j1),(57,.h j1)],[(900,.arr 66 j2 true),(901,.arr 3 j1 true),(902,.arr 66 j2 true),(903,.arr 3 j1 true)],[j1,j1,j1,j1,j1,j1,j1,j8,j6,j8,j6]⟩
def Uv:List (Exit×PS):=[(.normal,⟨[(9,.h j1),(11,.k (.ow 900)),(13,.k (.ow 901)),(14,.h j1),(15,.k (.ow 902)),(16,.k (.ow 903)),(18,.h j1),(19,.h j1),(55,.k (.ow 901)),(56,.h j1),(57,.h j1)],[(900,.arr 66 j2 true),(901,.arr 3 j1 true),(902,.arr 66 j2 true),(903,.arr 3 j1 true)],[j1,j1,j1,j1,j1,j1,j8,j6,j8,j6]⟩)]
def Uw:Pl:=.z
def Jb:Nat->Nat->Int×Int×Int×Int×Int×Int×Int×(List Int)×(List Int)×(List Int)×(List Int)->Option (Int×Int×Int×Int×Int×Int×(List Int)×(List Int)×(List Int)×(List Int)):=jnF jA Tryz.f138 [1,1,1,1,1,1,1,1,0,1,0,0,1,1,0,0,1,1,0] Uu Uv Uw
def Ux:PS:=⟨[(9,.h j1),(11,.k (.ow 900)),(13,.k (.ow 901)),(14,.h j1),(15,.k (.ow 902)),(16,.k (.ow 903)),(55,.k (.ow 901)),(56,.h j1),(57,.h j1)],[(900,.arr 66 j2 true),(901,.arr 3 j1 true),(902,.arr 66 j2 true),(903,.arr 3 j1 true)],[j1,j1,j1,j1,j8,j6,j8,j6]⟩
def Uy:List (Exit×PS):=[((.exit 0),⟨[(9,.h j1),(14,.h j1),(15,.k (.ow 900)),(16,.k (.ow 901))],[(900,.arr 66 j2 true),(901,.arr 3 j1 true)],[j1,j1,j8,j6]⟩)]
def Uz:Pl:=(.n .z (.n .z (.n (.n (.n .z (.n .z (.n (.join Uu Uv Uw) .z))) .z) .z)))
def Cc:Nat->Nat->Int×Int×Int×Int×(List Int)×(List Int)×(List Int)×(List Int)->Option (Int×Int×(List Int)×(List Int)):=fS jA Tryz.f138 [1,1,1,1,1,1,1,1,0,1,0,0] Ux Uy Uz
def rV:FD:=⟨138,Tryz.f138,(.n .z (.n .z (.n .z (.n .z (.n .z (.n .z (.n .z (.n .z (.n (.n .z (.n (.loop Ux Uy Uz) .z)) .z))))))))),[.h j8,.ag [.h j1,.h j1,.h j1,.h j1,.h b_]],[],[j8,j1,j1,j1,j1,b_],⟨[(4,.k (.ow 900)),(5,.k (.ow 901)),(6,.h j1),(7,.h j1)],[(900,.arr 66 j2 true),(901,.arr 3 j1 true)],[j1,j1,j8,j6]⟩,true,true,[900,901]⟩
def abX:Nat->(List Int)×Int×Int×Int×Int×A1->Option (Int×Int×(List Int)×(List Int)):=mF jA rV
def al8:CO:=cF jA rV abX Tryz.func138
def XQ N m n f i b j g h d a c e:Jb N (m+1) (n,f,i,b,j,g,h,d,a,c,e)=cond ((wrap .i64 (i+1))<(List.length a:Int))
 (aW (aZ a (wrap .i64 (i+1))) λl=>
 aW (aZ a (wrap .i64 (i+1))) λk=>
 some (n,f,b,k,g,h,d,a,c,e))
 (some (n,f,b,j,g,h,d,a,c,e)):=by kernel_rfl
def G5 N m n g h b e c d f:Cc N (m+1) (n,g,h,b,e,c,d,f)=cond (b<h)
 (aW (aZ c b) λo=>
 aW (aZ c b) λi=>
 aW (Jb N N (n,g,b,i,(List.length e:Int),h,b,e,c,d,f)) λa=>
 aW (aZ a.2.2.2.2.2.2.1 a.2.2.1) λp=>
 aW (aZ a.2.2.2.2.2.2.1 a.2.2.1) λj=>
 aW (eC 4 a.2.2.2.2.2.2.2.2.1 [j]) λk=>
 aW (eC 8 a.2.2.2.2.2.2.2.2.2 [(wrap .i64 (a.2.2.2.1 - a.2.2.1))]) λl=>
 (Cc N m (a.1,a.2.1,a.2.2.2.2.1,(wrap .i64 (a.2.2.2.2.2.1+1)),a.2.2.2.2.2.2.1,a.2.2.2.2.2.2.2.1,k,l)))
 (some (n,g,d,f)):=by kernel_rfl
def abY N c w d e f g:abX (N+1) (c,w,d,e,f,g)=aW (I8 N (c,w,d,e,f,g)) λb=>
 cond (!(b.2.1=0))
  (some (0,b.2.1,[],[]))
  (aW (Um N (c,b.2.2)) λh=>
  aW (Uq N h.2) λi=>
  aW (Ja N (i,d,e,f,g)) λa=>
  cond (!(a.2.1=0))
   (some (0,a.2.1,[],[]))
   (aW (Cc N N (b.1,a.1,(List.length a.2.2:Int),0,h.2,a.2.2,[],[])) λz5=>
   some ((wrap .i64 (z5.1+z5.2.1)),0,z5.2.2.1,z5.2.2.2))):=by kernel_rfl
def xK:List CO:=[al8]
def xL:FD:=⟨68,Tryz.f68,.z,[.h j8,.ag [.h j1,.h j1,.h j1,.h j1,.h b_]],[],[j8,j1,j1,j1,j1,b_],⟨[(4,.k (.ow 900)),(5,.h j1),(6,.h j1)],[(900,.arr 66 j2 true)],[j1,j1,j8]⟩,true,true,[900]⟩
def Jc:Nat->(List Int)×Int×Int×Int×Int×A1->Option A7:=mF xK xL
def ajo:CO:=cF xK xL Jc Tryz.func68
def XR N b w c d e f:Jc (N+1) (b,w,c,d,e,f)=aW (abX N (b,w,c,d,e,f)) λa=>
 some (a.1,a.2.1,a.2.2.1):=by kernel_rfl
def xM:List CO:=[]
def xN:FD:=⟨69,Tryz.f69,.z,[.h j2],[],[j2],⟨[(2,.k (.pt 900 0))],[(900,.box 46 [.h j1,.h j1])],[j1,j1]⟩,false,true,[]⟩
def Jd:Nat->Int->Option (Int×Int):=mF xM xN
def ajp:CO:=cF xM xN Jd Tryz.func69
def XS N a:Jd (N+1) a=some ((wrap .i64 (Int.fdiv a ((2:Int)^(min (Int.toNat 16) 32)))),(wrap .i64 (wrap .u16 a))):=by kernel_rfl
def kj:List CO:=[ai9,ajo,ajp]
def UA:PS:=⟨[(13,.h j1),(14,.h j1),(15,.k (.ow 901)),(48,.k (.ow 900)),(49,.h j1),(50,.h j1)],[(901,.arr 46 j5 true),(900,.arr 66 j2 true)],[j1,j1,j1,j1,b_,j8]⟩
def UB:List (Exit×PS):=[((.exit 2),⟨[(13,.h j1),(14,.h j1),(15,.k (.ow 900))],[(900,.arr 46 j5 true)],[j1,j1,b_]⟩)]
def UC:Pl:=.z
def Cd:Nat->Nat->Int×Int×Int×Int×A1×(List Int)->Option (Int×Int×A1):=fS kj Tryz.f27 [1,1,1,1,1,0,1,0,0] UA UB UC
def UD:PS:=⟨[(3,.k (.pt 900 0)),(7,.k (.ow 901)),(18,.h b_),(19,.h j1),(20,.h j1)],[(900,.box 42 [.h j1,.h j1,.h j1,.h j1,.h b_]),(901,.arr 66 j2 true)],[b_,j1,j1,j1,j1,j1,j1,b_,j8]⟩
def UE:List (Exit×PS):=[((.exit 0),⟨[(3,.k (.pt 900 0)),(7,.k (.ow 901))],[(900,.box 42 [.h j1,.h j1,.h j1,.h j1,.h b_]),(901,.arr 66 j2 true)],[j1,j1,j1,j1,b_,j8]⟩),(.ret,⟨[(4,.k .nil),(5,.h j1),(6,.h j1)],[],[j1,j1]⟩)]
def UF:Pl:=.z
def xP:Nat->Nat->A1×Int×Int×Int×Int×Int×Int×A1×(List Int)->Option ((Int×Int×Int×Int×A1×(List Int))⊕(Int×Int)):=fS kj Tryz.f27 [1,1,0,1,0,0] UD UE UF
def uG:FD:=⟨27,Tryz.f27,(.n .z (.n .z (.n (.n .z (.n (.loop UD UE UF) .z)) (.n .z (.n .z (.n (.n .z (.n (.loop UA UB UC) .z)) .z)))))),[.h b_,.ag [.h j1,.h j1,.h j1,.h j1,.h b_]],[],[b_,j1,j1,j1,j1,b_],⟨[(4,.k (.ow 900)),(5,.h j1),(6,.h j1)],[(900,.arr 46 j5 true)],[j1,j1,b_]⟩,true,true,[900]⟩
def D8:Nat->A1×Int×Int×Int×Int×A1->Option (Int×Int×A1):=mF kj uG
def al9:CO:=cF kj uG D8 Tryz.func27
def G6 N m n e d a c b:Cd N (m+1) (n,e,d,a,c,b)=cond (a<d)
 (aW (aZ b a) λi=>
 aW (aZ b a) λg=>
 aW (Jd N g) λf=>
 aW (eC 16 c [(f.1,f.2)]) λh=>
 (Cd N m (n,e,d,(wrap .i64 (a+1)),h,b)))
 (some (n,e,c)):=by kernel_rfl
def G7 N m c d a w e f g h b:xP N (m+1) (c,d,a,w,e,f,g,h,b)=cond (a<d)
 (aW (aZ c a) λi=>
 aW (IV N (i.1,i.2)) λj=>
 cond (!j.2)
  (some (.inr (0,10)))
  (cond (!(i.1=i.2))
   (aW (eC 4 b [j.1]) λk=>
   (xP N m (c,d,(wrap .i64 (a+1)),w,e,f,g,h,k)))
   ((xP N m (c,d,(wrap .i64 (a+1)),w,e,f,g,h,b)))))
 (some (.inl (w,e,f,g,h,b))):=by kernel_rfl
def abZ N l w d e f g:D8 (N+1) (l,w,d,e,f,g)=aW (xP N N (l,(List.length l:Int),0,w,d,e,f,g,[])) λi=>
 (match i with
 |.inl a=>aW (Jc N (a.2.2.2.2.2,a.1,a.2.1,a.2.2.1,a.2.2.2.1,a.2.2.2.2.1)) λb=>
  aW (Cd N N (b.1,b.2.1,(List.length b.2.2:Int),0,[],b.2.2)) λc=>
  some (c.1,c.2.1,c.2.2)
 |.inr h=>some (h.1,h.2,[])):=by kernel_rfl
def nE:List CO:=[uo]
def UG:PS:=⟨[(3,.k (.ow 900)),(10,.h cR),(11,.h j1),(12,.h j1)],[(900,.arr 46 j5 true)],[cR,j1,j1,b_]⟩
def UH:List (Exit×PS):=[((.exit 0),⟨[(3,.k (.ow 900))],[(900,.arr 46 j5 true)],[b_]⟩)]
def UI:Pl:=.z
def Ce:Nat->Nat->ff×Int×Int×A1->Option (A1):=fS nE Tryz.f23 [1,1,1,0,1,0,0] UG UH UI
def uH:FD:=⟨23,Tryz.f23,(.n .z (.n .z (.n .z (.n (.n .z (.n (.loop UG UH UI) .z)) .z)))),[.ag [.h j1,.h cR]],[],[j1,cR],⟨[(2,.k (.ow 900))],[(900,.arr 46 j5 true)],[b_]⟩,true,true,[900]⟩
def G8:Nat->Int×ff->Option (A1):=mF nE uH
def ab0:CO:=cF nE uH G8 Tryz.func23
def G9 N m b c a l:Ce N (m+1) (b,c,a,l)=cond (a<c)
 (aW (aZ b a) λd=>
 aW (eC 16 l [(d.1,d.2.1)]) λe=>
 (Ce N m (b,c,(wrap .i64 (a+1)),e)))
 (some l):=by kernel_rfl
def ab1 N g a:G8 (N+1) (g,a)=aW (mQ N (g,a)) λb=>
 cond (!b)
  (some [])
  (aW (Ce N N (a,(List.length a:Int),0,[])) λc=>
  some c):=by kernel_rfl
def mR:List CO:=[]
def mS:FD:=⟨146,Tryz.f146,.z,[.ag [.h j1,.h j1],.k (.pt 4294967296 0)],[(4294967296,.box 234 [.k (.mp 4294967297)]),(4294967297,.mp (.tuple ⟨[]⟩) j5 j1)],[j1,j1,O6],⟨[(3,.h .b)],[(4294967297,.mp (.tuple ⟨[]⟩) j5 j1),(4294967296,.box 234 [.k (.mp 4294967297)])],[.b,O6]⟩,true,true,[4294967297,4294967296]⟩
def M1:Nat->Int×Int×A5->Option (Bool×A5):=mF mR mS
def ahB:CO:=cF mR mS M1 Tryz.func146
def ab2 N x a h:M1 (N+1) (x,a,h)=some ((decide ((Option.getD (bC j5 h (x,a)) 0)=0)),h):=by kernel_rfl
def bI:List CO:=[ahB]
def ab3:PS:=⟨[(0,.h b_),(1,.cl (.func 146) [] [.k (.pt 4294967296 0)]),(7,.h j1),(8,.h j1)],[(4294967296,.box 234 [.k (.mp 4294967297)]),(4294967297,.mp (.tuple ⟨[]⟩) j5 j1)],[b_,j1,j1,O6]⟩
def ab4:List (Exit×PS):=[((.exit 0),⟨[],[(4294967296,.box 234 [.k (.mp 4294967297)]),(4294967297,.mp (.tuple ⟨[]⟩) j5 j1)],[O6]⟩),(.ret,⟨[(4,.h j1)],[(4294967296,.box 234 [.k (.mp 4294967297)]),(4294967297,.mp (.tuple ⟨[]⟩) j5 j1)],[j1,O6]⟩)]
def ab5:Pl:=.z
def Je:Nat->Nat->A1×Int×Int×A5->Option ((A5)⊕(Int×A5)):=fS bI Tryz.f168 [1,0,1,0,0] ab3 ab4 ab5
def cS:FD:=⟨168,Tryz.f168,(.n .z (.n (.n .z (.n (.loop ab3 ab4 ab5) .z)) .z)),[.h b_,.cl (.func 146) [] [.k (.pt 4294967296 0)]],[(4294967296,.box 234 [.k (.mp 4294967297)]),(4294967297,.mp (.tuple ⟨[]⟩) j5 j1)],[b_,O6],⟨[(4,.h j1)],[(4294967296,.box 234 [.k (.mp 4294967297)]),(4294967297,.mp (.tuple ⟨[]⟩) j5 j1)],[j1,O6]⟩,true,true,[4294967296,4294967297]⟩
def ajq:Nat->A1×A5->Option (Int×A5):=mF bI cS
def aoA:CO:=cF bI cS ajq Tryz.func168
def M3 N m s c a b:Je N (m+1) (s,c,a,b)=cond (a<c)
 (aW (aZ s a) λe=>
 aW (M1 N (e.1,e.2,b)) λd=>
 cond d.1
  (some (.inr (a,d.2)))
  ((Je N m (s,c,(wrap .i64 (a+1)),d.2))))
 (some (.inl b)):=by kernel_rfl
def afY N s h:ajq (N+1) (s,h)=aW (Je N N (s,(List.length s:Int),0,h)) λb=>
 (match b with
 |.inl c=>some ((-1),c)
 |.inr a=>some (a.1,a.2)):=by kernel_rfl
def bG:List CO:=[aoA,ahB]
def ab6:PS:=⟨[(0,.k (.ow 4294967296)),(1,.cl (.func 146) [] [.k (.pt 4294967297 0)]),(5,.h j1),(6,.h j1)],[(4294967296,.arr 46 j5 true),(4294967297,.box 234 [.k (.mp 4294967298)]),(4294967298,.mp (.tuple ⟨[]⟩) j5 j1)],[j1,j1,b_,O6]⟩
def ab7:List (Exit×PS):=[((.exit 0),⟨[(0,.k (.ow 4294967296)),(5,.h j1)],[(4294967296,.arr 46 j5 true),(4294967297,.box 234 [.k (.mp 4294967298)]),(4294967298,.mp (.tuple ⟨[]⟩) j5 j1)],[j1,b_,O6]⟩)]
def ab8:Pl:=.z
def D9:Nat->Nat->Int×Int×A1×A5->Option (Int×A1×A5):=fS bG Tryz.f145 [1,1,1,0,1,0,0] ab6 ab7 ab8
def cI:FD:=⟨145,Tryz.f145,(.n .z (.n .z (.n .z (.n (.n .z (.n (.loop ab6 ab7 ab8) .z)) .z)))),[.k (.ow 4294967296),.cl (.func 146) [] [.k (.pt 4294967297 0)]],[(4294967296,.arr 46 j5 true),(4294967297,.box 234 [.k (.mp 4294967298)]),(4294967298,.mp (.tuple ⟨[]⟩) j5 j1)],[b_,O6],⟨[(4,.k (.ow 900))],[(900,.arr 46 j5 true),(4294967298,.mp (.tuple ⟨[]⟩) j5 j1),(4294967297,.box 234 [.k (.mp 4294967298)])],[b_,O6]⟩,true,true,[900,4294967298,4294967297]⟩
def afZ:Nat->A1×A5->Option (A1×A5):=mF bG cI
def aoB:CO:=cF bG cI afZ Tryz.func145
def ab9 N m i j s b:D9 N (m+1) (i,j,s,b)=cond (j<(List.length s:Int))
 (aW (aZ s j) λd=>
 aW (aZ s j) λa=>
 aW (M1 N (a.1,a.2,b)) λc=>
 cond (!c.1)
  (aW (aZ s i) λe=>
  aW (aZ s i) λf=>
  (D9 N m ((wrap .i64 (i+1)),(wrap .i64 (j+1)),(List.set s (Int.toNat i) (a.1,a.2)),c.2)))
  ((D9 N m (i,(wrap .i64 (j+1)),s,c.2))))
 (some (i,s,b)):=by kernel_rfl
def af0 N s h:afZ (N+1) (s,h)=aW (ajq N (s,h)) λb=>
 cond (b.1=(-1))
  (some (s,b.2))
  (aW (D9 N N (b.1,(wrap .i64 (b.1+1)),s,b.2)) λa=>
  cond (((true && true) && true) && (!(lX a.2.1)))
   (aW (jf a.2.1 a.1 (List.length a.2.1:Int)) λe=>
   aW (WM a.2.1 a.1 ((List.length a.2.1:Int) - a.1) (0,0)) λc=>
   aW (jf c 0 a.1) λd=>
   some (d,a.2.2))
   none):=by kernel_rfl
def pA:List CO:=[uo,ab0,aoB]
def M4:PS:=⟨[(2,.k (.pt 900 0)),(6,.k (.pt 901 0)),(13,.h b_),(14,.h j1),(15,.h j1)],[(900,.box 24 [.h j1,.h cR]),(901,.box 234 [.k (.mp 902)]),(902,.mp (.tuple ⟨[]⟩) j5 j1)],[b_,j1,j1,j1,cR,O6]⟩
def M5:List (Exit×PS):=[((.exit 0),⟨[(2,.k (.pt 900 0)),(6,.k (.pt 901 0))],[(900,.box 24 [.h j1,.h cR]),(901,.box 234 [.k (.mp 902)]),(902,.mp (.tuple ⟨[]⟩) j5 j1)],[j1,cR,O6]⟩),(.ret,⟨[(4,.k .nil),(5,.h j1)],[],[j1]⟩)]
def M6:Pl:=.z
def xQ:Nat->Nat->A1×Int×Int×Int×ff×A5->Option ((Int×ff×A5)⊕(Int)):=fS pA Tryz.f77 [1,1,1,0,1,0,0] M4 M5 M6
def xR:FD:=⟨77,Tryz.f77,(.n .z (.n .z (.n .z (.n (.n .z (.n (.loop M4 M5 M6) .z)) .z)))),[.ag [.h j1,.h cR],.h b_],[],[j1,cR,b_],⟨[(4,.k (.ow 900)),(5,.h j1)],[(900,.arr 46 j5 true)],[j1,b_]⟩,true,true,[900]⟩
def zD:Nat->Int×ff×A1->Option (Int×A1):=mF pA xR
def ab_:CO:=cF pA xR zD Tryz.func77
def D_ N m e f c g d b:xQ N (m+1) (e,f,c,g,d,b)=cond (c<f)
 (aW (aZ e c) λa=>
 cond ((if(a.2<a.1)then a.2 else a.1)<0)
  (some (.inr 10))
  (cond (g<=(if(a.2>a.1)then a.2 else a.1))
   (some (.inr 10))
   (aW (PF (dI j5 b ((if(a.2<a.1)then a.2 else a.1),(if(a.2>a.1)then a.2 else a.1)) (Option.getD (bC j5 b ((if(a.2<a.1)then a.2 else a.1),(if(a.2>a.1)then a.2 else a.1))) 0)) (((Iq j5 b ((if(a.2<a.1)then a.2 else a.1),(if(a.2>a.1)then a.2 else a.1))):Nat):Int) (wrap .i64 ((Option.getD (bC j5 b ((if(a.2<a.1)then a.2 else a.1),(if(a.2>a.1)then a.2 else a.1))) 0)+1))) λh=>
   (xQ N m (e,f,(wrap .i64 (c+1)),g,d,h)))))
 (some (.inl (g,d,b))):=by kernel_rfl
def XT N g a l:zD (N+1) (g,a,l)=aW (mQ N (g,a)) λc=>
 cond (!c)
  (some (1,[]))
  (aW (xQ N N (l,(List.length l:Int),0,g,a,[])) λd=>
  (match d with
  |.inl b=>aW (G8 N (b.1,b.2.1)) λe=>
   aW (afZ N (e,b.2.2)) λf=>
   some (0,f.1)
  |.inr h=>some (h,[]))):=by kernel_rfl
def pB:List CO:=[uo,ab0,⟨du,eG⟩]
def M7:PS:=⟨[(2,.k (.pt 900 0)),(6,.k (.mp 901)),(9,.k (.ow 902)),(26,.h b_),(27,.h j1),(28,.h j1)],[(900,.box 24 [.h j1,.h cR]),(901,.mp (.tuple ⟨[]⟩) j5 j1),(902,.arr 46 j5 true)],[b_,j1,j1,j1,cR,O6,b_]⟩
def M8:List (Exit×PS):=[((.exit 2),⟨[(9,.k (.ow 900))],[(900,.arr 46 j5 true)],[b_]⟩),(.ret,⟨[(4,.k .nil),(5,.h j1)],[],[j1]⟩)]
def M9:Pl:=.z
def oq:Nat->Nat->A1×Int×Int×Int×ff×A5×A1->Option ((A1)⊕(Int)):=fS pB Tryz.f70 [1,1,1,1,1,0,1,0,0] M7 M8 M9
def M_:PS:=⟨[(1,.h b_),(2,.k (.pt 900 0)),(6,.k (.mp 901)),(17,.k (.ow 902)),(18,.h j1),(19,.h j1)],[(900,.box 24 [.h j1,.h cR]),(901,.mp (.tuple ⟨[]⟩) j5 j1),(902,.arr 46 j5 true)],[b_,j1,j1,j1,cR,O6,b_]⟩
def Na:List (Exit×PS):=[((.exit 0),⟨[(1,.h b_),(2,.k (.pt 900 0)),(6,.k (.mp 901))],[(900,.box 24 [.h j1,.h cR]),(901,.mp (.tuple ⟨[]⟩) j5 j1)],[b_,j1,cR,O6]⟩)]
def Nb:Pl:=.z
def xS:Nat->Nat->A1×Int×Int×Int×ff×A5×A1->Option (A1×Int×ff×A5):=fS pB Tryz.f70 [1,1,1,0,1,0,0] M_ Na Nb
def Ea:FD:=⟨70,Tryz.f70,(.n .z (.n .z (.n .z (.n (.n .z (.n (.loop M_ Na Nb) .z)) (.n .z (.n (.n .z (.n (.loop M7 M8 M9) .z)) .z)))))),[.ag [.h j1,.h cR],.h b_],[],[j1,cR,b_],⟨[(4,.k (.ow 900)),(5,.h j1)],[(900,.arr 46 j5 true)],[j1,b_]⟩,true,true,[900]⟩
def zF:Nat->Int×ff×A1->Option (Int×A1):=mF pB Ea
def aca:CO:=cF pB Ea zF Tryz.func70
def Eb N m e f b g h d c:oq N (m+1) (e,f,b,g,h,d,c)=cond (b<f)
 (aW (aZ e b) λa=>
 cond ((if(a.2<a.1)then a.2 else a.1)<0)
  (some (.inr 10))
  (cond (g<=(if(a.2>a.1)then a.2 else a.1))
   (some (.inr 10))
   (cond ((if(a.2<a.1)then a.2 else a.1)<(if(a.2>a.1)then a.2 else a.1))
    (cond ((Option.getD (bC j5 d ((if(a.2<a.1)then a.2 else a.1),(if(a.2>a.1)then a.2 else a.1))) 0)=0)
     (aW (eC 16 c [((if(a.2<a.1)then a.2 else a.1),(if(a.2>a.1)then a.2 else a.1))]) λi=>
     (oq N m (e,f,(wrap .i64 (b+1)),g,h,(dI j5 d ((if(a.2<a.1)then a.2 else a.1),(if(a.2>a.1)then a.2 else a.1)) 1),i)))
     ((oq N m (e,f,(wrap .i64 (b+1)),g,h,d,c))))
    ((oq N m (e,f,(wrap .i64 (b+1)),g,h,d,c))))))
 (some (.inl c)):=by kernel_rfl
def Ec N m l e a g c d b:xS N (m+1) (l,e,a,g,c,d,b)=cond (a<e)
 (aW (aZ b a) λh=>
 aW (aZ b a) λf=>
 (xS N m (l,e,(wrap .i64 (a+1)),g,c,(dI j5 d (f.1,f.2) 1),b)))
 (some (l,g,c,d)):=by kernel_rfl
def XU N g b l:zF (N+1) (g,b,l)=aW (mQ N (g,b)) λd=>
 cond (!d)
  (some (1,[]))
  (aW (G8 N (g,b)) λc=>
  aW (xS N N (l,(List.length c:Int),0,g,b,[],c)) λa=>
  aW (oq N N (a.1,(List.length a.1:Int),0,a.2.1,a.2.2.1,a.2.2.2,[])) λe=>
  (match e with
  |.inl h=>aW (bU N h) λf=>
   some (0,f)
  |.inr i=>some (i,[]))):=by kernel_rfl
def xT:List CO:=[uo]
def xU:FD:=⟨84,Tryz.f84,.z,[.ag [.h j1,.h cR]],[],[j1,cR],⟨[(2,.h j1)],[],[j1]⟩,false,true,[]⟩
def Ed:Nat->Int×ff->Option (Int):=mF xT xU
def ajr:CO:=cF xT xU Ed Tryz.func84
def G_ N g a:Ed (N+1) (g,a)=aW (mQ N (g,a)) λb=>
 cond (!b)
  (some 0)
  (some (wrap .i64 (400 - (List.length a:Int)))):=by kernel_rfl
def uI:List CO:=[uo,ai7,alK,alN,al9,ab_,aca,ajr]
def uJ:FD:=⟨31,Tryz.f31,.z,[.ag [.h j1,.h cR],.ag [.h j1,.h b_,.h pf],.ag [.h j1,.h j1,.h j1,.h j1,.h b_]],[],[j1,cR,j1,b_,pf,j1,j1,j1,j1,b_],⟨[(6,.k (.pt 900 0)),(7,.h j1),(8,.h j1)],[(900,.box 30 [.h j1,.h b_,.h pf])],[j1,j1,j1,b_,pf]⟩,false,false,[]⟩
def ot:Nat->Int×ff×Int×A1×(List A4)×Int×Int×Int×Int×A1->Option (Int×Int×Int×A1×(List A4)):=mF uI uJ
def al_:CO:=cF uI uJ ot Tryz.func31
def Ee N g e x c d w h i j k:ot (N+1) (g,e,x,c,d,w,h,i,j,k)=aW (mQ N (g,e)) λm=>
 cond (!m)
  (some (0,1,0,[],[]))
  (aW (IU N (x,c,d)) λn=>
  cond (!n)
   (some (0,1,0,[],[]))
   (aW (TH N (x,c,d)) λo=>
   aW (TM N (o,g,e)) λa=>
   cond a.1
    (some (0,10,0,[],[]))
    (cond (x=3)
     (some (0,0,x,[],d))
     (aW (D8 N (c,w,h,i,j,k)) λb=>
     cond (!(b.2.1=0))
      (some (0,b.2.1,0,[],[]))
      (cond (x=2)
       (aW (zD N (a.2.1,a.2.2,b.2.2)) λl=>
       some (b.1,l.1,x,l.2,[]))
       (aW (zF N (a.2.1,a.2.2,b.2.2)) λf=>
       aW (Ed N (a.2.1,a.2.2)) λp=>
       cond (p<(List.length f.2:Int))
        (some (0,2,0,[],[]))
        (some (b.1,f.1,x,f.2,[])))))))):=by kernel_rfl
def AS:List CO:=[]
def AT:FD:=⟨71,Tryz.f71,.z,[.ag [.h j1,.h cR],.h j1],[],[j1,cR,j1],⟨[(4,.h .b)],[],[.b]⟩,false,true,[]⟩
def Qo:Nat->Int×ff×Int->Option (Bool):=mF AS AT
def ajs:CO:=cF AS AT Qo Tryz.func71
def XW N g a more:Qo (N+1) (g,a,more)=some (decide ((wrap .i64 ((List.length a:Int)+more))<=400)):=by kernel_rfl
def rW:List CO:=[uo,aht,aa8]
def rX:FD:=⟨20,Tryz.f20,.z,[.ag [.h j1,.h cR],.h j1],[],[j1,cR,j1],⟨[(4,.k (.pt 900 0)),(5,.h j1)],[(900,.box 80 [.h j1,.h bW])],[j1,j1,bW]⟩,false,false,[]⟩
def Nc:Nat->Int×ff×Int->Option A12:=mF rW rX
def ahC:CO:=cF rW rX Nc Tryz.func20
def acb N g a c:Nc (N+1) (g,a,c)=aW (mQ N (g,a)) λd=>
 cond (!d)
  (some (1,0,[]))
  (aW (LB N (g,a,c)) λe=>
  aW (DK N (g,e)) λb=>
  some (b.1,b.2.1,b.2.2)):=by kernel_rfl
def pF:List CO:=[]
def Nd:PS:=⟨[(0,.h j1),(13,.h b_),(14,.h j1),(15,.h j1)],[],[j1,b_,j1,j1]⟩
def Nf:List (Exit×PS):=[((.exit 0),⟨[],[],[]⟩),(.ret,⟨[(4,.h j1)],[],[j1]⟩)]
def Ng:Pl:=.z
def xV:Nat->Nat->Int×A1×Int×Int->Option ((Unit)⊕(Int)):=fS pF Tryz.f59 [1,1,0,1,0,0] Nd Nf Ng
def xW:FD:=⟨59,Tryz.f59,(.n .z (.n .z (.n (.n .z (.n (.loop Nd Nf Ng) .z)) .z))),[.h j1,.h b_],[],[j1,b_],⟨[(4,.h j1)],[],[j1]⟩,false,true,[]⟩
def Ef:Nat->Int×A1->Option (Int):=mF pF xW
def acd:CO:=cF pF xW Ef Tryz.func59
def Qp N m n c d b:xV N (m+1) (n,c,d,b)=cond (b<d)
 (aW (aZ c b) λa=>
 cond ((if(a.2<a.1)then a.2 else a.1)<0)
  (some (.inr 10))
  (cond (n<=(if(a.2>a.1)then a.2 else a.1))
   (some (.inr 10))
   ((xV N m (n,c,d,(wrap .i64 (b+1)))))))
 (some (.inl ())):=by kernel_rfl
def XX N n l:Ef (N+1) (n,l)=cond (n<1)
 (some 1)
 (cond (64<n)
  (some 1)
  (aW (xV N N (n,l,(List.length l:Int),0)) λa=>
  (match a with
  |.inl c=>some 0
  |.inr b=>some b))):=by kernel_rfl
def Ha:List CO:=[IJ,IM,aa2]
def Hb:FD:=⟨58,Tryz.f58,.z,[.ag [.h j1,.h bW],.h j1],[],[j1,bW,j1],⟨[(4,.h j1)],[],[j1]⟩,false,true,[]⟩
def Eg:Nat->Int×A3×Int->Option (Int):=mF Ha Hb
def ace:CO:=cF Ha Hb Eg Tryz.func58
def XY N f a v:Eg (N+1) (f,a,v)=aW (nz N (f,v)) λb=>
 cond (!b)
  (some (-1))
  (aW (rB N (f,a)) λc=>
  cond (!c)
   (some (-1))
   (aW (zx N (f,a,v)) λd=>
   some d)):=by kernel_rfl
def rY:List CO:=[aaT,ace]
def rZ:FD:=⟨186,Tryz.f186,.z,[.ag [.h j1,.h bW],.h j1],[],[j1,bW,j1],⟨[(4,.h j1),(5,.h j1)],[],[j1,j1]⟩,false,true,[]⟩
def Nh:Nat->Int×A3×Int->Option (Int×Int):=mF rY rZ
def ama:CO:=cF rY rZ Nh Tryz.func186
def acf N f a v:Nh (N+1) (f,a,v)=aW (Gz N (f,a,[v])) λb=>
 cond (!(b=0))
  (some (0,b))
  (aW (Eg N (f,a,v)) λc=>
  aW (aZ a c) λd=>
  aW (aZ d 0) λe=>
  some (e,0)):=by kernel_rfl
def la:List CO:=[IM,acd,ama]
def UJ:PS:=⟨[(2,.k (.pt 900 0)),(7,.k (.ow 901)),(24,.h b_),(25,.h j1),(26,.h j1)],[(900,.box 80 [.h j1,.h bW]),(901,.arr 46 j5 true)],[b_,j1,j1,j1,bW,b_]⟩
def UK:List (Exit×PS):=[((.exit 0),⟨[(7,.k (.ow 900))],[(900,.arr 46 j5 true)],[b_]⟩)]
def UL:Pl:=.z
def Cf:Nat->Nat->A1×Int×Int×Int×A3×A1->Option (A1):=fS la Tryz.f140 [1,1,1,1,0,1,0,0] UJ UK UL
def qp:FD:=⟨140,Tryz.f140,(.n .z (.n .z (.n .z (.n .z (.n (.n .z (.n (.loop UJ UK UL) .z)) .z))))),[.ag [.h j1,.h bW],.h b_],[],[j1,bW,b_],⟨[(4,.k (.ow 900)),(5,.h j1)],[(900,.arr 46 j5 true)],[j1,b_]⟩,true,true,[900]⟩
def UM:Nat->Int×A3×A1->Option (Int×A1):=mF la qp
def amb:CO:=cF la qp UM Tryz.func140
def XZ N m d e b f a c:Cf N (m+1) (d,e,b,f,a,c)=cond (b<e)
 (aW (aZ d b) λg=>
 aW (Nh N (f,a,g.1)) λh=>
 aW (Nh N (f,a,g.2)) λi=>
 aW (eC 16 c [(h.1,i.1)]) λj=>
 (Cf N m (d,e,(wrap .i64 (b+1)),f,a,j)))
 (some c):=by kernel_rfl
def acg N f a l:UM (N+1) (f,a,l)=aW (rB N (f,a)) λc=>
 cond (!c)
  (some (1,[]))
  (aW (Ef N (f,l)) λb=>
  cond (!(b=0))
   (some (b,[]))
   (aW (Cf N N (l,(List.length l:Int),0,f,a,[])) λd=>
   some (0,d))):=by kernel_rfl
def pG:List CO:=[]
def Ni:PS:=⟨[(3,.k (.ow 900)),(8,.h j1),(9,.h j1)],[(900,.arr 3 j1 true)],[j1,j1,j6]⟩
def Nj:List (Exit×PS):=[((.exit 0),⟨[(3,.k (.ow 900))],[(900,.arr 3 j1 true)],[j6]⟩)]
def Nk:Pl:=.z
def xX:Nat->Nat->Int×Int×(List Int)->Option ((List Int)):=fS pG Tryz.f60 [1,1,0,1,0,0] Ni Nj Nk
def xY:FD:=⟨60,Tryz.f60,(.n .z (.n .z (.n (.n .z (.n (.loop Ni Nj Nk) .z)) .z))),[.h j1],[],[j1],⟨[(2,.k (.ow 900))],[(900,.arr 3 j1 true)],[j6]⟩,true,true,[900]⟩
def Eh:Nat->Int->Option ((List Int)):=mF pG xY
def ach:CO:=cF pG xY Eh Tryz.func60
def Qq N m b a s:xX N (m+1) (b,a,s)=cond (a<b)
 (aW (aZ s a) λc=>
 aW (aZ s a) λd=>
 (xX N m (b,(wrap .i64 (a+1)),(List.set s (Int.toNat a) a))))
 (some s):=by kernel_rfl
def X0 N n:Eh (N+1) n=aW (qI n (8:Nat)) λa=>
 aW (xX N N ((List.length (List.replicate a (0:Int)):Int),(0:Int),(List.replicate a (0:Int)))) λb=>
 some b:=by kernel_rfl
def hP:List CO:=[]
def UN:PS:=⟨[(0,.k (.ow 4294967296)),(1,.h j1)],[(4294967296,.arr 3 j1 true)],[j1,j6]⟩
def UO:List (Exit×PS):=[((.exit 0),⟨[(1,.h j1)],[(4294967296,.arr 3 j1 true)],[j1,j6]⟩)]
def UP:Pl:=.z
def Cg:Nat->Nat->Int×(List Int)->Option A6:=fS hP Tryz.f62 [1,0,0,0] UN UO UP
def kG:FD:=⟨62,Tryz.f62,(.n .z (.n (.n (.loop UN UO UP) .z) .z)),[.k (.ow 4294967296),.h j1],[(4294967296,.arr 3 j1 true)],[j1,j6],⟨[(4,.h j1)],[(4294967296,.arr 3 j1 true)],[j1,j6]⟩,true,true,[4294967296]⟩
def Hc:Nat->Int×(List Int)->Option A6:=mF hP kG
def ahD:CO:=cF hP kG Hc Tryz.func62
def X1 N m v s:Cg N (m+1) (v,s)=aW (aZ s v) λe=>
 aW (aZ s v) λd=>
 cond (!(d=v))
  (aW (aZ s v) λf=>
  aW (aZ s v) λb=>
  aW (aZ s b) λg=>
  aW (aZ s b) λa=>
  aW (aZ s v) λh=>
  aW (aZ s v) λi=>
  aW (aZ (List.set s (Int.toNat v) a) v) λj=>
  aW (aZ (List.set s (Int.toNat v) a) v) λc=>
  (Cg N m (c,(List.set s (Int.toNat v) a))))
  (some (v,s)):=by kernel_rfl
def aci N v s:Hc (N+1) (v,s)=aW (Cg N N (v,s)) λa=>
 some (a.1,a.2):=by kernel_rfl
def lu:List CO:=[ahD]
def lx:FD:=⟨131,Tryz.f131,.z,[.k (.ow 4294967296),.h j1,.h j1],[(4294967296,.arr 3 j1 true)],[j1,j1,j6],⟨[(6,.h .b)],[(4294967296,.arr 3 j1 true)],[.b,j6]⟩,true,true,[4294967296]⟩
def UQ:Nat->Int×Int×(List Int)->Option A9:=mF lu lx
def amc:CO:=cF lu lx UQ Tryz.func131
def acj N u v s:UQ (N+1) (u,v,s)=aW (Hc N (u,s)) λb=>
 aW (Hc N (v,b.2)) λa=>
 aW (aZ a.2 (if(a.1>b.1)then a.1 else b.1)) λc=>
 aW (aZ a.2 (if(a.1>b.1)then a.1 else b.1)) λd=>
 some ((!(b.1=a.1)),(List.set a.2 (Int.toNat (if(a.1>b.1)then a.1 else b.1)) (if(a.1<b.1)then a.1 else b.1))):=by kernel_rfl
def eb:List CO:=[amc]
def UR:PS:=⟨[(1,.cl (.func 131) [.k (.ow 4294967296)] []),(5,.k (.ow 900)),(8,.h b_),(9,.h j1),(10,.h j1)],[(4294967296,.arr 3 j1 true),(900,.arr 4 .b true)],[b_,j1,j1,j6,j3]⟩
def US:List (Exit×PS):=[((.exit 0),⟨[(5,.k (.ow 900))],[(900,.arr 4 .b true),(4294967296,.arr 3 j1 true)],[j3,j6]⟩)]
def UT:Pl:=.z
def Ch:Nat->Nat->A1×Int×Int×(List Int)×(List Bool)->Option ((List Bool)×(List Int)):=fS eb Tryz.f130 [1,1,0,1,0,0] UR US UT
def fj:FD:=⟨130,Tryz.f130,(.n .z (.n .z (.n (.n .z (.n (.loop UR US UT) .z)) .z))),[.h b_,.cl (.func 131) [.k (.ow 4294967296)] []],[(4294967296,.arr 3 j1 true)],[b_,j6],⟨[(4,.k (.ow 900))],[(900,.arr 4 .b true),(4294967296,.arr 3 j1 true)],[j3,j6]⟩,true,true,[900,4294967296]⟩
def ack:Nat->A1×(List Int)->Option ((List Bool)×(List Int)):=mF eb fj
def amd:CO:=cF eb fj ack Tryz.func130
def X2 N m d e a b c:Ch N (m+1) (d,e,a,b,c)=cond (a<e)
 (aW (aZ d a) λf=>
 aW (UQ N (f.1,f.2,b)) λg=>
 aW (eC 1 c [g.1]) λh=>
 (Ch N m (d,e,(wrap .i64 (a+1)),g.2,h)))
 (some (c,b)):=by kernel_rfl
def acm N l a:ack (N+1) (l,a)=aW (Ch N N (l,(List.length l:Int),0,a,[])) λb=>
 some (b.1,b.2):=by kernel_rfl
def kH:List CO:=[amd]
def kJ:FD:=⟨61,Tryz.f61,.z,[.k (.ow 4294967296),.h b_],[(4294967296,.arr 3 j1 true)],[b_,j6],⟨[(4,.k (.ow 900))],[(900,.arr 4 .b true),(4294967296,.arr 3 j1 true)],[j3,j6]⟩,true,true,[900,4294967296]⟩
def Nl:Nat->A1×(List Int)->Option ((List Bool)×(List Int)):=mF kH kJ
def ahE:CO:=cF kH kJ Nl Tryz.func61
def acn N l s:Nl (N+1) (l,s)=aW (ack N (l,s)) λa=>
 some (a.1,a.2):=by kernel_rfl
def uK:List CO:=[amb,ach,ahE]
def uL:FD:=⟨72,Tryz.f72,.z,[.ag [.h j1,.h bW],.h b_],[],[j1,bW,b_],⟨[(4,.k (.ow 900)),(5,.h j1)],[(900,.arr 4 .b true)],[j1,j3]⟩,true,true,[900]⟩
def Jf:Nat->Int×A3×A1->Option (Int×(List Bool)):=mF uK uL
def ajt:CO:=cF uK uL Jf Tryz.func72
def X3 N f b l:Jf (N+1) (f,b,l)=aW (UM N (f,b,l)) λa=>
 cond (!(a.1=0))
  (some (a.1,[]))
  (aW (Eh N f) λc=>
  aW (Nl N (a.2,c)) λd=>
  some (0,d.1)):=by kernel_rfl
def fK:List CO:=[]
def fL:FD:=⟨73,Tryz.f73,.z,[.h cR],[],[cR],⟨[(2,.k (.ow 900))],[(900,.arr 127 qf true)],[cR]⟩,true,true,[900]⟩
def UU:Nat->ff->Option (ff):=mF fK fL
def ame:CO:=cF fK fL UU Tryz.func73
def aco N s:UU (N+1) s=cond (oY s)
 (dem λc=>
 cond c
  (some [])
  (aW (eC 32 [] s) λa=>
  some a))
 (aW (eC 32 [] s) λb=>
 some b):=by kernel_rfl
def vq:List CO:=[aca,ajs,ahC,ajt,ame,⟨dO,eY⟩]
def Nn:PS:=⟨[(2,.k (.pt 900 0)),(4,.k (.pt 901 0)),(7,.k (.ow 902)),(11,.k (.ow 903)),(13,.k (.ow 904)),(46,.k (.ow 902)),(47,.h j1),(48,.h j1)],[(900,.box 24 [.h j1,.h cR]),(901,.box 24 [.h j1,.k .nil]),(902,.arr 46 j5 true),(903,.arr 4 .b true),(904,.arr 127 qf true)],[j1,j1,j1,cR,j1,b_,j3,cR]⟩
def No:List (Exit×PS):=[((.exit 0),⟨[(2,.k (.pt 900 0)),(4,.k (.pt 901 0)),(7,.k (.ow 902)),(13,.k (.ow 903))],[(900,.box 24 [.h j1,.h cR]),(901,.box 24 [.h j1,.k .nil]),(902,.arr 46 j5 true),(903,.arr 127 qf true)],[j1,cR,j1,b_,cR]⟩)]
def Np:Pl:=.z
def xZ:Nat->Nat->Int×Int×Int×ff×Int×A1×(List Bool)×ff->Option (Int×ff×Int×A1×ff):=fS vq Tryz.f28 [1,1,1,1,1,1,1,0,1,0,0] Nn No Np
def Ei:FD:=⟨28,Tryz.f28,(.n .z (.n .z (.n .z (.n .z (.n .z (.n .z (.n .z (.n (.n .z (.n (.loop Nn No Np) .z)) .z)))))))),[.ag [.h j1,.h cR],.h b_],[],[j1,cR,b_],⟨[(4,.k (.pt 900 0)),(5,.h j1),(6,.h j1)],[(900,.box 24 [.h j1,.h cR])],[j1,j1,j1,cR]⟩,false,false,[]⟩
def mb:Nat->Int×ff×A1->Option (Int×Int×Int×ff):=mF vq Ei
def aju:CO:=cF vq Ei mb Tryz.func28
def Ej N m h a g d f b c e:xZ N (m+1) (h,a,g,d,f,b,c,e)=cond (a<h)
 (aW (aZ b a) λl=>
 aW (aZ b a) λi=>
 aW (aZ c a) λn=>
 aW (aZ c a) λj=>
 aW (eC 32 e [(i.1,i.2,0,j)]) λk=>
 (xZ N m (h,(wrap .i64 (a+1)),g,d,f,b,c,k)))
 (some (g,d,f,b,e)):=by kernel_rfl
def X4 N g a l:mb (N+1) (g,a,l)=aW (zF N (g,a,l)) λb=>
 cond (!(b.1=0))
  (some (0,b.1,g,a))
  (aW (Qo N (g,a,(List.length b.2:Int))) λe=>
  cond (!e)
   (some (0,2,g,a))
   (aW (Nc N (g,a,0)) λd=>
   aW (Jf N (d.2.1,d.2.2,b.2)) λf=>
   aW (UU N a) λh=>
   aW (xZ N N ((List.length b.2:Int),0,g,a,0,b.2,f.2,h)) λc=>
   aW (cy N c.2.2.2.2) λi=>
   some ((List.length c.2.2.2.1:Int),0,c.1,i))):=by kernel_rfl
def bA:List CO:=[ahs]
def acp:PS:=⟨[(0,.h cR),(2,.k (.v (.func (.func 124) #[] #[]))),(4,.k (.pt 900 0)),(8,.h j1),(9,.h j1),(10,.h j1)],[(900,.box 127 [.h j1,.h j1,.h j1,.h .b])],[cR,j1,j1,j1,j1,j1,j1,.b]⟩
def acq:List (Exit×PS):=[((.exit 0),⟨[(0,.h cR),(2,.k (.v (.func (.func 124) #[] #[]))),(4,.k (.pt 900 0)),(8,.h j1),(9,.h j1)],[(900,.box 127 [.h j1,.h j1,.h j1,.h .b])],[cR,j1,j1,j1,j1,j1,.b]⟩)]
def acr:Pl:=.z
def Ek:Nat->Nat->ff×Int×Int×Int×Int×Int×Int×Bool->Option (ff×Int×Int×Int×Int×Int×Bool):=fS bA Tryz.f270 [1,1,1,0,0,0] acp acq acr
def cc:FD:=⟨270,Tryz.f270,(.n .z (.n .z (.n .z (.n (.n (.loop acp acq acr) .z) .z)))),[.h cR,.ag [.h j1,.h j1,.h j1,.h .b],.k (.v (.func (.func 124) #[] #[]))],[],[cR,j1,j1,j1,.b],⟨[(6,.h j1),(7,.h .b)],[],[j1,.b]⟩,false,true,[]⟩
def af3:Nat->ff×Int×Int×Int×Bool->Option (Int×Bool):=mF bA cc
def aoC:CO:=cF bA cc af3 Tryz.func270
def Em N m x n i j a b c d:Ek N (m+1) (x,n,i,j,a,b,c,d)=cond (i<j)
 (aW (aZ x (wrap .i64 (Int.fdiv (wrap .u64 (wrap .i64 (i+j))) ((2:Int)^(min (Int.toNat 1) 64))))) λe=>
 aW (DC N (e.1,e.2.1,e.2.2.1,e.2.2.2,a,b,c,d)) λf=>
 cond (f<0)
  ((Ek N m (x,n,(wrap .i64 ((wrap .i64 (Int.fdiv (wrap .u64 (wrap .i64 (i+j))) ((2:Int)^(min (Int.toNat 1) 64))))+1)),j,a,b,c,d)))
  ((Ek N m (x,n,i,(wrap .i64 (Int.fdiv (wrap .u64 (wrap .i64 (i+j))) ((2:Int)^(min (Int.toNat 1) 64)))),a,b,c,d))))
 (some (x,n,i,a,b,c,d)):=by kernel_rfl
def af4 N x c d e f:af3 (N+1) (x,c,d,e,f)=aW (Ek N N (x,(List.length x:Int),0,(List.length x:Int),c,d,e,f)) λa=>
 cond (a.2.2.1<a.2.1)
  (aW (aZ a.1 a.2.2.1) λb=>
  aW (DC N (b.1,b.2.1,b.2.2.1,b.2.2.2,a.2.2.2.1,a.2.2.2.2.1,a.2.2.2.2.2.1,a.2.2.2.2.2.2)) λg=>
  some (a.2.2.1,(decide (g=0))))
  (some (a.2.2.1,false)):=by kernel_rfl
def uM:List CO:=[aoC]
def uN:FD:=⟨245,Tryz.f245,.z,[.ag [.h j1,.h cR],.h j1,.h j1],[],[j1,cR,j1,j1],⟨[(6,.h j1),(7,.h .b)],[],[j1,.b]⟩,false,true,[]⟩
def acs:Nat->Int×ff×Int×Int->Option (Int×Bool):=mF uM uN
def amf:CO:=cF uM uN acs Tryz.func245
def acu N g a u v:acs (N+1) (g,a,u,v)=aW (af3 N (a,(if(v<u)then v else u),(if(v>u)then v else u),0,false)) λb=>
 some (b.1,b.2):=by kernel_rfl
def x3:List CO:=[uo,amf]
def x4:FD:=⟨198,Tryz.f198,.z,[.ag [.h j1,.h cR],.h j1,.h j1],[],[j1,cR,j1,j1],⟨[(6,.h j1)],[],[j1]⟩,false,true,[]⟩
def Jg:Nat->Int×ff×Int×Int->Option (Int):=mF x3 x4
def ajv:CO:=cF x3 x4 Jg Tryz.func198
def X5 N g a u v:Jg (N+1) (g,a,u,v)=aW (mQ N (g,a)) λc=>
 cond (!c)
  (some (-1))
  (aW (acs N (g,a,u,v)) λb=>
  cond (!b.2)
   (some (-1))
   (some b.1)):=by kernel_rfl
def uO:List CO:=[uo,ajv]
def uP:FD:=⟨147,Tryz.f147,.z,[.ag [.h j1,.h cR],.h j1,.h j1],[],[j1,cR,j1,j1],⟨[(6,.h j1),(7,.h j1)],[],[j1,j1]⟩,false,true,[]⟩
def Eo:Nat->Int×ff×Int×Int->Option (Int×Int):=mF uO uP
def ahF:CO:=cF uO uP Eo Tryz.func147
def Nq N g a u v:Eo (N+1) (g,a,u,v)=aW (mQ N (g,a)) λc=>
 cond (!c)
  (some (0,1))
  (cond ((if(v<u)then v else u)<0)
   (some (0,10))
   (cond (g<=(if(v>u)then v else u))
    (some (0,10))
    (aW (Jg N (g,a,u,v)) λb=>
    cond (b<0)
     (some (0,6))
     (some (b,0))))):=by kernel_rfl
def dp:List CO:=[⟨fR,jh⟩]
def UW:PS:=⟨[(6,.k (.ow 900)),(25,.h j22),(26,.h j1),(27,.h j1)],[(900,.arr 127 qf true)],[j22,j1,j1,cR]⟩
def UX:List (Exit×PS):=[((.exit 2),⟨[(6,.k (.ow 900))],[(900,.arr 127 qf true)],[cR]⟩)]
def UY:Pl:=.z
def Ci:Nat->Nat->(List ff)×Int×Int×ff->Option (ff):=fS dp Tryz.f148 [1,1,1,1,0,1,0,0] UW UX UY
def UZ:PS:=⟨[(0,.h j22),(3,.h j1),(9,.h j22),(10,.h j1),(11,.h j1)],[],[j22,j1,j22,j1,j1]⟩
def U0:List (Exit×PS):=[((.exit 0),⟨[(0,.h j22),(3,.h j1)],[],[j22,j1]⟩)]
def U1:Pl:=.z
def Cj:Nat->Nat->(List ff)×Int×(List ff)×Int×Int->Option ((List ff)×Int):=fS dp Tryz.f148 [1,1,0,1,0,0] UZ U0 U1
def fD:FD:=⟨148,Tryz.f148,(.n .z (.n .z (.n (.n .z (.n (.loop UZ U0 U1) .z)) (.n .z (.n (.n .z (.n (.loop UW UX UY) .z)) .z))))),[.h j22],[],[j22],⟨[(2,.k (.ow 900))],[(900,.arr 127 qf true)],[cR]⟩,true,true,[900]⟩
def U2:Nat->(List ff)->Option (ff):=mF dp fD
def amg:CO:=cF dp fD U2 Tryz.func148
def zG N m c d a b:Ci N (m+1) (c,d,a,b)=cond (a<d)
 (aW (aZ c a) λe=>
 aW (eC 32 b e) λf=>
 (Ci N m (c,d,(wrap .i64 (a+1)),f)))
 (some b):=by kernel_rfl
def zH N m c a e d b:Cj N (m+1) (c,a,e,d,b)=cond (b<d)
 (aW (aZ e b) λf=>
 cond ((wrap .i64 (a+(List.length f:Int)))<0)
  none
  ((Cj N m (c,(wrap .i64 (a+(List.length f:Int))),e,d,(wrap .i64 (b+1))))))
 (some (c,a)):=by kernel_rfl
def acv N a:U2 (N+1) a=aW (Cj N N (a,0,a,(List.length a:Int),0)) λb=>
 aW (eB N b.2) λd=>
 aW (Ci N N (b.1,(List.length b.1:Int),0,[])) λc=>
 some c:=by kernel_rfl
def iZ:List CO:=[]
def i_:FD:=⟨113,Tryz.f113,.z,[.h j6],[],[j6],⟨[(2,.k (.ow 900))],[(900,.arr 3 j1 true)],[j6]⟩,true,true,[900]⟩
def U3:Nat->(List Int)->Option ((List Int)):=mF iZ i_
def amh:CO:=cF iZ i_ U3 Tryz.func113
def acw N s:U3 (N+1) s=cond (oY s)
 (dem λc=>
 cond c
  (some [])
  (aW (eC 8 [] s) λa=>
  some a))
 (aW (eC 8 [] s) λb=>
 some b):=by kernel_rfl
def kK:List CO:=[]
def kL:FD:=⟨272,Tryz.f272,.z,[.h j1,.fp [.h j1,.h bW]],[],[j1,j1,bW],⟨[(3,.h .b)],[],[.b]⟩,false,true,[]⟩
def Nr:Nat->Int×Int×A3->Option (Bool):=mF kK kL
def ahG:CO:=cF kK kL Nr Tryz.func272
def acx N t a b:Nr (N+1) (t,a,b)=some (decide (a<=t)):=by kernel_rfl
def b9:List CO:=[ahG]
def U4:PS:=⟨[(0,.h j6),(1,.cl (.func 272) [] [.fp [.h j1,.h bW]]),(7,.h j1),(8,.h j1)],[],[j6,j1,bW,j1,j1]⟩
def U5:List (Exit×PS):=[((.exit 0),⟨[],[],[]⟩),(.ret,⟨[(4,.h j1)],[],[j1]⟩)]
def U6:Pl:=.z
def Ck:Nat->Nat->(List Int)×Int×A3×Int×Int->Option ((Unit)⊕(Int)):=fS b9 Tryz.f116 [1,0,1,0,0] U4 U5 U6
def dC:FD:=⟨116,Tryz.f116,(.n .z (.n (.n .z (.n (.loop U4 U5 U6) .z)) .z)),[.h j6,.cl (.func 272) [] [.fp [.h j1,.h bW]]],[],[j6,j1,bW],⟨[(4,.h j1)],[],[j1]⟩,false,true,[]⟩
def acy:Nat->(List Int)×Int×A3->Option (Int):=mF b9 dC
def ami:CO:=cF b9 dC acy atr
def Hd N m s f b c a:Ck N (m+1) (s,f,b,c,a)=cond (a<c)
 (aW (aZ s a) λd=>
 aW (Nr N (d,f,b)) λe=>
 cond e
  (some (.inr a))
  ((Ck N m (s,f,b,c,(wrap .i64 (a+1))))))
 (some (.inl ())):=by kernel_rfl
def acz N s f a:acy (N+1) (s,f,a)=aW (Ck N N (s,f,a,(List.length s:Int),0)) λb=>
 (match b with
 |.inl d=>some (-1)
 |.inr c=>some c):=by kernel_rfl
def bP:List CO:=[ami,ahG]
def acA:PS:=⟨[(0,.k (.ow 4294967296)),(1,.cl (.func 272) [] [.fp [.h j1,.h bW]]),(5,.h j1),(6,.h j1)],[(4294967296,.arr 3 j1 true)],[j1,bW,j1,j1,j6]⟩
def acB:List (Exit×PS):=[((.exit 0),⟨[(0,.k (.ow 4294967296)),(5,.h j1)],[(4294967296,.arr 3 j1 true)],[j1,j6]⟩)]
def acC:Pl:=.z
def Ep:Nat->Nat->Int×A3×Int×Int×(List Int)->Option A6:=fS bP Tryz.f271 [1,1,1,0,1,0,0] acA acB acC
def dh:FD:=⟨271,Tryz.f271,(.n .z (.n .z (.n .z (.n (.n .z (.n (.loop acA acB acC) .z)) .z)))),[.k (.ow 4294967296),.cl (.func 272) [] [.fp [.h j1,.h bW]]],[(4294967296,.arr 3 j1 true)],[j1,bW,j6],⟨[(4,.k (.ow 900))],[(900,.arr 3 j1 true)],[j6]⟩,true,true,[900]⟩
def af5:Nat->Int×A3×(List Int)->Option ((List Int)):=mF bP dh
def aoD:CO:=cF bP dh af5 Tryz.func271
def acD N m a b i j s:Ep N (m+1) (a,b,i,j,s)=cond (j<(List.length s:Int))
 (aW (aZ s j) λe=>
 aW (aZ s j) λc=>
 aW (Nr N (c,a,b)) λd=>
 cond (!d)
  (aW (aZ s i) λf=>
  aW (aZ s i) λg=>
  (Ep N m (a,b,(wrap .i64 (i+1)),(wrap .i64 (j+1)),(List.set s (Int.toNat i) c))))
  ((Ep N m (a,b,i,(wrap .i64 (j+1)),s))))
 (some (i,s)):=by kernel_rfl
def af6 N b c s:af5 (N+1) (b,c,s)=aW (acy N (s,b,c)) λd=>
 cond (d=(-1))
  (some s)
  (aW (Ep N N (b,c,d,(wrap .i64 (d+1)),s)) λa=>
  cond (((true && true) && true) && (!(lX a.2)))
   (aW (jf a.2 a.1 (List.length a.2:Int)) λg=>
   aW (WM a.2 a.1 ((List.length a.2:Int) - a.1) 0) λe=>
   aW (jf e 0 a.1) λf=>
   some f)
   none):=by kernel_rfl
def ou:List CO:=[aaT,ace,amh,aoD,⟨iI,lE⟩]
def ox:FD:=⟨246,Tryz.f246,.z,[.ag [.h j1,.h bW],.h j1],[],[j1,bW,j1],⟨[(4,.k (.ow 900)),(5,.h j1)],[(900,.arr 3 j1 true)],[j1,j6]⟩,true,true,[900]⟩
def Ns:Nat->Int×A3×Int->Option A6:=mF ou ox
def amj:CO:=cF ou ox Ns Tryz.func246
def acE N f a v:Ns (N+1) (f,a,v)=aW (Gz N (f,a,[v])) λb=>
 cond (!(b=0))
  (some (b,[]))
  (aW (Eg N (f,a,v)) λc=>
  aW (aZ a c) λd=>
  aW (U3 N d) λe=>
  aW (af5 N (f,a,e)) λg=>
  aW (dS N g) λh=>
  some (0,h)):=by kernel_rfl
def x5:List CO:=[ahF,ahC,amj,S4,⟨fy,fA⟩,⟨lC,k8⟩]
def x6:FD:=⟨200,Tryz.f200,.z,[.ag [.h j1,.h cR],.h j1,.h j1,.h j1],[],[j1,cR,j1,j1,j1],⟨[(8,.k (.ow 900)),(9,.h j1)],[(900,.arr 3 j1 true)],[j1,j6]⟩,true,true,[900]⟩
def Er:Nat->Int×ff×Int×Int×Int->Option A6:=mF x5 x6
def ajw:CO:=cF x5 x6 Er Tryz.func200
def He N g e u v f:Er (N+1) (g,e,u,v,f)=aW (Eo N (g,e,u,v)) λb=>
 cond (b.2=1)
  (some (b.2,[]))
  (cond (b.2=10)
   (some (b.2,[]))
   (aW (Nc N (g,e,f)) λc=>
   aW (Ns N (c.2.1,c.2.2,u)) λa=>
   aW (Ns N (c.2.1,c.2.2,v)) λd=>
   aW (DE N (a.2,v)) λk=>
   cond k
    (some (5,[]))
    (aW (cx N ((List.length a.2:Int),(List.length d.2:Int))) λl=>
    aW (aZ a.2 0) λn=>
    aW (aZ a.2 0) λm=>
    aW (aZ d.2 0) λo=>
    aW (aZ d.2 0) λh=>
    aW (cx N (m,h)) λi=>
    aW (gn N [l,i]) λj=>
    cond (j<0)
     (some (0,a.2))
     (some (0,d.2))))):=by kernel_rfl
def ja:List CO:=[]
def jb:FD:=⟨201,Tryz.f201,.z,[.ag [.h j1,.h j1,.h j1,.h .b],.k (.pt 4294967296 0)],[(4294967296,.box 197 [.k (.mp 4294967297)]),(4294967297,.mp (.int .i64) j1 j1)],[j1,j1,j1,.b,b_],⟨[(3,.h j1)],[(4294967297,.mp (.int .i64) j1 j1),(4294967296,.box 197 [.k (.mp 4294967297)])],[j1,b_]⟩,true,true,[4294967297,4294967296]⟩
def U7:Nat->Int×Int×Int×Bool×A1->Option (Int×A1):=mF ja jb
def amk:CO:=cF ja jb U7 Tryz.func201
def Nt N t a b c h:U7 (N+1) (t,a,b,c,h)=some ((wrap .i64 ((Option.getD (bC j1 h t) 0)+(Option.getD (bC j1 h a) 0))),h):=by kernel_rfl
def e6:List CO:=[]
def e7:FD:=⟨202,Tryz.f202,.z,[.k (.pt 4294967296 0),.pe 4294967297 4 0],[(4294967296,.box 246 [.h j1,.k (.ow 4294967297),.h .b,.h .b,.h j1,.h j1,.h j1,.h j1]),(4294967297,.arr 127 qf true)],[j1,j1,.b,.b,j1,j1,j1,j1,cR],⟨[],[(4294967296,.box 246 [.h j1,.k (.ow 4294967297),.h .b,.h .b,.h j1,.h j1,.h j1,.h j1]),(4294967297,.arr 127 qf true)],[j1,.b,.b,j1,j1,j1,j1,cR]⟩,true,true,[4294967296,4294967297]⟩
def Nu:Nat->Int×Int×Bool×Bool×Int×Int×Int×Int×ff->Option (Int×Bool×Bool×Int×Int×Int×Int×ff):=mF e6 e7
def aml:CO:=cF e6 e7 Nu Tryz.func202
def acF N t s d e f g h a b:Nu (N+1) (t,s,d,e,f,g,h,a,b)=aW (aZ b t) λi=>
 aW (aZ b t) λc=>
 some (s,d,e,f,g,(wrap .i64 (h+1)),a,(List.set b (Int.toNat t) (c.1,c.2.1,(if((wrap .i64 (i.2.2.1+1))<a)then(wrap .i64 (i.2.2.1+1))else a),c.2.2.2))):=by kernel_rfl
def c9:List CO:=[ajw,amk,aml]
def U8:PS:=⟨[(0,.k (.pt 4294967296 0)),(14,.cl (.func 201) [] [.k (.pt 900 0)]),(86,.k (.ow 901)),(87,.h j1),(88,.h j1)],[(4294967296,.box 246 [.h j1,.k (.ow 4294967297),.h .b,.h .b,.h j1,.h j1,.h j1,.h j1]),(900,.box 197 [.k (.mp 902)]),(901,.qr 306 4294967297 4),(4294967297,.arr 127 qf true),(902,.mp (.int .i64) j1 j1)],[j1,j1,j1,.b,.b,j1,j1,j1,j1,j6,cR,b_]⟩
def U9:List (Exit×PS):=[((.exit 5),⟨[],[(4294967296,.box 246 [.h j1,.k (.ow 4294967297),.h .b,.h .b,.h j1,.h j1,.h j1,.h j1]),(4294967297,.arr 127 qf true)],[j1,.b,.b,j1,j1,j1,j1,cR]⟩),(.ret,⟨[(8,.h .b)],[(4294967296,.box 246 [.h j1,.k (.ow 4294967297),.h .b,.h .b,.h j1,.h j1,.h j1,.h j1]),(4294967297,.arr 127 qf true)],[.b,j1,.b,.b,j1,j1,j1,j1,cR]⟩)]
def U_:Pl:=.z
def tk:Nat->Nat->Int×Int×Int×Bool×Bool×Int×Int×Int×Int×(List Int)×ff×A1->Option ((Int×Bool×Bool×Int×Int×Int×Int×ff)⊕(Bool×Int×Bool×Bool×Int×Int×Int×Int×ff)):=fS c9 Tryz.f149 [1,1,1,1,1,1,1,0,1,0,0] U8 U9 U_
def Va:PS:=⟨[(0,.k (.pt 4294967296 0)),(3,.h j1),(14,.cl (.func 201) [] [.k (.pt 900 0)]),(15,.k (.ow 902)),(47,.h j1),(48,.h j1)],[(4294967296,.box 246 [.h j1,.k (.ow 4294967297),.h .b,.h .b,.h j1,.h j1,.h j1,.h j1]),(900,.box 197 [.k (.mp 901)]),(902,.qr 306 4294967297 4),(4294967297,.arr 127 qf true),(901,.mp (.int .i64) j1 j1)],[j1,j1,j1,j1,.b,.b,j1,j1,j1,j1,j6,cR,b_]⟩
def Vb:List (Exit×PS):=[((.exit 2),⟨[(0,.k (.pt 4294967296 0)),(14,.cl (.func 201) [] [.k (.pt 900 0)]),(15,.k (.ow 901))],[(4294967296,.box 246 [.h j1,.k (.ow 4294967297),.h .b,.h .b,.h j1,.h j1,.h j1,.h j1]),(900,.box 197 [.k (.mp 902)]),(901,.qr 306 4294967297 4),(4294967297,.arr 127 qf true),(902,.mp (.int .i64) j1 j1)],[j1,.b,.b,j1,j1,j1,j1,j6,cR,b_]⟩)]
def Vc:Pl:=.z
def pH:Nat->Nat->Int×Int×Int×Int×Bool×Bool×Int×Int×Int×Int×(List Int)×ff×A1->Option (Int×Bool×Bool×Int×Int×Int×Int×(List Int)×ff×A1):=fS c9 Tryz.f149 [1,1,1,1,1,1,0,1,0,0] Va Vb Vc
def Vd:PS:=⟨[(0,.k (.pt 4294967296 0)),(3,.h j1),(11,.k (.pt 900 0)),(32,.k (.ow 901)),(33,.h j1),(34,.h j1)],[(4294967296,.box 246 [.h j1,.k (.ow 4294967297),.h .b,.h .b,.h j1,.h j1,.h j1,.h j1]),(900,.box 197 [.k (.mp 902)]),(901,.arr 3 j1 true),(4294967297,.arr 127 qf true),(902,.mp (.int .i64) j1 j1)],[j1,j1,j1,j1,.b,.b,j1,j1,j1,j1,j6,cR,b_]⟩
def Ve:List (Exit×PS):=[((.exit 0),⟨[(0,.k (.pt 4294967296 0)),(3,.h j1),(11,.k (.pt 900 0))],[(4294967296,.box 246 [.h j1,.k (.ow 4294967297),.h .b,.h .b,.h j1,.h j1,.h j1,.h j1]),(900,.box 197 [.k (.mp 901)]),(4294967297,.arr 127 qf true),(901,.mp (.int .i64) j1 j1)],[j1,j1,.b,.b,j1,j1,j1,j1,cR,b_]⟩)]
def Vf:Pl:=.z
def Co:Nat->Nat->Int×Int×Int×Int×Bool×Bool×Int×Int×Int×Int×(List Int)×ff×A1->Option (Int×Int×Bool×Bool×Int×Int×Int×Int×ff×A1):=fS c9 Tryz.f149 [1,1,1,0,1,0,0] Vd Ve Vf
def gB:FD:=⟨149,Tryz.f149,(.n .z (.n .z (.n .z (.n (.n .z (.n (.loop Vd Ve Vf) .z)) (.n .z (.n .z (.n (.n .z (.n (.loop Va Vb Vc) .z)) (.n (.n .z (.n (.loop U8 U9 U_) .z)) .z)))))))),[.k (.pt 4294967296 0),.h j1,.h j1,.h j1],[(4294967296,.box 246 [.h j1,.k (.ow 4294967297),.h .b,.h .b,.h j1,.h j1,.h j1,.h j1]),(4294967297,.arr 127 qf true)],[j1,j1,j1,j1,.b,.b,j1,j1,j1,j1,cR],⟨[(8,.h .b)],[(4294967297,.arr 127 qf true),(4294967296,.box 246 [.h j1,.k (.ow 4294967297),.h .b,.h .b,.h j1,.h j1,.h j1,.h j1])],[.b,cR,j1,.b,.b,j1,j1,j1,j1]⟩,true,true,[4294967297,4294967296]⟩
def Vg:Nat->Int×Int×Int×Int×Bool×Bool×Int×Int×Int×Int×ff->Option (Bool×ff×Int×Bool×Bool×Int×Int×Int×Int):=mF c9 gB
def amm:CO:=cF c9 gB Vg Tryz.func149
def Hf N m o e s f k l n g h i a q:tk N (m+1) (o,e,s,f,k,l,n,g,h,i,a,q)=cond (e<o)
 (aW (aZ i e) λu=>
 aW (aZ i e) λc=>
 aW (aZ a c) λp=>
 aW (U7 N (p.1,p.2.1,p.2.2.1,p.2.2.2,q)) λj=>
 cond (j.1=0)
  ((tk N m (o,(wrap .i64 (e+1)),s,f,k,l,n,g,h,i,a,j.2)))
  (cond (j.1=2)
   (aW (Nu N (c,s,f,k,l,n,g,h,a)) λd=>
   (tk N m (o,(wrap .i64 (e+1)),d.1,d.2.1,d.2.2.1,d.2.2.2.1,d.2.2.2.2.1,d.2.2.2.2.2.1,d.2.2.2.2.2.2.1,i,d.2.2.2.2.2.2.2,j.2)))
   (cond (j.1=1)
    (aW (aZ a c) λb=>
    aW (aZ (List.set a (Int.toNat c) (b.1,b.2.1,b.2.2.1,true)) c) λr=>
    aW (aZ (List.set a (Int.toNat c) (b.1,b.2.1,b.2.2.1,true)) c) λt=>
    some (.inr (true,s,f,true,r.1,t.2.1,g,h,(List.set a (Int.toNat c) (b.1,b.2.1,b.2.2.1,true)))))
    ((tk N m (o,(wrap .i64 (e+1)),s,f,k,l,n,g,h,i,a,j.2))))))
 (some (.inl (s,f,k,l,n,g,h,a))):=by kernel_rfl
def Hg N m k l a s e f g h i j d b n:pH N (m+1) (k,l,a,s,e,f,g,h,i,j,d,b,n)=cond (a<l)
 (aW (aZ b a) λu=>
 aW (aZ b a) λq=>
 cond (!(q.2.2.1=k))
  ((pH N m (k,l,(wrap .i64 (a+1)),s,e,f,g,h,i,j,d,b,n)))
  (aW (aZ b a) λr=>
  cond (!r.2.2.2)
   (aW (eC 8 d [a]) λt=>
   (pH N m (k,l,(wrap .i64 (a+1)),s,e,f,g,h,i,j,t,b,n)))
   (aW (aZ b a) λo=>
   aW (U7 N (o.1,o.2.1,o.2.2.1,o.2.2.2,n)) λp=>
   cond (p.1=2)
    (aW (Nu N (a,s,e,f,g,h,i,j,b)) λc=>
    (pH N m (k,l,(wrap .i64 (a+1)),c.1,c.2.1,c.2.2.1,c.2.2.2.1,c.2.2.2.2.1,c.2.2.2.2.2.1,c.2.2.2.2.2.2.1,d,c.2.2.2.2.2.2.2,p.2)))
    ((pH N m (k,l,(wrap .i64 (a+1)),s,e,f,g,h,i,j,d,b,p.2))))))
 (some (s,e,f,g,h,i,j,d,b,n)):=by kernel_rfl
def Hh N m i j a s c d e f g h b k l:Co N (m+1) (i,j,a,s,c,d,e,f,g,h,b,k,l)=cond (a<j)
 (aW (aZ b a) λo=>
 aW (aZ b a) λn=>
 (Co N m (i,j,(wrap .i64 (a+1)),s,c,d,e,f,g,h,b,k,(dI j1 l n 1))))
 (some (i,s,c,d,e,f,g,h,k,l)):=by kernel_rfl
def acG N u v e s f g i j k l h:Vg (N+1) (u,v,e,s,f,g,i,j,k,l,h)=aW (Er N (s,h,u,v,e)) λm=>
 aW (Co N N (e,(List.length m.2:Int),0,s,f,g,i,j,k,l,m.2,h,[])) λa=>
 aW (pH N N (a.1,(List.length a.2.2.2.2.2.2.2.2.1:Int),0,a.2.1,a.2.2.1,a.2.2.2.1,a.2.2.2.2.1,a.2.2.2.2.2.1,a.2.2.2.2.2.2.1,a.2.2.2.2.2.2.2.1,[],a.2.2.2.2.2.2.2.2.1,a.2.2.2.2.2.2.2.2.2)) λb=>
 aW (tk N N ((List.length b.2.2.2.2.2.2.2.1:Int),0,b.1,b.2.1,b.2.2.1,b.2.2.2.1,b.2.2.2.2.1,b.2.2.2.2.2.1,b.2.2.2.2.2.2.1,b.2.2.2.2.2.2.2.1,b.2.2.2.2.2.2.2.2.1,b.2.2.2.2.2.2.2.2.2)) λn=>
 (match n with
 |.inl d=>some (false,d.2.2.2.2.2.2.2,d.1,d.2.1,d.2.2.1,d.2.2.2.1,d.2.2.2.2.1,d.2.2.2.2.2.1,d.2.2.2.2.2.2.1)
 |.inr c=>some (c.1,c.2.2.2.2.2.2.2.2,c.2.1,c.2.2.1,c.2.2.2.1,c.2.2.2.2.1,c.2.2.2.2.2.1,c.2.2.2.2.2.2.1,c.2.2.2.2.2.2.2.1)):=by kernel_rfl
def r4:List CO:=[ahF,amg,aaF,amm]
def Nv:PS:=⟨[(6,.k (.pt 900 0)),(7,.k (.pt 901 0)),(11,.k (.pt 902 0)),(12,.k (.pt 903 0)),(13,.h j1)],[(900,.box 24 [.h j1,.k .nil]),(901,.box 179 [.h .b,.h .b,.h j1,.h j1,.h j1]),(902,.box 127 [.h j1,.h j1,.h j1,.h .b]),(903,.box 246 [.h j1,.k (.ow 904),.h .b,.h .b,.h j1,.h j1,.h j1,.h j1]),(904,.arr 127 qf true)],[j1,j1,.b,.b,j1,j1,j1,j1,j1,j1,.b,j1,.b,.b,j1,j1,j1,j1,cR]⟩
def Nw:List (Exit×PS):=[((.exit 0),⟨[(6,.k (.pt 900 0)),(7,.k (.pt 901 0)),(12,.k (.pt 902 0))],[(900,.box 24 [.h j1,.k .nil]),(901,.box 179 [.h .b,.h .b,.h j1,.h j1,.h j1]),(902,.box 246 [.h j1,.k (.ow 903),.h .b,.h .b,.h j1,.h j1,.h j1,.h j1]),(903,.arr 127 qf true)],[j1,.b,.b,j1,j1,j1,j1,.b,.b,j1,j1,j1,j1,cR]⟩)]
def Nx:Pl:=.z
def x7:Nat->Nat->Int×Int×Bool×Bool×Int×Int×Int×Int×Int×Int×Bool×Int×Bool×Bool×Int×Int×Int×Int×ff->Option (Int×Bool×Bool×Int×Int×Int×Int×Bool×Bool×Int×Int×Int×Int×ff):=fS r4 Tryz.f78 [1,1,1,1,1,0,1,0,0] Nv Nw Nx
def AU:FD:=⟨78,Tryz.f78,(.n .z (.n .z (.n .z (.n .z (.n .z (.n (.n .z (.n (.loop Nv Nw Nx) .z)) .z)))))),[.ag [.h j1,.h cR],.h j1,.h j1],[],[j1,cR,j1,j1],⟨[(6,.k (.pt 900 0)),(7,.k (.pt 901 0)),(8,.h j1)],[(900,.box 24 [.h j1,.h cR]),(901,.box 179 [.h .b,.h .b,.h j1,.h j1,.h j1])],[j1,j1,cR,.b,.b,j1,j1,j1]⟩,false,false,[]⟩
def Jh:Nat->Int×ff×Int×Int->Option (Int×Int×ff×Bool×Bool×Int×Int×Int):=mF r4 AU
def ajx:CO:=cF r4 AU Jh Tryz.func78
def Qr N m o b c d e f g t q u r s h i j k l n p:x7 N (m+1) (o,b,c,d,e,f,g,t,q,u,r,s,h,i,j,k,l,n,p)=cond r
 (cond (0<=o)
  (aW (Vg N (t,q,o,s,h,i,j,k,l,n,p)) λa=>
  cond (!a.1)
   ((x7 N m ((wrap .i64 (o - 1)),b,c,d,e,f,g,t,q,u,r,a.2.2.1,a.2.2.2.1,a.2.2.2.2.1,a.2.2.2.2.2.1,a.2.2.2.2.2.2.1,a.2.2.2.2.2.2.2.1,a.2.2.2.2.2.2.2.2,a.2.1)))
   (some (b,c,d,e,f,g,a.2.2.1,a.2.2.2.1,a.2.2.2.2.1,a.2.2.2.2.2.1,a.2.2.2.2.2.2.1,a.2.2.2.2.2.2.2.1,a.2.2.2.2.2.2.2.2,a.2.1)))
  (some (b,c,d,e,f,g,s,h,i,j,k,l,n,p)))
 (some (b,c,d,e,f,g,s,h,i,j,k,l,n,p)):=by kernel_rfl
def X6 N g a u v:Jh (N+1) (g,a,u,v)=aW (Eo N (g,a,u,v)) λd=>
 cond (!(d.2=0))
  (some (d.2,g,a,false,false,0,0,0))
  (aW (aZ a d.1) λc=>
  aW (jf a 0 d.1) λe=>
  aW (jf a (wrap .i64 (d.1+1)) (List.length a:Int)) λf=>
  aW (U2 N [e,f]) λh=>
  aW (DB N g) λi=>
  aW (x7 N N (c.2.2.1,0,false,false,0,0,0,c.1,c.2.1,c.2.2.1,c.2.2.2,g,c.2.2.2,false,0,0,0,i,h)) λb=>
  some (0,b.2.2.2.2.2.2.1,b.2.2.2.2.2.2.2.2.2.2.2.2.2,b.2.2.2.2.2.2.2.1,b.2.2.2.2.2.2.2.2.1,b.2.2.2.2.2.2.2.2.2.1,b.2.2.2.2.2.2.2.2.2.2.1,b.2.2.2.2.2.2.2.2.2.2.2.1)):=by kernel_rfl
def pI:List CO:=[ab_,ajx]
def Ny:PS:=⟨[(2,.k (.pt 900 0)),(4,.k (.pt 901 0)),(9,.k (.ow 904)),(10,.k (.pt 902 0)),(27,.k (.ow 903)),(28,.h j1),(29,.h j1)],[(900,.box 24 [.h j1,.h cR]),(901,.box 24 [.h j1,.k .nil]),(904,.arr 179 j21 true),(902,.box 24 [.h j1,.h cR]),(903,.arr 46 j5 true)],[j1,j1,j1,cR,j1,j23,j1,cR,b_]⟩
def Nz:List (Exit×PS):=[((.exit 0),⟨[(4,.k (.pt 900 0)),(9,.k (.ow 901)),(10,.k (.pt 902 0))],[(900,.box 24 [.h j1,.k .nil]),(901,.arr 179 j21 true),(902,.box 24 [.h j1,.h cR])],[j1,j23,j1,cR]⟩),(.ret,⟨[(4,.k (.pt 900 0)),(5,.k .nil),(6,.h j1)],[(900,.box 24 [.h j1,.h cR])],[j1,j1,cR]⟩)]
def NA:Pl:=.z
def x8:Nat->Nat->Int×Int×Int×ff×Int×A13×Int×ff×A1->Option ((Int×A13×Int×ff)⊕(Int×Int×ff)):=fS pI Tryz.f29 [1,1,1,1,1,0,1,0,0] Ny Nz NA
def x9:FD:=⟨29,Tryz.f29,(.n .z (.n .z (.n .z (.n .z (.n .z (.n (.n .z (.n (.loop Ny Nz NA) .z)) .z)))))),[.ag [.h j1,.h cR],.h b_],[],[j1,cR,b_],⟨[(4,.k (.pt 900 0)),(5,.k (.ow 901)),(6,.h j1)],[(900,.box 24 [.h j1,.h cR]),(901,.arr 179 j21 true)],[j1,j1,cR,j23]⟩,true,false,[901]⟩
def pJ:Nat->Int×ff×A1->Option (Int×Int×ff×A13):=mF pI x9
def ajy:CO:=cF pI x9 pJ Tryz.func29
def vu N m h b g f i all d e c:x8 N (m+1) (h,b,g,f,i,all,d,e,c)=cond (b<h)
 (aW (aZ c b) λl=>
 aW (aZ c b) λj=>
 aW (Jh N (d,e,j.1,j.2)) λa=>
 cond (!(a.1=0))
  (some (.inr (a.1,g,f)))
  (aW (eC 32 all [(a.2.2.2.1,a.2.2.2.2.1,(a.2.2.2.2.2.1,a.2.2.2.2.2.2.1),a.2.2.2.2.2.2.2)]) λk=>
  (x8 N m (h,(wrap .i64 (b+1)),g,f,i,k,a.2.1,a.2.2.1,c))))
 (some (.inl (i,all,d,e))):=by kernel_rfl
def Hi N g a l:pJ (N+1) (g,a,l)=aW (zD N (g,a,l)) λb=>
 cond (!(b.1=0))
  (some (b.1,g,a,[]))
  (aW (x8 N N ((List.length b.2:Int),0,g,a,0,[],g,a,b.2)) λe=>
  (match e with
  |.inl c=>some (0,c.2.2.1,c.2.2.2,c.2.1)
  |.inr d=>some (d.1,d.2.1,d.2.2,[]))):=by kernel_rfl
def mc:List CO:=[acd,ach,ahE,ahD]
def Vh:PS:=⟨[(7,.k (.ow 900)),(21,.h j1),(22,.h j1)],[(900,.arr 3 j1 true)],[j1,j1,j6]⟩
def Vi:List (Exit×PS):=[((.exit 0),⟨[(7,.k (.ow 900))],[(900,.arr 3 j1 true)],[j6]⟩)]
def Vj:Pl:=.z
def Cp:Nat->Nat->Int×Int×(List Int)->Option ((List Int)):=fS mc Tryz.f22 [1,1,1,1,0,1,0,0] Vh Vi Vj
def r5:FD:=⟨22,Tryz.f22,(.n .z (.n .z (.n .z (.n .z (.n (.n .z (.n (.loop Vh Vi Vj) .z)) .z))))),[.h j1,.h b_],[],[j1,b_],⟨[(4,.k (.ow 900)),(5,.h j1)],[(900,.arr 3 j1 true)],[j1,j6]⟩,true,true,[900]⟩
def Vk:Nat->Int×A1->Option A6:=mF mc r5
def amn:CO:=cF mc r5 Vk Tryz.func22
def X7 N m c a s:Cp N (m+1) (c,a,s)=cond (a<c)
 (aW (Hc N (a,s)) λb=>
 aW (aZ b.2 a) λd=>
 aW (aZ b.2 a) λe=>
 (Cp N m (c,(wrap .i64 (a+1)),(List.set b.2 (Int.toNat a) b.1))))
 (some s):=by kernel_rfl
def acH N n l:Vk (N+1) (n,l)=aW (Ef N (n,l)) λa=>
 cond (!(a=0))
  (some (a,[]))
  (aW (Eh N n) λc=>
  aW (Nl N (l,c)) λb=>
  aW (Cp N N ((List.length b.2:Int),0,b.2)) λd=>
  some (0,d)):=by kernel_rfl
def NB:List CO:=[uo,ab0,amn]
def NC:FD:=⟨166,Tryz.f166,.z,[.ag [.h j1,.h cR]],[],[j1,cR],⟨[(2,.k (.ow 900)),(3,.h .b)],[(900,.arr 3 j1 true)],[.b,j6]⟩,true,true,[900]⟩
def Qs:Nat->Int×ff->Option A9:=mF NB NC
def ajz:CO:=cF NB NC Qs Tryz.func166
def X8 N g a:Qs (N+1) (g,a)=aW (mQ N (g,a)) λb=>
 cond (!b)
  (some (false,[]))
  (aW (G8 N (g,a)) λc=>
  aW (Vk N (g,c)) λd=>
  some (true,d.2)):=by kernel_rfl
def iy:List CO:=[]
def iz:FD:=⟨253,Tryz.f253,.z,[.h j1,.k (.pt 4294967296 0)],[(4294967296,.box 271 [.h j6])],[j1,j6],⟨[(3,.h .b)],[(4294967296,.box 271 [.h j6])],[.b,j6]⟩,true,false,[4294967296]⟩
def acI:Nat->Int×(List Int)->Option A9:=mF iy iz
def amo:CO:=cF iy iz acI Tryz.func253
def acJ N v a:acI (N+1) (v,a)=cond (v<0)
 (some (true,a))
 (some ((decide ((List.length a:Int)<=v)),a)):=by kernel_rfl
def bM:List CO:=[amo]
def acK:PS:=⟨[(0,.h j6),(1,.cl (.func 253) [] [.k (.pt 4294967296 0)]),(7,.h j1),(8,.h j1)],[(4294967296,.box 271 [.h j6])],[j6,j1,j1,j6]⟩
def acL:List (Exit×PS):=[((.exit 0),⟨[],[(4294967296,.box 271 [.h j6])],[j6]⟩),(.ret,⟨[(4,.h j1)],[(4294967296,.box 271 [.h j6])],[j1,j6]⟩)]
def acM:Pl:=.z
def Ji:Nat->Nat->(List Int)×Int×Int×(List Int)->Option (((List Int))⊕A6):=fS bM Tryz.f116 [1,0,1,0,0] acK acL acM
def c5:FD:=⟨116,Tryz.f116,(.n .z (.n (.n .z (.n (.loop acK acL acM) .z)) .z)),[.h j6,.cl (.func 253) [] [.k (.pt 4294967296 0)]],[(4294967296,.box 271 [.h j6])],[j6,j6],⟨[(4,.h j1)],[(4294967296,.box 271 [.h j6])],[j1,j6]⟩,true,false,[4294967296]⟩
def ajA:Nat->(List Int)×(List Int)->Option A6:=mF bM c5
def aoE:CO:=cF bM c5 ajA atr
def ND N m s b a f:Ji N (m+1) (s,b,a,f)=cond (a<b)
 (aW (aZ s a) λd=>
 aW (acI N (d,f)) λc=>
 cond c.1
  (some (.inr (a,c.2)))
  ((Ji N m (s,b,(wrap .i64 (a+1)),c.2))))
 (some (.inl f)):=by kernel_rfl
def af7 N s f:ajA (N+1) (s,f)=aW (Ji N N (s,(List.length s:Int),0,f)) λb=>
 (match b with
 |.inl c=>some ((-1),c)
 |.inr a=>some (a.1,a.2)):=by kernel_rfl
def cL:List CO:=[aoE]
def cM:FD:=⟨48,Tryz.f48,.z,[.h j6,.cl (.func 253) [] [.k (.pt 4294967296 0)]],[(4294967296,.box 271 [.h j6])],[j6,j6],⟨[(4,.h .b)],[(4294967296,.box 271 [.h j6])],[.b,j6]⟩,true,false,[4294967296]⟩
def ajB:Nat->(List Int)×(List Int)->Option A9:=mF cL cM
def aoF:CO:=cF cL cM ajB atS
def af8 N s f:ajB (N+1) (s,f)=aW (ajA N (s,f)) λa=>
 some ((decide (0<=a.1)),a.2):=by kernel_rfl
def kM:List CO:=[aoF]
def kO:FD:=⟨208,Tryz.f208,.z,[.h j6,.h j6],[],[j6,j6],⟨[(4,.h .b)],[],[.b]⟩,false,true,[]⟩
def Hl:Nat->(List Int)×(List Int)->Option (Bool):=mF kM kO
def amp:CO:=cF kM kO Hl Tryz.func208
def acN N c a:Hl (N+1) (c,a)=aW (ajB N (a,c)) λb=>
 some (!b.1):=by kernel_rfl
def fM:List CO:=[]
def fN:FD:=⟨210,Tryz.f210,.z,[.h j1,.h j1,.k (.pt 4294967296 0),.k (.pt 4294967297 0)],[(4294967296,.box 271 [.h j6]),(4294967297,.box 51 [.h j1,.h j1,.h j1])],[j1,j1,j6,j1,j1,j1],⟨[(6,.h .b)],[(4294967297,.box 51 [.h j1,.h j1,.h j1]),(4294967296,.box 271 [.h j6])],[.b,j1,j1,j1,j6]⟩,true,false,[4294967297,4294967296]⟩
def acO:Nat->Int×Int×(List Int)×Int×Int×Int->Option (Bool×Int×Int×Int×(List Int)):=mF fM fN
def amq:CO:=cF fM fN acO Tryz.func210
def acP N f c a d b e:acO (N+1) (f,c,a,d,b,e)=aW (aZ a b) λg=>
 some ((decide (c=g)),d,b,e,a):=by kernel_rfl
def bQ:List CO:=[amq]
def acQ:PS:=⟨[(1,.cl (.func 210) [] [.k (.pt 4294967296 0),.k (.pt 4294967297 0)]),(4,.h j1),(7,.h j6),(8,.h j1),(9,.h j1)],[(4294967296,.box 271 [.h j6]),(4294967297,.box 51 [.h j1,.h j1,.h j1])],[j1,j6,j1,j1,j6,j1,j1,j1]⟩
def acR:List (Exit×PS):=[((.exit 0),⟨[(4,.h j1)],[(4294967296,.box 271 [.h j6]),(4294967297,.box 51 [.h j1,.h j1,.h j1])],[j1,j6,j1,j1,j1]⟩)]
def acS:Pl:=.z
def Es:Nat->Nat->Int×(List Int)×Int×Int×(List Int)×Int×Int×Int->Option (Int×(List Int)×Int×Int×Int):=fS bQ Tryz.f209 [1,0,1,0,0] acQ acR acS
def di:FD:=⟨209,Tryz.f209,(.n .z (.n (.n .z (.n (.loop acQ acR acS) .z)) .z)),[.h j6,.cl (.func 210) [] [.k (.pt 4294967296 0),.k (.pt 4294967297 0)]],[(4294967296,.box 271 [.h j6]),(4294967297,.box 51 [.h j1,.h j1,.h j1])],[j6,j6,j1,j1,j1],⟨[(4,.h j1)],[(4294967296,.box 271 [.h j6]),(4294967297,.box 51 [.h j1,.h j1,.h j1])],[j1,j6,j1,j1,j1]⟩,true,false,[4294967296,4294967297]⟩
def acT:Nat->(List Int)×(List Int)×Int×Int×Int->Option (Int×(List Int)×Int×Int×Int):=mF bQ di
def aoG:CO:=cF bQ di acT Tryz.func209
def NF N m n c d b e f g h:Es N (m+1) (n,c,d,b,e,f,g,h)=cond (b<d)
 (aW (aZ c b) λi=>
 aW (acO N (b,i,e,f,g,h)) λa=>
 cond a.1
  ((Es N m ((wrap .i64 (n+1)),c,d,(wrap .i64 (b+1)),a.2.2.2.2,a.2.1,a.2.2.1,a.2.2.2.1)))
  ((Es N m (n,c,d,(wrap .i64 (b+1)),a.2.2.2.2,a.2.1,a.2.2.1,a.2.2.2.1))))
 (some (n,e,f,g,h)):=by kernel_rfl
def af9 N c b d e f:acT (N+1) (c,b,d,e,f)=aW (Es N N (0,c,(List.length c:Int),0,b,d,e,f)) λa=>
 some (a.1,a.2.1,a.2.2.1,a.2.2.2.1,a.2.2.2.2):=by kernel_rfl
def jc:List CO:=[]
def jd:FD:=⟨211,Tryz.f211,.z,[.h j1,.h j1],[],[j1,j1],⟨[(4,.h .b)],[],[.b]⟩,false,true,[]⟩
def acU:Nat->Int×Int->Option (Bool):=mF jc jd
def amr:CO:=cF jc jd acU Tryz.func211
def acV N v a:acU (N+1) (v,a)=some (decide (v=a)):=by kernel_rfl
def cX:List CO:=[amr]
def Vl:PS:=⟨[(1,.k (.v (.func (.func 211) #[] #[]))),(4,.h j1),(7,.h j6),(8,.h j1),(9,.h j1)],[],[j1,j6,j1,j1]⟩
def Vm:List (Exit×PS):=[((.exit 0),⟨[(4,.h j1)],[],[j1]⟩)]
def Vn:Pl:=.z
def x_:Nat->Nat->Int×(List Int)×Int×Int->Option (Int):=fS cX Tryz.f209 [1,0,1,0,0] Vl Vm Vn
def ej:FD:=⟨209,Tryz.f209,(.n .z (.n (.n .z (.n (.loop Vl Vm Vn) .z)) .z)),[.h j6,.k (.v (.func (.func 211) #[] #[]))],[],[j6],⟨[(4,.h j1)],[],[j1]⟩,false,true,[]⟩
def NG:Nat->(List Int)->Option (Int):=mF cX ej
def ams:CO:=cF cX ej NG Tryz.func209
def Hm N m n b c a:x_ N (m+1) (n,b,c,a)=cond (a<c)
 (aW (aZ b a) λd=>
 aW (acU N (a,d)) λe=>
 cond e
  ((x_ N m ((wrap .i64 (n+1)),b,c,(wrap .i64 (a+1)))))
  ((x_ N m (n,b,c,(wrap .i64 (a+1))))))
 (some n):=by kernel_rfl
def acW N c:NG (N+1) c=aW (x_ N N (0,c,(List.length c:Int),0)) λa=>
 some a:=by kernel_rfl
def gM:List CO:=[amp,aoG,ams]
def Vo:PS:=⟨[(2,.k (.pt 900 0)),(3,.k (.pt 901 0)),(7,.h j1)],[(900,.box 271 [.h j6]),(901,.box 51 [.h j1,.h j1,.h j1])],[j1,j6,j1,j1,j1]⟩
def Vp:List (Exit×PS):=[(.normal,⟨[(2,.k (.pt 900 0)),(3,.k (.pt 901 0)),(7,.h j1),(31,.h .b)],[(900,.box 271 [.h j6]),(901,.box 51 [.h j1,.h j1,.h j1])],[j1,.b,j6,j1,j1,j1]⟩)]
def Vq:Pl:=.z
def Vr:Nat->Nat->Int×(List Int)×Int×Int×Int->Option (Int×Bool×(List Int)×Int×Int×Int):=jnF gM Tryz.f167 [1,0,1,0,1,1,0] Vo Vp Vq
def jR:FD:=⟨167,Tryz.f167,(.n .z (.n (.n .z (.n (.n .z (.n .z (.n (.join Vo Vp Vq) .z))) .z)) .z)),[.h j6,.ag [.h j1,.h j1,.h j1]],[],[j6,j1,j1,j1],⟨[(4,.h j1),(5,.h j1)],[],[j1,j1]⟩,false,true,[]⟩
def Vs:Nat->(List Int)×Int×Int×Int->Option (Int×Int):=mF gM jR
def amt:CO:=cF gM jR Vs Tryz.func167
def X9 N m b c a d e:Vr N (m+1) (b,c,a,d,e)=cond (b=2)
 (some (b,true,c,a,d,e))
 (some (b,(decide (b=3)),c,a,d,e)):=by kernel_rfl
def acX N c a d e:Vs (N+1) (c,a,d,e)=cond (a=1)
 (aW (Hl N (c,[d,e])) λf=>
 cond (!f)
  (some (0,10))
  (aW (aZ c d) λg=>
  aW (aZ c e) λh=>
  cond (g=h)
   (some (1,0))
   (some (0,0))))
 (aW (Vr N N (a,c,a,d,e)) λb=>
 cond b.2.1
  (aW (Hl N (b.2.2.1,[b.2.2.2.2.1])) λi=>
  cond (!i)
   (some (0,10))
   (cond (b.2.2.2.1=2)
    (aW (aZ b.2.2.1 b.2.2.2.2.1) λj=>
    some (j,0))
    (aW (acT N (b.2.2.1,b.2.2.1,b.2.2.2.1,b.2.2.2.2.1,b.2.2.2.2.2)) λk=>
    some (k.1,0))))
  (cond (b.1=4)
   (aW (NG N b.2.2.1) λl=>
   some (l,0))
   (some (0,1)))):=by kernel_rfl
def nF:List CO:=[ajz,amt]
def Vt:PS:=⟨[(6,.k (.ow 900)),(8,.k (.ow 901)),(20,.h pf),(21,.h j1),(22,.h j1)],[(900,.arr 3 j1 true),(901,.arr 3 j1 true)],[pf,j1,j1,j6,j6]⟩
def Vu:List (Exit×PS):=[((.exit 0),⟨[(8,.k (.ow 900))],[(900,.arr 3 j1 true)],[j6]⟩),(.ret,⟨[(4,.k .nil),(5,.h j1)],[],[j1]⟩)]
def Vv:Pl:=.z
def Cq:Nat->Nat->(List A4)×Int×Int×(List Int)×(List Int)->Option (((List Int))⊕(Int)):=fS nF Tryz.f98 [1,1,1,1,0,1,0,0] Vt Vu Vv
def uQ:FD:=⟨98,Tryz.f98,(.n .z (.n .z (.n .z (.n .z (.n (.n .z (.n (.loop Vt Vu Vv) .z)) .z))))),[.ag [.h j1,.h cR],.h pf],[],[j1,cR,pf],⟨[(4,.k (.ow 900)),(5,.h j1)],[(900,.arr 3 j1 true)],[j1,j6]⟩,true,true,[900]⟩
def uR:Nat->Int×ff×(List A4)->Option A6:=mF nF uQ
def amu:CO:=cF nF uQ uR Tryz.func98
def Hn N m d e a c b:Cq N (m+1) (d,e,a,c,b)=cond (a<e)
 (aW (aZ d a) λf=>
 aW (Vs N (c,f.1,f.2.1,f.2.2)) λg=>
 cond (!(g.2=0))
  (some (.inr g.2))
  (aW (eC 8 b [g.1]) λh=>
  (Cq N m (d,e,(wrap .i64 (a+1)),c,h))))
 (some (.inl b)):=by kernel_rfl
def acY N g a l:uR (N+1) (g,a,l)=aW (Qs N (g,a)) λb=>
 cond (!b.1)
  (some (1,[]))
  (aW (Cq N N (l,(List.length l:Int),0,b.2,[])) λc=>
  (match c with
  |.inl d=>some (0,d)
  |.inr e=>some (e,[]))):=by kernel_rfl
def Et:List CO:=[]
def Eu:FD:=⟨6,Tryz.f6,.z,[],[],[],⟨[(0,.k (.pt 900 0))],[(900,.box 42 [.h j1,.h j1,.h j1,.h j1,.h b_])],[j1,j1,j1,j1,b_]⟩,false,false,[]⟩
def zI:Nat->Unit->Option (Int×Int×Int×Int×A1):=mF Et Eu
def acZ:CO:=cF Et Eu zI Tryz.func6
def X_ N:zI (N+1) ()=some (8,3,2,3,[(0,1),(1,0),(2,0)]):=by kernel_rfl
def pK:List CO:=[]
def NH:PS:=⟨[(2,.k (.pt 900 0)),(3,.k (.pt 901 0)),(5,.h j1)],[(900,.box 24 [.h j1,.h cR]),(901,.box 24 [.h j1,.h cR])],[j1,j1,cR,j1,cR]⟩
def NI:List (Exit×PS):=[((.exit 0),⟨[],[],[]⟩),(.ret,⟨[(4,.h .b)],[],[.b]⟩)]
def NJ:Pl:=.z
def ya:Nat->Nat->Int×Int×ff×Int×ff->Option ((Unit)⊕(Bool)):=fS pK Tryz.f8 [1,1,0,1,0,0] NH NI NJ
def yb:FD:=⟨8,Tryz.f8,(.n .z (.n .z (.n (.n .z (.n (.loop NH NI NJ) .z)) .z))),[.ag [.h j1,.h cR],.ag [.h j1,.h cR]],[],[j1,cR,j1,cR],⟨[(4,.h .b)],[],[.b]⟩,false,true,[]⟩
def zJ:Nat->Int×ff×Int×ff->Option (Bool):=mF pK yb
def Qt:CO:=cF pK yb zJ Tryz.func8
def Ew N m i a c b f:ya N (m+1) (i,a,c,b,f)=cond (i<(List.length c:Int))
 (aW (aZ c i) λd=>
 aW (aZ f i) λe=>
 cond (!((decide (d.1=e.1)) && ((decide (d.2.1=e.2.1)) && ((decide (d.2.2.1=e.2.2.1)) && (d.2.2.2==e.2.2.2)))))
  (some (.inr false))
  ((ya N m ((wrap .i64 (i+1)),a,c,b,f))))
 (some (.inl ())):=by kernel_rfl
def Ya N a c b d:zJ (N+1) (a,c,b,d)=cond (!(a=b))
 (some false)
 (cond (!((List.length c:Int)=(List.length d:Int)))
  (some false)
  (aW (ya N N (0,a,c,b,d)) λe=>
  (match e with
  |.inl g=>some true
  |.inr f=>some f))):=by kernel_rfl
def yd:List CO:=[Qt]
def ye:FD:=⟨7,Tryz.f7,.z,[.ag [.h j1,.h cR,.h j1,.h j1],.ag [.h j1,.h cR,.h j1,.h j1]],[],[j1,cR,j1,j1,j1,cR,j1,j1],⟨[(4,.h .b)],[],[.b]⟩,false,true,[]⟩
def Jj:Nat->Int×ff×Int×Int×Int×ff×Int×Int->Option (Bool):=mF yd ye
def ac0:CO:=cF yd ye Jj Tryz.func7
def Yb N a c d e b f g h:Jj (N+1) (a,c,d,e,b,f,g,h)=aW (zJ N (a,c,b,f)) λi=>
 cond i
  (cond (d=g)
   (some (decide (e=h)))
   (some false))
  (some false):=by kernel_rfl
def pL:List CO:=[]
def NK:PS:=⟨[(0,.h j6),(1,.h j6),(5,.h j1)],[],[j6,j6,j1]⟩
def NL:List (Exit×PS):=[((.exit 0),⟨[],[],[]⟩),(.ret,⟨[(4,.h .b)],[],[.b]⟩)]
def NM:Pl:=.z
def yf:Nat->Nat->(List Int)×(List Int)×Int->Option ((Unit)⊕(Bool)):=fS pL Tryz.f9 [1,1,0,1,0,0] NK NL NM
def yg:FD:=⟨9,Tryz.f9,(.n .z (.n .z (.n (.n .z (.n (.loop NK NL NM) .z)) .z))),[.h j6,.h j6],[],[j6,j6],⟨[(4,.h .b)],[],[.b]⟩,false,true,[]⟩
def Jk:Nat->(List Int)×(List Int)->Option (Bool):=mF pL yg
def ac1:CO:=cF pL yg Jk Tryz.func9
def Ex N m a b i:yf N (m+1) (a,b,i)=cond (i<(List.length a:Int))
 (aW (aZ a i) λc=>
 aW (aZ b i) λd=>
 cond (!(c=d))
  (some (.inr false))
  ((yf N m (a,b,(wrap .i64 (i+1))))))
 (some (.inl ())):=by kernel_rfl
def Yc N a b:Jk (N+1) (a,b)=cond (!((List.length a:Int)=(List.length b:Int)))
 (some false)
 (aW (yf N N (a,b,0)) λc=>
 (match c with
 |.inl e=>some true
 |.inr d=>some d)):=by kernel_rfl
def ac2(e:Int)(f:e≠0):PCX Tryz.prog 97 [] [.v (.int .i64 e)] [{v:=mA e,recovered:=false}]:=by
 refine⟨⟨Tryz.f97,auD,by kernel_rfl,by kernel_rfl⟩,λB Rd e0 w d g a=>?_⟩;obtain⟨v,i,k⟩:=a.get (j:=0) (c:=.v (.int .i64 e)) rfl;obtain rfl:=k.bE;have:d=[.int .i64 e]:=by
  match d,a.1,i with
  |[u],_,h=>simpa using h
 subst this;exact(aas e w f).mono λx l b=>⟨b.1,e0,b.2▸g.nil⟩
noncomputable def yh:FD:=⟨97,Tryz.f97,.z,[.h (.i .i64)],[],[.i .i64],⟨[],[],[]⟩,false,true,[]⟩
noncomputable def dF:Nat->Int->Option Unit:=mF [] yh
noncomputable def Jl:CO:=cF [] yh dF auD
def qq N e:dF (N+1) e=cond (!(e=0)) none (some ()):=by kernel_rfl
noncomputable def Jm:List CO:=[al_,Qn,Jl,aju,ajy,amu]
noncomputable def Jn:FD:=⟨40,Tryz.f40,.z,[.k (.pt 4294967296 0),.ag [.h j1,.h b_,.h pf],.ag [.h j1,.h j1,.h j1,.h j1,.h b_]],[(4294967296,.box 123 [.h j1,.h cR,.h j1,.h j1,.h j1,.h j1,.h j6])],[j1,b_,pf,j1,j1,j1,j1,b_,j1,cR,j1,j1,j1,j1,j6],⟨[],[(4294967296,.box 123 [.h j1,.h cR,.h j1,.h j1,.h j1,.h j1,.h j6])],[j1,cR,j1,j1,j1,j1,j6]⟩,true,false,[4294967296]⟩
noncomputable def zK:Nat->kf Jn.cs->Option (kf Jn.rs.c):=mF Jm Jn
def Yd N k p q l m g P j n b d f e i h:zK (N+1) (k,p,q,l,m,g,P,j,n,b,d,f,e,i,h)=
 aW (ot N (n,b,k,p,q,l,m,g,P,j)) λc=>aW (dF N c.2.1) λ_=>
 aW (jX N (wrap .i64 (((c.2.2.2.1.length:Nat):Int)+((c.2.2.2.2.length:Nat):Int)),g,P,j)) λo=>aW (dF N o.2.1) λ_=>
 cond (c.2.2.1=1)
  (aW (mb N (n,b,c.2.2.2.1)) λa=>aW (dF N a.2.1) λ_=>some (a.2.2.1,a.2.2.2,wrap .i64 (d+1),wrap .i64 (f+wrap .i64 (c.1+o.1)),e,a.1,h))
  (cond (c.2.2.1=2)
   (aW (pJ N (n,b,c.2.2.2.1)) λa=>aW (dF N a.1) λ_=>some (a.2.1,a.2.2.1,wrap .i64 (d+1),wrap .i64 (f+wrap .i64 (c.1+o.1)),e,((c.2.2.2.1.length:Nat):Int),h))
   (cond (c.2.2.1=3)
    (aW (uR N (n,b,c.2.2.2.2)) λa=>aW (dF N a.1) λ_=>some (n,b,wrap .i64 (d+1),wrap .i64 (f+wrap .i64 (c.1+o.1)),e,i,a.2))
    (aW (dF N o.2.1) λ_=>some (n,b,wrap .i64 (d+1),wrap .i64 (f+wrap .i64 (c.1+o.1)),e,i,h)))):=by kernel_rfl
noncomputable def jY:CO:=cF Jm Jn zK Tryz.func40
variable{d:cC}{c:Int}{a:List PanicEntry}{b:Nat}
section
def kGo{R:Type}(f:cC->Option R):Exit->cC->Option R
 |.normal,E=>f E
 |_,_=>none
def slI(E:cC)(i:Nat):Option Int:=match cN E.t i with
 |.sc (.i .i64) e=>some e
 |_=>none
def ajC(h:slI d b=some c):cN d.t b=.sc (.i .i64) c:=by
 unfold slI at h;split at h
 ·rename_i e a;cases h;exact a
 ·cases h
section
variable{P:Program}{dm:Exit->St->Prop}{T:TypeId->bj}{CT:List iS}{N:Nat}
def TC.Qu(m:Place P T CT){c a:Code}(g:Am c=true){o:Pl}{R:Type}{f:cC->Option R}{r:R}(h:ua T CT N c o d R (kGo f)=some r)(j:∀e,e.n=d.n->f e=some r->TC P a (bg e) dm):TC P (.seq c a) (bg d) dm:=by
 refine TC.seq ((TC.ex m g h).mono λx s n=>?_);obtain⟨e,rfl,k,b⟩:=n;cases x with
 |normal=>exact j e k b
 |exit i=>cases b
 |goto l=>cases b
 |ret=>cases b
 |panic p=>cases b
 |outgrown=>cases b
def TC.aoH{id:Nat}{l:List Oper}{e g s:Nat}{E F:TypeId}{p1 p2:String}{k m:Array Edge}{C:Array TypeId}{f:FuncId}{y:Code}(v:l=[⟨some e,.move (.tmp s),E,p1,k,none⟩,⟨some g,.call ⟨.value (.func f), #[.tmp e],C⟩,F,p2,m,none⟩])
 (u:PCX P f [] [.v (.int .i64 c)] a) (r:slI d s=some c) (q:e<d.n) (n:Ka (1000*(g+1)) []=true) (x:∀B,dm (.panic a) B):TC P (.seq (.region id l.toArray false) y) (bg d) dm:=by
 refine TC.seq (TC.region ?_);subst v;have t:(bg d).ev (.tmp s)=.v (.int .i64 c):=by
  show bz (bg d).t s=_;rw[show(bg d).t=fY d.t from rfl,cw,ajC r];rfl
 refine TL.cons λI o=>GS.plain rfl (SS.read (RS.ahg t) q (o _ (TL.last rfl ?_)));refine SP.Ry (D:=[]) (h':=(bg d).h) u (Kb.func (args:= #[.tmp e])) (λH j e0 w G z A=>?_) n (x _);refine⟨e0,m_.refl z,(λp b h=>by cases h),(λp ob h=>by cases h),?_⟩;have:([.tmp e]:List Operand).map (St.ev ⟨(bg d).n,(e,.v (.int .i64 c))::(bg d).t,(bg d).h⟩)=[.v (.int .i64 c)]:=by
  simp only[aqz,aro,St.ev,bz,aqP]
 have i:LR (VR (bF H j e0 (bg d).h w) (some e0)) (([.tmp e]:List Operand).map (St.ev ⟨(bg d).n,(e,.v (.int .i64 c))::(bg d).t,(bg d).h⟩)) G:=A;rw[this]at i;exact i
end
noncomputable def tb:Code:=gJ Tryz.f40
noncomputable def tq(i:Nat):Code:=iD (List.replicate i 1++[0]) tb
noncomputable def tz:Code:=iD [1,1,1,1,1,1,1] tb
def ac3:tb=.seq (tq 0) (.seq (tq 1) (.seq (tq 2) (.seq (tq 3) (.seq (tq 4) (.seq (tq 5) (.seq (tq 6) tz)))))):=by kernel_rfl
def NN(s:Nat)(c:Code):Prop:=∃(id d1 d2:Nat) (ty1 ty2:TypeId) (p1 p2:String) (af1 af2:Array Edge) (ts:Array TypeId),c=.region id [⟨some d1,.move (.tmp s),ty1,p1,af1,none⟩,⟨some d2,.call ⟨.value (.func 97), #[.tmp d1],ts⟩,ty2,p2,af2,none⟩].toArray false/\d1<130/\Ka (1000*(d2+1)) []=true
def amA:NN 8 (tq 2):=⟨_,_,_,_,_,_,_,_,_,_,rfl,by decide,rfl⟩
def amB:NN 8 (tq 4):=⟨_,_,_,_,_,_,_,_,_,_,rfl,by decide,rfl⟩
def amC:NN 8 (tq 6):=⟨_,_,_,_,_,_,_,_,_,_,rfl,by decide,rfl⟩
def NN.tc{P:Program}{dm:Exit->St->Prop}{e y:Code}(h:NN b e)(j:PCX P 97 [] [.v (.int .i64 c)] a)(i:slI d b=some c)(k:d.n=130)(l:∀m,dm (.panic a) m):TC P (.seq e y) (bg d) dm:=by
 obtain⟨id,p,q,s,t,p1,p2,n,o,r,rfl,f,g⟩:=h;exact TC.aoH rfl j i (by rw[k];exact f) g l
abbrev TA:Type:=Int×List (Int×Int)×List (Int×Int×Int)×Int×Int×Int×Int×List (Int×Int)×Int×List bT×Int×Int×Int×Int×List Int
noncomputable def tE(N:Nat)(x:TA):cC:=⟨130,FP 0 ((jY.c N).as x),(jY.c N).H0 x⟩
noncomputable abbrev tx(N:Nat):=λ(c:Code) (E:cC) (f:cC->Option Int)=>ua T (Sh Jm N) N c .z E Int (kGo f)
noncomputable def Ho(N:Nat):TA->Option Int:=λ(k,es,qs,bi,bl,g,P,pk,n,ts,bt,st,er,ch,an)=>
 aW (ot N (n,ts,k,es,qs,bi,bl,g,P,pk)) λc=>cond (!(decide (c.2.1=0))) (some c.2.1) (
 aW (jX N (wrap .i64 (((c.2.2.2.1.length:Nat):Int)+((c.2.2.2.2.length:Nat):Int)),g,P,pk)) λo=>cond (!(decide (o.2.1=0))) (some o.2.1) (
 cond (decide (c.2.2.1=1)) (aW (mb N (n,ts,c.2.2.2.1)) λa=>some a.2.1)
  (cond (decide (c.2.2.1=2)) (aW (pJ N (n,ts,c.2.2.2.1)) λa=>some a.1)
   (cond (decide (c.2.2.1=3)) (aW (uR N (n,ts,c.2.2.2.2)) λa=>some a.1) (some o.2.1)))))
def aoI N k d f a b g P e n h j o m l i:tx N (tq 0) (tE N (k,d,f,a,b,g,P,e,n,h,j,o,m,l,i)) (λE=>tx N (tq 1) E λE=>slI E 8)=
 aW (ot N (n,h,k,d,f,a,b,g,P,e)) λc=>some c.2.1:=by kernel_rfl
def aoJ N k e f b d g P a n h j p m l i:tx N (tq 0) (tE N (k,e,f,b,d,g,P,a,n,h,j,p,m,l,i)) (λE=>tx N (tq 1) E λE=>tx N (tq 2) E λE=>tx N (tq 3) E λE=>slI E 8)=
 aW (ot N (n,h,k,e,f,b,d,g,P,a)) λc=>aW (dF N c.2.1) λ_=>
 aW (jX N (wrap .i64 (((c.2.2.2.1.length:Nat):Int)+((c.2.2.2.2.length:Nat):Int)),g,P,a)) λo=>some o.2.1:=by kernel_rfl
def aoK N k h i e f g P d n b l q p m j:tx N (tq 0) (tE N (k,h,i,e,f,g,P,d,n,b,l,q,p,m,j)) (λE=>tx N (tq 1) E λE=>tx N (tq 2) E λE=>tx N (tq 3) E λE=>tx N (tq 4) E λE=>tx N (tq 5) E λE=>slI E 8)=
 aW (ot N (n,b,k,h,i,e,f,g,P,d)) λc=>aW (dF N c.2.1) λ_=>
 aW (jX N (wrap .i64 (((c.2.2.2.1.length:Nat):Int)+((c.2.2.2.2.length:Nat):Int)),g,P,d)) λo=>aW (dF N o.2.1) λ_=>
 cond (c.2.2.1=1) (aW (mb N (n,b,c.2.2.2.1)) λa=>some a.2.1)
  (cond (c.2.2.1=2) (aW (pJ N (n,b,c.2.2.2.1)) λa=>some a.1)
   (cond (c.2.2.1=3) (aW (uR N (n,b,c.2.2.2.2)) λa=>some a.1) (some o.2.1))):=by kernel_rfl
def Qv{N:Nat}{x:TA}(h:TC Tryz.prog tb (bg (tE N x)) λy _=>y=.panic a):PCX Tryz.prog 40 (bs ((jY.c N).H0 x)) (bO ((jY.c N).as x)) a:=by
 refine PCX.intro Tryz.func40 (by kernel_rfl) (c:=tb) (by kernel_rfl) (by show _<=130;rw[show(bO ((jY.c N).as x)).length=3 from rfl];decide) (by show(130:Nat)<=1000000;decide) ?_;have e:(⟨Tryz.f40.ntmps,qP 0 (bO ((jY.c N).as x)),bs ((jY.c N).H0 x)⟩:St)=bg (tE N x):=by
  unfold bg tE;simp only[rf];rfl
 rw[e];exact h
def ac4{N:Nat}{x:TA}(h:Ho (N+1) x=some c)(W:c≠0):PCX Tryz.prog 40 (bs ((jY.c (N+1)).H0 x)) (bO ((jY.c (N+1)).as x)) [{v:=mA c,recovered:=false}]:=by
 refine Qv ?_;obtain⟨k,i,j,e,f,g,P,d,n,l,p,t,r,q,m⟩:=x;have b:=zu Jm (N+1);have B:=ac2 c W;have G:Am (tq 0)=true:=by kernel_rfl
 have H:Am (tq 1)=true:=by kernel_rfl
 have M:Am (tq 2)=true:=by kernel_rfl
 have O:Am (tq 3)=true:=by kernel_rfl
 have Z:Am (tq 4)=true:=by kernel_rfl
 have n5:Am (tq 5)=true:=by kernel_rfl
 have I:=aoI (N+1) k i j e f g P d n l p t r q m;have u:=aoJ (N+1) k i j e f g P d n l p t r q m;have s:=aoK (N+1) k i j e f g P d n l p t r q m;have L:dF (N+1) 0=some ():=by rw[qq];rfl
 have S:tx (N+1) (tq 0) (tE (N+1) (k,i,j,e,f,g,P,d,n,l,p,t,r,q,m)) (λE=>tx (N+1) (tq 1) E λE=>slI E 8)=some c->TC Tryz.prog tb (bg (tE (N+1) (k,i,j,e,f,g,P,d,n,l,p,t,r,q,m))) λy _=>y=.panic [{v:=mA c,recovered:=false}]:=λh=>by
  rw[ac3];exact TC.Qu b G h λJ w h=>TC.Qu b H h λK z h=>amA.tc B h (z.trans w) λ_=>rfl
 have U:tx (N+1) (tq 0) (tE (N+1) (k,i,j,e,f,g,P,d,n,l,p,t,r,q,m)) (λE=>tx (N+1) (tq 1) E λE=>tx (N+1) (tq 2) E λE=>tx (N+1) (tq 3) E λE=>slI E 8)=some c->TC Tryz.prog tb (bg (tE (N+1) (k,i,j,e,f,g,P,d,n,l,p,t,r,q,m))) λy _=>y=.panic [{v:=mA c,recovered:=false}]:=λh=>by
  rw[ac3];exact TC.Qu b G h λJ w h=>TC.Qu b H h λK z h=>TC.Qu b M h λQ D h=>TC.Qu b O h λR F h=>amB.tc B h (F.trans (D.trans (z.trans w))) λ_=>rfl
 have V:tx (N+1) (tq 0) (tE (N+1) (k,i,j,e,f,g,P,d,n,l,p,t,r,q,m)) (λE=>tx (N+1) (tq 1) E λE=>tx (N+1) (tq 2) E λE=>tx (N+1) (tq 3) E λE=>tx (N+1) (tq 4) E λE=>tx (N+1) (tq 5) E λE=>slI E 8)=some c->TC Tryz.prog tb (bg (tE (N+1) (k,i,j,e,f,g,P,d,n,l,p,t,r,q,m))) λy _=>y=.panic [{v:=mA c,recovered:=false}]:=λh=>by
  rw[ac3];exact TC.Qu b G h λJ w h=>TC.Qu b H h λK z h=>TC.Qu b M h λQ D h=>TC.Qu b O h λR F h=>TC.Qu b Z h λE5 X h=>TC.Qu b n5 h λE6 Y h=>amC.tc B h (Y.trans (X.trans (F.trans (D.trans (z.trans w))))) λ_=>rfl
 unfold Ho at h;simp only at h;generalize ot (N+1) (n,l,k,i,j,e,f,g,P,d)=oc at h I u s;cases oc with
 |none=>cases h
 |some a=>
  simp only[aW]at h I u s;by_cases A:a.2.1=0
  ·rw[A,L]at u s
   rw[A]at h;simp only[arp,aqv,aqi]at h u s;generalize jX (N+1) (wrap .i64 (((a.2.2.2.1.length:Nat):Int)+((a.2.2.2.2.length:Nat):Int)),g,P,d)=oo at h u s;cases oo with
   |none=>cases h
   |some o=>
    simp only at h u s;by_cases C:o.2.1=0
    ·rw[C,L]at s
     rw[C]at h;simp only[arp,aqv,aqi]at h s;exact V (s.trans h)
    ·rw[aqK C]at h
     exact U (u.trans h)
  ·rw[aqK A]at h
   exact S (I.trans h)
