/- part 28 -/
import Derived.Test.YtillffjlojlhoaaGreatDoorZWholeSound27
set_option linter.all false
noncomputable section
open Go Go.RowKit
open IntKind (wrap)
set_option maxRecDepth 100000
open Go.Proofs.Tryz
open List (length)
namespace Go.Proofs.YtillffjlojlhoaaGreatDoor
def ajI{h:GE}(a:∀b o u,GT b o u->h.cell? ⟨b,o,none⟩=some u):∃f g,FC Tryz.prog h 5 [] .lf 0 (.v (.bool true)) f g:=by
 have d:=anm a;have j:MOk Tryz.prog h (kR []):=MOk.nil;have k:=j.cons (e:=Ks) (eQ mixed Bg a d j wr0);have t:=k.cons (e:=KN) (eQ mixed Bg a d k wr1);have v:=t.cons (e:=K6) (eQ mixed Bg a d t wr2);have w:=v.cons (e:=Nb) (eQ mixed Bg a d v wr3);have x:=w.cons (e:=Pu) (eQ mixed Bg a d w wr4);have y:=x.cons (e:=PI) (eQ mixed Bg a d x wr5);have z:=y.cons (e:=UG) (eQ mixed Bg a d y wr6);have A:=z.cons (e:=US) (eQ mixed Bg a d z wr7);have B:=A.cons (e:=W5) (eQ mixed Bg a d A wr8);have l:=B.cons (e:=we9) (eQ mixed Bg a d B wr9);have m:=l.cons (e:=EW) (eQ mixed Bg a d l auT);have n:=m.cons (e:=GG) (eQ mixed Bg a d m auU);have p:=n.cons (e:=Kt) (eQ mixed Bg a d n auV);have q:=p.cons (e:=K7) (eQ mixed Bg a d p auW);have r:=q.cons (e:=Pv) (eQ mixed Bg a d q auX);have s:=r.cons (e:=UH) (eQ mixed Bg a d r auY);have D:=s.cons (e:=W6) (eQ mixed Bg a d s auZ);obtain⟨c,f,g,C,i⟩:=xp mixed Bg a d D 3000 5 [] .lf 0 _ 0 wr;split at i
 .exact⟨f,g,C⟩
 .cases i
noncomputable def UI(N:Nat):Unit->At In:=λ_=>some true
noncomputable def UJ:CO:=⟨λN=>⟨5,[],[],[],In,UI N,λy _ k=>k (.sc .b y) [],false,true⟩,λN=>by
 refine⟨λ_=>rfl,λx y q=>⟨.sc .b true,[],λR k=>?_,λ_=>rfl,λ_=>⟨rfl,rfl⟩,?_⟩⟩
 .cases q;rfl
 refine⟨l7 DF DG 5 d6,λB Rd e w c l m=>?_⟩;have a:SR B Rd e [] w:=l;have n:LR (VR (bT B Rd e [] w) (some e)) [] c:=m;have j:c=[]:=aw6 n.1;subst j;have d:∀b o u,GT b o u->w.cell? ⟨b,o,none⟩=some u:=λb o u h=>(a.HO h).1;obtain⟨r,s,f⟩:=ajI d;refine(f.2 (λ_=>none) w [] (ajD w) ⟨rfl,d5⟩).mono λx t p=>?_;obtain⟨v,z,rfl,g,i⟩:=p;rw[i.bS];exact⟨_,e,rfl,(a.later g.hr.ext).1,.v⟩⟩
abbrev cE:Sc:=.i .i64
abbrev jr2:Sc:=.i .u8
abbrev PJ:Sc:=.pr cE cE
abbrev jr4:Sc:=.pr cE .b
abbrev jr5:Sc:=.sl cE
abbrev jr6:Sc:=.sl jr2
abbrev jr7:Sc:=.pr cE jr4
abbrev jr8:Sc:=.sl PJ
abbrev jr9:Sc:=.sl jr5
abbrev ajJ:Sc:=.pr cE PJ
abbrev au1:Sc:=.pr cE jr7
abbrev yt:Sc:=.pr cE jr9
abbrev as7:Sc:=.sl ajJ
abbrev jo:Sc:=.sl au1
abbrev au2:Sc:=.pr jr8 as7
abbrev ajK:Sc:=.pr cE au2
abbrev Ar1:Type:=Int×(Int×In)
abbrev DQ:Type:=bh
abbrev Ar3:Type:=bP
abbrev Ar4:Type:=Int×(Int×Int)
abbrev yj:Type:=Do (Int×Ar1)
abbrev UT:Type:=Do (Int×Ar3)
abbrev Ar7:Type:=Int×(DQ×(Do Ar4))
def Ku:Do CO:=[]
def akx:Do PV:=[.h cE,.h cE,.h cE,.h cE,.h jr8]
def Kv:FD:=cL 4 Tryz.f4 .z [.h jr6,.ag akx] [] (bg n7 []) false true []
def As:Nat->aX×Int×Int×Int×Int×DQ->eu:=mF Ku Kv
def W9:CO:=cF Ku Kv As func4
def K8 N b w c d e a:As (N+1) (b,w,c,d,e,a)=cond (250<(length b:Int))
 (some true)
 (some (decide (60<(length a:Int)))):=ci
def Gj:Do CO:=[]
def Gk:FD:=cL 6 Tryz.f6 .z [.h jr2] [] (bg [i9] [(900,.box 34 [.h cE,.k .nil,.h cE,.h cE])]) false true []
def pJ:Nat->Int->At (Int×Int×Int):=mF Gj Gk
def UK:CO:=cF Gj Gk pJ func6
def Kw N n:pJ (N+1) n=some ((wZ (1+(Int.tmod (wZ n) 12))),0,0):=ci
def xr:Do CO:=[]
def aea:Nat×PV:=(4,.h cE)
def xt:FD:=cL 105 f105 .z [.h jr6,.h cE] [] (bg [aea,(5,.h .b)] []) false true []
def hC:Nat->aX×Int->At (Int×In):=mF xr xt
def Kx:CO:=cF xr xt hC func105
def DH N b a:hC (N+1) (b,a)=cond (a<0)
 (some (0,false))
 (cond ((wZ ((length b:Int) - 1))<=a)
  (some (0,false))
  (aW (aZ b a) λc=>
   aW (aZ b (wZ (a+1))) λd=>
   some ((wZ ((wZ ((wZ c)*256))+(wZ d))),true))):=ci
def lq:Do CO:=[Kx]
def apu:Nat×PV:=(5,.k (.pt 901 0))
def ake:Nat×PV:=(6,.h cE)
def aqi:Nat×PV:=(8,.h cE)
def ajh:Do (Nat×PV):=[(0,.h jr6),i9,apu,ake,aqi,(9,.h cE),(10,.h cE)]
def acc:Nat×PO:=(900,.box 48 [.h cE,.k .nil,.k .nil])
def md:Do (Nat×PO):=[acc,(901,.box 48 [.h cE,.k (.ow 902),.k (.ow 903)]),(902,.arr 52 PJ true),(903,.arr 54 ajJ true)]
def rS:PS:=bg ajh md
def as2:Nat×PV:=(3,.h cE)
def rT:Do (IR×PS):=[(.ret,bg [i9,as2,aea] [acc]),(.normal,bg ajh md)]
def rU:Pl:=.z
def jq:Nat->Nat->aX×Int×Int×Int×Int×Int×Int×DQ×(Do Ar4)->At ((Int×Int×Int)⊕(aX×Int×Int×Int×Int×Int×Int×DQ×(Do Ar4))):=jnF lq f40 [1,1,1,1,1,1,1,1,0,1,0,0,1,0,0,1,0] rS rT rU
def rV:PS:=bg [(0,.h jr6),i9,apu,ake,aqi,(9,.h cE)] [acc,(901,.box 48 [.h cE,.k (.ow 903),.k (.ow 902)]),(903,.arr 52 PJ true),(902,.arr 54 ajJ true)]
def rW:Do (IR×PS):=[((.exit 0),bg [i9,apu,aqi] md),(.ret,bg [i9,as2,aea] [acc])]
def rX:Pl:=(.n .z (.n (.n (.n .z (.n (.join rS rT rU) .z)) .z) .z))
def hI:Nat->Nat->aX×Int×Int×Int×Int×Int×DQ×(Do Ar4)->At ((Int×Int×Int×DQ×(Do Ar4))⊕(Int×Int×Int)):=fx lq f40 [1,1,1,1,1,1,1,1,0,1,0,0] rV rW rX
def xu:FD:=cL 40 f40 (.n .z (.n .z (.n .z (.n .z (.n .z (.n .z (.n .z (.n .z (.n (.n .z (.n (.loop rV rW rX) .z)) .z))))))))) [.h jr6] [] (bg [i9,as2,aea] [(900,.box 48 [.h cE,.h jr8,.h as7])]) false false []
def lu:Nat->aX->At (Int×Int×Int×DQ×(Do Ar4)):=mF lq xu
def Ky:CO:=cF lq xu lu func40
def Au N m b n a i k c x d e:jq N (m+1) (b,n,a,i,k,c,x,d,e)=cond (x=3)
 (cond (a=(length b:Int))
  (some (.inl ((length b:Int),7,0)))
  (aW (aZ b a) λf=>
   cond ((wZ f)<1)
    (some (.inl (a,8,0)))
    (cond (4<(wZ f))
     (some (.inl (a,8,0)))
     (some (.inr (b,n,(wZ (a+1)),i,(wZ f),c,x,d,e))))))
 (some (.inr (b,n,a,i,k,c,x,d,e))):=ci
def oP N m b n d i c x f e:hI N (m+1) (b,n,d,i,c,x,f,e)=cond (i<n)
 (aW (jq N N (b,n,d,i,0,c,x,f,e)) λk=>
  (match k with
  |.inl h=>some (.inr (h.1,h.2.1,h.2.2))
  |.inr a=>aW (hC N (a.1,a.2.2.1)) λj=>
   aW (hC N (a.1,(wZ (a.2.2.1+2)))) λg=>
   cond (!g.2)
    (some (.inr ((length a.1:Int),7,0)))
    (cond (a.2.2.2.2.2.2.1=3)
     (aW (eG 24 a.2.2.2.2.2.2.2.2 [(a.2.2.2.2.1,j.1,g.1)]) λl=>
      (hI N m (a.1,a.2.1,(wZ (a.2.2.1+4)),(wZ (a.2.2.2.1+1)),a.2.2.2.2.2.1,a.2.2.2.2.2.2.1,a.2.2.2.2.2.2.2.1,l)))
     (aW (eG 16 a.2.2.2.2.2.2.2.1 [(j.1,g.1)]) λo=>
      (hI N m (a.1,a.2.1,(wZ (a.2.2.1+4)),(wZ (a.2.2.2.1+1)),a.2.2.2.2.2.1,a.2.2.2.2.2.2.1,o,a.2.2.2.2.2.2.2.2))))))
 (some (.inl (d,c,x,f,e))):=ci
def DI N b:lu (N+1) b=cond ((length b:Int)=0)
 (some (0,7,0,[],[]))
 (aW (aZ b 0) λc=>
  cond ((wZ c)<1)
   (some (0,8,0,[],[]))
   (cond (3<(wZ c))
    (some (0,8,0,[],[]))
    (aW (hC N (b,1)) λd=>
     cond (!d.2)
      (some ((length b:Int),7,0,[],[]))
      (cond (60<d.1)
       (some (1,9,0,[],[]))
       (aW (hI N N (b,d.1,3,0,0,(wZ c),[],[])) λf=>
        (match f with
        |.inl a=>some (a.1,0,a.2.2.1,a.2.2.2.1,a.2.2.2.2)
        |.inr e=>some (e.1,e.2.1,e.2.2,[],[]))))))):=ci
def oQ:Do CO:=[Ky]
def als:Do (Nat×PO):=[(900,.arr 48 ajK true)]
def rY:PS:=bg [(0,.h jr6),m8,ake] als
def rZ:Do (IR×PS):=[((.exit 0),bg [m8,ake] als),(.ret,bg [m2,as2,aea] als)]
def r7:Pl:=.z
def hJ:Nat->Nat->aX×Int×(Do Ar7)->At ((Int×(Do Ar7))⊕(Int×Int×(Do Ar7))):=fx oQ Tryz.f7 [1,1,1,0,0,0] rY rZ r7
def xv:FD:=cL 7 Tryz.f7 (.n .z (.n .z (.n .z (.n (.n (.loop rY rZ r7) .z) .z)))) [.h jr6] [] (bg [m2,as2,aea] als) true false [900]
def lx:Nat->aX->At (Int×Int×(Do Ar7)):=mF oQ xv
def Kz:CO:=cF oQ xv lx func7
def Av N m b a c:hJ N (m+1) (b,a,c)=cond (a<(length b:Int))
 (aW (kj b a (length b:Int)) λd=>
  aW (lu N d) λz2=>
  cond (!(z2.2.1=0))
   (some (.inr ((wZ (a+z2.1)),z2.2.1,c)))
   (aW (eG 56 c [(z2.2.2.1,z2.2.2.2.1,z2.2.2.2.2)]) λe=>
    (hJ N m (b,(wZ (a+z2.1)),e))))
 (some (.inl (a,c))):=ci
def DJ N b:lx (N+1) b=aW (hJ N N (b,0,[])) λd=>
 (match d with
 |.inl c=>some (c.1,0,c.2)
 |.inr a=>some (a.1,a.2.1,a.2.2)):=ci
def xw:Do CO:=[]
def zo:PS:=bg [as2,aea] []
def zp:Do (IR×PS):=[((.exit 0),bg [as2] [])]
def zq:Pl:=.z
def l8:Nat->Nat->Int×Int->fi:=fx xw f48 [1,1,1,0,1,0,0] zo zp zq
def Gl:FD:=cL 48 f48 (.n .z (.n .z (.n .z (.n (.n .z (.n (.loop zo zp zq) .z)) .z)))) [.h cE] [] (bg [(2,.h cE)] []) false true []
def mJ:Nat->Int->fi:=mF xw Gl
def Gm:CO:=cF xw Gl mJ func48
def uy N m k a:l8 N (m+1) (k,a)=cond (0<a)
 ((l8 N m ((wZ (k+1)),(wZ (Int.tdiv a 2)))))
 (some k):=ci
def KA N n:mJ (N+1) n=cond (n<1)
 (some 0)
 (cond (64<n)
  (some 0)
  (aW (l8 N N (0,(wZ (n - 1)))) λa=>
   some a)):=ci
def iq:Do CO:=[]
def at4:Nat×PV:=(1,.h jr8)
def t9:Do (Nat×PO):=[(900,.arr 3 cE true)]
def pK:PS:=bg [(0,.h cE),at4,m8,asv,aqi] t9
def pL:Do (IR×PS):=[((.exit 4),bg [(0,.h cE),at4,m8,asv] t9)]
def pM:Pl:=.z
def dS:Nat->Nat->Int×DQ×In×Int×aX->At (Int×DQ×In×aX):=fx iq f45 [1,1,1,0,1,0,0,1,0,1,1,0,0] pK pL pM
def pN:PS:=bg [(0,.h cE),at4,m8,asv] t9
def pP:Do (IR×PS):=[((.exit 2),bg [m8] t9)]
def pQ:Pl:=(.n .z (.n (.n .z (.n .z (.n (.loop pK pL pM) .z))) .z))
def iK:Nat->Nat->Int×DQ×In×aX->mf:=fx iq f45 [1,1,1,0,1,0,0] pN pP pQ
def pR:PS:=bg [(0,.h cE),at4,m8,ake] t9
def pS:Do (IR×PS):=[((.exit 0),bg [(0,.h cE),at4,m8] t9)]
def pT:Pl:=.z
def iL:Nat->Nat->Int×DQ×Int×aX->At (Int×DQ×aX):=fx iq f45 [1,1,0,1,0,0] pR pS pT
def uz:FD:=cL 45 f45 (.n .z (.n .z (.n (.n .z (.n (.loop pR pS pT) .z)) (.n (.n .z (.n (.loop pN pP pQ) .z)) .z)))) [.h cE,.h jr8] [] (bg [lm] t9) true true [900]
def eH:Nat->Int×DQ->mf:=mF iq uz
def mY:CO:=cF iq uz eH func45
def yu N m n l f i a:dS N (m+1) (n,l,f,i,a)=cond (i<(length l:Int))
 (aW (aZ l i) λb=>
  aW (aZ l i) λc=>
  cond (b.1<0)
   ((dS N m (n,l,f,(wZ (i+1)),a)))
   (cond (c.2<0)
    ((dS N m (n,l,f,(wZ (i+1)),a)))
    (cond (n<=b.1)
     ((dS N m (n,l,f,(wZ (i+1)),a)))
     (cond (n<=c.2)
      ((dS N m (n,l,f,(wZ (i+1)),a)))
      (aW (aZ a b.1) λq=>
       aW (aZ a b.1) λg=>
       aW (aZ a c.2) λr=>
       aW (aZ a c.2) λh=>
       cond (g=h)
        ((dS N m (n,l,f,(wZ (i+1)),a)))
        (aW (aZ a b.1) λs=>
         aW (aZ a b.1) λe=>
         aW (aZ a c.2) λt=>
         aW (aZ a c.2) λd=>
         aW (aZ a b.1) λj=>
         aW (aZ a b.1) λk=>
         aW (aZ (List.set a (Int.toNat b.1) (if(d<e)then d else e)) c.2) λo=>
         aW (aZ (List.set a (Int.toNat b.1) (if(d<e)then d else e)) c.2) λp=>
         (dS N m (n,l,true,(wZ (i+1)),(List.set (List.set a (Int.toNat b.1) (if(d<e)then d else e)) (Int.toNat c.2) (if(d<e)then d else e))))))))))
 (some (n,l,f,a)):=ci
def nz N m n l c b:iK N (m+1) (n,l,c,b)=cond c
 (aW (dS N N (n,l,false,0,b)) λa=>
  (iK N m (a.1,a.2.1,a.2.2.1,a.2.2.2)))
 (some b):=ci
def yv N m n l v a:iL N (m+1) (n,l,v,a)=cond (v<n)
 (aW (eG 8 a [v]) λb=>
  (iL N m (n,l,(wZ (v+1)),b)))
 (some (n,l,a)):=ci
def Aw N n l:eH (N+1) (n,l)=aW (iL N N (n,l,0,[])) λa=>
 aW (iK N N (a.1,a.2.1,true,a.2.2)) λb=>
 some b:=ci
def jV:Do CO:=[Gm,mY]
def akm:Nat×PV:=(7,.h cE)
def atm:Do PV:=[.h cE,.h jo]
def ip:Nat×PO:=(900,.box 32 atm)
def UV:Nat×PO:=(901,.arr 52 PJ true)
def atj:Nat×PO:=(902,.arr 3 cE true)
def uA:PS:=bg [ii,v0,(6,.k (.ow 902)),akm,aqi] [ip,UV,atj]
def uB:Do (IR×PS):=[((.exit 2),bg [ii,v0,akm] [ip,UV])]
def uC:Pl:=.z
def ir:Nat->Nat->Int×Int×Int×yj×DQ×aX->At (Int×Int×yj×DQ):=fx jV f44 [1,1,1,1,1,1,0,1,0,0] uA uB uC
def ap0:Do PV:=[.h cE,.h cE,.h cE,.h .b]
def uD:PS:=bg [ii,(3,.k (.ow 902)),aea,apu] [ip,(902,.arr 52 PJ true),(901,.box 134 ap0)]
def uE:Do (IR×PS):=[(.ret,bg lc []),(.normal,bg [ii,v0,aea,(5,.k (.pt 902 0))] [ip,UV,(902,.box 134 ap0)])]
def uF:Pl:=.z
def uG:Nat->Nat->Int×Int×yj×DQ×Int×Int×Int×In->At ((In)⊕(Int×Int×yj×DQ×Int×Int×Int×In)):=jnF jV f44 [1,1,1,0,1,0,0,1,0,0,1,1,0] uD uE uF
def uH:PS:=bg [ii,v0,aea] [ip,UV]
def uI:Do (IR×PS):=[((.exit 0),bg [ii,v0] [ip,UV]),(.ret,bg lc [])]
def uJ:Pl:=(.n .z (.n (.n (.n .z (.n .z (.n (.join uD uE uF) .z))) .z) .z))
def eI:Nat->Nat->Int×Int×yj×DQ->At ((Int×yj×DQ)⊕(In)):=fx jV f44 [1,1,1,0,1,0,0] uH uI uJ
def So:Do PV:=[.ag atm]
def zr:FD:=cL 44 f44 (.n .z (.n .z (.n .z (.n (.n .z (.n (.loop uH uI uJ) .z)) (.n .z (.n .z (.n (.n .z (.n (.loop uA uB uC) .z)) .z))))))) So [] (bg lc []) false true []
def jW:Nat->Int×yj->eu:=mF jV zr
def zt:CO:=cF jV zr jW func44
def DK N m a v g b d c:ir N (m+1) (a,v,g,b,d,c)=cond (v<g)
 (aW (aZ c v) λf=>
  aW (aZ c v) λe=>
  cond (e=v)
   ((ir N m ((wZ (a+1)),(wZ (v+1)),g,b,d,c)))
   ((ir N m (a,(wZ (v+1)),g,b,d,c))))
 (some (a,g,b,d)):=ci
def DL N m i g a e t b c d:uG N (m+1) (i,g,a,e,t,b,c,d)=cond (0<i)
 (aW (aZ a (wZ (i - 1))) λf=>
  cond (t<f.1)
   (some (.inl false))
   (aW (aZ a (wZ (i - 1))) λh=>
    cond (h.1=t)
     (aW (aZ a (wZ (i - 1))) λj=>
      cond (b<=j.2.1)
       (some (.inl false))
       (some (.inr (i,g,a,e,t,b,c,d))))
     (some (.inr (i,g,a,e,t,b,c,d)))))
 (some (.inr (i,g,a,e,t,b,c,d))):=ci
def pU N m i g c d:eI N (m+1) (i,g,c,d)=cond (i<(length c:Int))
 (aW (aZ c i) λb=>
  cond (b.1<0)
   (some (.inr false))
   (cond (b.2.1<=b.1)
    (some (.inr false))
    (cond (g<=b.2.1)
     (some (.inr false))
     (cond (b.2.2.1<0)
      (some (.inr false))
      (aW (mJ N g) λe=>
       cond (e<b.2.2.1)
        (some (.inr false))
        (aW (uG N N (i,g,c,d,b.1,b.2.1,b.2.2.1,b.2.2.2)) λf=>
         (match f with
         |.inl j=>some (.inr j)
         |.inr a=>cond a.2.2.2.2.2.2.2
          (aW (eG 16 a.2.2.2.1 [(a.2.2.2.2.1,a.2.2.2.2.2.1)]) λh=>
           (eI N m ((wZ (a.1+1)),a.2.1,a.2.2.1,h)))
          ((eI N m ((wZ (a.1+1)),a.2.1,a.2.2.1,a.2.2.2.1))))))))))
 (some (.inl (g,c,d))):=ci
def EX N g b:jW (N+1) (g,b)=cond (g<1)
 (some false)
 (cond (64<g)
  (some false)
  (cond (400<(length b:Int))
   (some false)
   (aW (eI N N (0,g,b,[])) λd=>
    (match d with
    |.inl a=>aW (eH N (a.1,a.2.2)) λe=>
     aW (ir N N (0,0,a.1,a.2.1,a.2.2,e)) λc=>
     some (decide (c.1=(wZ (c.2.1 - (length c.2.2.2:Int)))))
    |.inr f=>some f)))):=ci
def qW:Do CO:=[zt]
def uK:PS:=bg [ii,v0,aea] [ip,UV]
def amn:Do (Nat×PO):=[(900,.arr 52 PJ true)]
def uL:Do (IR×PS):=[((.exit 0),bg [up] amn)]
def uM:Pl:=.z
def jX:Nat->Nat->Int×Int×yj×DQ->At (DQ):=fx qW f46 [1,1,1,0,1,0,0] uK uL uM
def zu:FD:=cL 46 f46 (.n .z (.n .z (.n .z (.n (.n .z (.n (.loop uK uL uM) .z)) .z)))) So [] (bg [m2] amn) true true [900]
def l9:Nat->Int×yj->At (DQ):=mF qW zu
def K9:CO:=cF qW zu l9 func46
def pV N m i g a b:jX N (m+1) (i,g,a,b)=cond (i<(length a:Int))
 (aW (aZ a i) λc=>
  aW (aZ a i) λd=>
  aW (eG 16 b [(c.1,d.2.1)]) λe=>
  (jX N m ((wZ (i+1)),g,a,e)))
 (some b):=ci
def EY N g a:l9 (N+1) (g,a)=aW (jW N (g,a)) λb=>
 cond (!b)
  (some [])
  (aW (jX N N (0,g,a,[])) λc=>
   some c):=ci
def qX:Do CO:=[]
def uN:PS:=bg [(1,.h cE),i9,anj,ake] [ip,UV]
def uO:Do (IR×PS):=[((.exit 0),bg [m8] amn)]
def uP:Pl:=.z
def f_:Nat->Nat->Int×Int×Int×yj×DQ->At (DQ):=fx qX f47 [1,1,0,1,0,0] uN uO uP
def zw:FD:=cL 47 f47 (.n .z (.n .z (.n (.n .z (.n (.loop uN uO uP) .z)) .z))) [.ag atm,.h cE] [] (bg [lm] amn) true true [900]
def iA:Nat->Int×yj×Int->At (DQ):=mF qX zw
def zx:CO:=cF qX zw iA func47
def pW N m b i g a c:f_ N (m+1) (b,i,g,a,c)=cond (i<(length a:Int))
 (aW (aZ a i) λd=>
  cond d.2.2.2
   (aW (aZ a i) λe=>
    cond (b<=e.2.2.1)
     (aW (aZ a i) λf=>
      aW (aZ a i) λh=>
      aW (eG 16 c [(f.1,h.2.1)]) λj=>
      (f_ N m (b,(wZ (i+1)),g,a,j)))
     ((f_ N m (b,(wZ (i+1)),g,a,c))))
   ((f_ N m (b,(wZ (i+1)),g,a,c))))
 (some c):=ci
def EZ N g a b:iA (N+1) (g,a,b)=aW (f_ N N (b,0,g,a,[])) λc=>
 some c:=ci
def mZ:Do CO:=[zx,mY]
def atk:Nat×PO:=(901,.arr 3 cE true)
def pX:PS:=bg [(1,.h cE),Or,am9,(8,.k (.ow 902)),(9,.h cE)] [ip,atk,atj]
def pY:Do (IR×PS):=[((.exit 0),bg [n9] t9)]
def pZ:Pl:=.z
def gB:Nat->Nat->Int×Int×Int×yj×aX×aX->mf:=fx mZ f49 [1,1,1,0,1,0,0] pX pY pZ
def uQ:FD:=cL 49 f49 (.n .z (.n .z (.n .z (.n (.n .z (.n (.loop pX pY pZ) .z)) .z)))) [.ag atm,.h cE,.h cE] [] (bg [nl] t9) true true [900]
def jY:Nat->Int×yj×Int×Int->mf:=mF mZ uQ
def GH:CO:=cF mZ uQ jY func49
def nA N m v u g b c a:gB N (m+1) (v,u,g,b,c,a)=cond (u<g)
 (aW (aZ c u) λh=>
  aW (aZ c u) λd=>
  aW (aZ c v) λi=>
  aW (aZ c v) λe=>
  cond (d=e)
   (aW (eG 8 a [u]) λf=>
    (gB N m (v,(wZ (u+1)),g,b,c,f)))
   ((gB N m (v,(wZ (u+1)),g,b,c,a))))
 (some a):=ci
def Ax N g a v b:jY (N+1) (g,a,v,b)=aW (iA N (g,a,b)) λc=>
 aW (eH N (g,c)) λd=>
 aW (gB N N (v,0,g,a,d,[])) λe=>
 some e:=ci
def iB:Do CO:=[zt,K9,mY,zx,Gm,GH]
def uR:PS:=bg [ii,ake,akm,(11,.h cE)] [ip]
def uS:Do (IR×PS):=[((.exit 6),bg [ii,ake,akm] [ip]),(.ret,bg lc [])]
def uT:Pl:=.z
def jZ:Nat->Nat->Int×Int×Int×Int×yj->At ((Int×Int×Int×yj)⊕(In)):=fx iB f9 [1,1,1,1,1,1,0,1,0,0,1,0,0,1,1,0,1,0,0] uR uS uT
def uU:PS:=bg [ii,ake,akm,(8,.k (.ow 901)),(9,.h cE)] [ip,atk]
def uV:Do (IR×PS):=[((.exit 4),bg [ii,ake,akm] [ip]),(.ret,bg lc [])]
def uW:Pl:=.z
def ga:Nat->Nat->Int×Int×Int×Int×yj×aX->At ((Int×Int×Int×yj)⊕(In)):=fx iB f9 [1,1,1,1,1,1,0,1,0,0,1,0,0,1,0,1,0,0] uU uV uW
def uX:PS:=bg [ii,ake,akm] [ip]
def uY:Do (IR×PS):=[((.exit 2),bg [] []),(.ret,bg lc [])]
def uZ:Pl:=(.n .z (.n (.n (.n .z (.n (.n .z (.n (.loop uU uV uW) .z)) (.n (.n .z (.n (.loop uR uS uT) .z)) .z))) .z) .z))
def j0:Nat->Nat->Int×Int×Int×yj->At ((Unit)⊕(In)):=fx iB f9 [1,1,1,1,1,1,0,1,0,0] uX uY uZ
def u0:PS:=bg [ii,v0,(4,.k (.ow 902)),(5,.h cE)] [ip,atk,atj]
def u4:Do (IR×PS):=[((.exit 0),bg [ii] [ip]),(.ret,bg lc [])]
def u5:Pl:=.z
def j_:Nat->Nat->Int×Int×yj×aX×aX->At ((Int×yj)⊕(In)):=fx iB f9 [1,1,1,1,0,1,0,0] u0 u4 u5
def zy:FD:=cL 9 f9 (.n .z (.n .z (.n .z (.n .z (.n (.n .z (.n (.loop u0 u4 u5) .z)) (.n .z (.n (.n .z (.n (.loop uX uY uZ) .z)) .z))))))) So [] (bg lc []) false true []
def l_:Nat->Int×yj->eu:=mF iB zy
def K_:CO:=cF iB zy l_ func9
def p6 N m a k v g b:jZ N (m+1) (a,k,v,g,b)=cond (v<g)
 (aW (jY N (g,b,v,k)) λc=>
  cond ((if(a>1)then a else 1)<(length c:Int))
   (some (.inr false))
   ((jZ N m (a,k,(wZ (v+1)),g,b))))
 (some (.inl (a,k,g,b))):=ci
def p_ N m d k i g a c:ga N (m+1) (d,k,i,g,a,c)=cond (i<(length a:Int))
 (aW (aZ a i) λb=>
  cond (!b.2.2.2)
   (cond (b.2.2.1=k)
    (aW (aZ c b.1) λh=>
     aW (aZ c b.1) λe=>
     aW (aZ c b.2.1) λj=>
     aW (aZ c b.2.1) λf=>
     cond (!(e=f))
      (some (.inr false))
      ((ga N m (d,k,(wZ (i+1)),g,a,c))))
    ((ga N m (d,k,(wZ (i+1)),g,a,c))))
   ((ga N m (d,k,(wZ (i+1)),g,a,c))))
 (some (.inl (d,k,g,a))):=ci
def qa N m d k g c:j0 N (m+1) (d,k,g,c)=aW (mJ N g) λe=>
 cond (k<=e)
  (aW (iA N (g,c,k)) λf=>
   aW (eH N (g,f)) λh=>
   aW (ga N N (d,k,0,g,c,h)) λi=>
   (match i with
   |.inl a=>aW (jZ N N (a.1,a.2.1,0,a.2.2.1,a.2.2.2)) λj=>
    (match j with
    |.inl b=>(j0 N m ((wZ (Int.tdiv b.1 2)),(wZ (b.2.1+1)),b.2.2.1,b.2.2.2))
    |.inr l=>some (.inr l))
   |.inr n=>some (.inr n)))
  (some (.inl ())):=ci
def qb N m v g b all a:j_ N (m+1) (v,g,b,all,a)=cond (v<g)
 (aW (aZ all v) λe=>
  aW (aZ all v) λc=>
  aW (aZ a v) λf=>
  aW (aZ a v) λd=>
  cond (!(c=d))
   (some (.inr false))
   ((j_ N m ((wZ (v+1)),g,b,all,a))))
 (some (.inl (g,b))):=ci
def E1 N g a:l_ (N+1) (g,a)=aW (jW N (g,a)) λc=>
 cond (!c)
  (some false)
  (aW (l9 N (g,a)) λd=>
   aW (eH N (g,d)) λe=>
   aW (iA N (g,a,0)) λf=>
   aW (eH N (g,f)) λh=>
   aW (j_ N N (0,g,a,e,h)) λi=>
   (match i with
   |.inl b=>aW (j0 N N (b.1,0,b.1,b.2)) λj=>
    (match j with
    |.inl m=>some true
    |.inr k=>some k)
   |.inr l=>some l)):=ci
def tT:Do CO:=[am3]
def xx:PS:=bg [akm,aqi,(17,.k (.ow 900)),(18,.h cE),(19,.h cE)] t9
def xy:Do (IR×PS):=[((.exit 0),bg [akm,aqi] [])]
def xz:Pl:=.z
def jf:Nat->Nat->Int×Int×Int×Int×aX->KQ:=fx tT f109 [1,1,1,0,1,0,0] xx xy xz
def DM:FD:=cL 109 f109 (.n .z (.n .z (.n .z (.n (.n .z (.n (.loop xx xy xz) .z)) .z)))) [.h cE,.h jr8] [] (bg [aea,(5,.h cE)] []) false true []
def tU:Nat->Int×DQ->KQ:=mF tT DM
def Pz:CO:=cF tT DM tU func109
def E2 N m e k c a b:jf N (m+1) (e,k,c,a,b)=cond (a<c)
 (aW (aZ b a) λf=>
  aW (aZ b a) λd=>
  cond (d=a)
   ((jf N m (e,(wZ (k+1)),c,(wZ (a+1)),b)))
   ((jf N m (e,k,c,(wZ (a+1)),b))))
 (some (e,k)):=ci
def GI N n l:tU (N+1) (n,l)=aW (Ts N (n,l)) λa=>
 aW (jf N N (a.1,0,(length a.2:Int),0,a.2)) λb=>
 some (b.2,b.1):=ci
def r8:Do CO:=[Z1,Z0,Pz]
def r9:FD:=cL 50 f50 .z So [] (bg lc []) false true []
def jr:Nat->Int×yj->eu:=mF r8 r9
def E3:CO:=cF r8 r9 jr func50
def yw N g a:jr (N+1) (g,a)=aW (Jq N (g,a,0)) λb=>
 cond (!(b.1=0))
  (some false)
  (aW (Jk N (g,a)) λc=>
   aW (tU N (g,c)) λd=>
   some (decide ((length b.2.2:Int)=d.1))):=ci
def m_:Do CO:=[VV,Z1]
def amx:Nat×PO:=(901,.arr 83 yt true)
def qc:PS:=bg [ii,v0,aea] [ip,amx]
def as8:Nat×PO:=(900,.arr 83 yt true)
def qd:Do (IR×PS):=[((.exit 0),bg [up] [as8]),(.ret,bg [(2,.k .nil)] [])]
def qe:Pl:=.z
def iM:Nat->Nat->Int×Int×yj×UT->At ((UT)⊕(Unit)):=fx m_ f110 [1,1,0,1,0,0] qc qd qe
def u9:FD:=cL 110 f110 (.n .z (.n .z (.n (.n .z (.n (.loop qc qd qe) .z)) .z))) So [] (bg [m2] [as8]) true false [900]
def iu:Nat->Int×yj->At (UT):=mF m_ u9
def u_:CO:=cF m_ u9 iu func110
def nB N m k g a l:iM N (m+1) (k,g,a,l)=aW (Ek N g) λc=>
 cond (k<=c)
  (aW (Jq N (g,a,k)) λb=>
   cond (!(b.1=0))
    (some (.inr ()))
    (aW (eG 32 l [(b.2.1,b.2.2)]) λd=>
     (iM N m ((wZ (k+1)),g,a,d))))
  (some (.inl l)):=ci
def Ay N g a:iu (N+1) (g,a)=aW (iM N N (0,g,a,[])) λb=>
 (match b with
 |.inl c=>some c
 |.inr d=>some []):=ci
def oR:Do CO:=[Ru,Ow]
def oS:FD:=cL 113 f113 .z [.ag [.h cE,.h jr9],.h cE,.h cE] [] (bg [ap3,akm] []) false true []
def ia:Nat->Int×Ar3×Int×Int->At (In×Int):=mF oR oS
def Az:CO:=cF oR oS ia func113
def vk N f a u v:ia (N+1) (f,a,u,v)=aW (Fy N (f,a,[u,v])) λb=>
 cond (!(b=0))
  (some (false,b))
  (aW (wH N (f,a,u)) λc=>
   aW (wH N (f,a,v)) λd=>
   some ((decide (c=d)),0)):=ci
def oT:Do CO:=[Az]
def ast:Nat×PO:=(4294967296,.box 209 [.k (.ow 4294967297)])
def g9:Do (Nat×PO):=[ast,(4294967297,.arr 83 yt true)]
def oU:FD:=cL 112 f112 .z [.ag ap0,.k (.pt 4294967296 0)] g9 (bg [apa] [(4294967297,.arr 83 yt true),ast]) true false [4294967297,4294967296]
def ku:Nat->Int×Int×Int×In×UT->At (In×UT):=mF oT oU
def AA:CO:=cF oT oU ku func112
def vl N t b a c h:ku (N+1) (t,b,a,c,h)=aW (aZ h a) λf=>
 aW (aZ h a) λd=>
 aW (ia N (d.1,d.2,t,b)) λe=>
 cond (!c)
  (some ((!e.1),h))
  (some (false,h)):=ci
def b9:Do CO:=[AA]
def de:PS:=bg [(0,.h jo),(1,.cl (.func 112) [] li),akm,aqi] g9
def dg:Do (IR×PS):=[((.exit 0),bg [] g9),(.ret,bg [aea] g9)]
def dh:Pl:=.z
def bD:Nat->Nat->yj×Int×Int×UT->At ((UT)⊕(Int×UT)):=fx b9 f178 [1,0,1,0,0] de dg dh
def aua:Do PV:=[.h jo,.cl (.func 112) [] li]
def dx:FD:=cL 178 f178 (.n .z (.n (.n .z (.n (.loop de dg dh) .z)) .z)) aua g9 (bg [aea] g9) true false [4294967296,4294967297]
def b_:Nat->yj×UT->At (Int×UT):=mF b9 dx
def fu:CO:=cF b9 dx b_ func178
def c5 N m s d a c:bD N (m+1) (s,d,a,c)=cond (a<d)
 (aW (aZ s a) λb=>
  aW (ku N (b.1,b.2.1,b.2.2.1,b.2.2.2,c)) λe=>
  cond e.1
   (some (.inr (a,e.2)))
   ((bD N m (s,d,(wZ (a+1)),e.2))))
 (some (.inl c)):=ci
def fa N s h:b_ (N+1) (s,h)=aW (bD N N (s,(length s:Int),0,h)) λb=>
 (match b with
 |.inl c=>some ((-1),c)
 |.inr a=>some (a.1,a.2)):=ci
def c6:Do CO:=[fu]
def c8:FD:=cL 111 f111 .z aua g9 (bg n7 g9) true false [4294967296,4294967297]
def bV:Nat->yj×UT->At (In×UT):=mF c6 c8
def fb:CO:=cF c6 c8 bV func111
def e5 N s h:bV (N+1) (s,h)=aW (b_ N (s,h)) λa=>
 some ((decide (0<=a.1)),a.2):=ci
def zA:Do CO:=[u_,fb]
def zB:FD:=cL 51 f51 .z So [] (bg lc []) false true []
def mb:Nat->Int×yj->eu:=mF zA zB
def La:CO:=cF zA zB mb func51
def E4 N g a:mb (N+1) (g,a)=aW (iu N (g,a)) λb=>
 cond ((length b:Int)=0)
  (some false)
  (aW (bV N (a,b)) λc=>
   some (!c.1)):=ci
def zC:Do CO:=[Ru,Ow]
def zD:FD:=cL 23 f23 .z [.ag [.h cE,.h jr9],.h cE] [] (bg [aea,(5,.h cE)] []) false true []
def mc:Nat->Int×Ar3×Int->KQ:=mF zC zD
def Lb:CO:=cF zC zD mc func23
def E7 N f a v:mc (N+1) (f,a,v)=aW (Fy N (f,a,[v])) λb=>
 cond (!(b=0))
  (some (0,b))
  (aW (wH N (f,a,v)) λc=>
   aW (aZ a c) λd=>
   some ((wZ (Int.tdiv (wZ ((length d:Int)+2)) 3)),0)):=ci
def ke:Do CO:=[u_,Lb]
def at5:Nat×PV:=(11,.k (.ow 901))
def qf:PS:=bg [ii,v0,aea,(5,.k (.pt 902 0)),at5,(12,.h cE),(13,.h cE),(19,.h cE),(20,.h cE)] [ip,amx,(902,.box 83 [.h cE,.h jr9])]
def qg:Do (IR×PS):=[((.exit 2),bg [ii,v0,at5,(12,.h cE),(13,.h cE)] [ip,amx]),(.ret,bg lc [])]
def qh:Pl:=.z
def iN:Nat->Nat->Int×Int×Int×Int×Int×Int×yj×UT×Int×Ar3->At ((Int×Int×Int×yj×UT)⊕(In)):=fx ke f52 [1,1,0,1,0,0,1,1,0,0,1,1,0,0] qf qg qh
def qi:PS:=bg [ii,v0,at5,(12,.h cE),(13,.h cE)] [ip,amx]
def qj:Do (IR×PS):=[((.exit 0),bg [up] [as8]),(.ret,bg lc [])]
def qk:Pl:=(.n .z (.n .z (.n (.n (.n .z (.n .z (.n (.loop qf qg qh) .z))) .z) .z)))
def iO:Nat->Nat->Int×Int×Int×yj×UT->At ((UT)⊕(In)):=fx ke f52 [1,1,0,1,0,0] qi qj qk
def va:FD:=cL 52 f52 (.n .z (.n .z (.n (.n .z (.n (.loop qi qj qk) .z)) .z))) So [] (bg lc []) false true []
def kf:Nat->Int×yj->eu:=mF ke va
def GJ:CO:=cF ke va kf func52
def nC N m k d e h a g c l f b:iN N (m+1) (k,d,e,h,a,g,c,l,f,b)=cond (a<h)
 (aW (mc N (f,b,a)) λj=>
  aW (Qh .i64 g (wrap .u64 k)) λi=>
  cond ((if(i>1)then i else 1)<j.1)
   (some (.inr false))
   ((iN N m (k,d,e,h,(wZ (a+1)),g,c,l,f,b))))
 (some (.inl (d,e,g,c,l))):=ci
def nD N m c a g d l:iO N (m+1) (c,a,g,d,l)=cond (a<c)
 (aW (aZ l a) λi=>
  aW (aZ l a) λe=>
  aW (iN N N (a,c,a,g,0,g,d,l,e.1,e.2)) λf=>
  (match f with
  |.inl b=>(iO N m (b.1,(wZ (b.2.1+1)),b.2.2.1,b.2.2.2.1,b.2.2.2.2))
  |.inr h=>some (.inr h)))
 (some (.inl l)):=ci
def AB N g a:kf (N+1) (g,a)=aW (iu N (g,a)) λb=>
 aW (iO N N ((length b:Int),0,g,a,b)) λc=>
 (match c with
 |.inl d=>some (decide (0<(length d:Int)))
 |.inr e=>some e):=ci
def zF:Do CO:=[E3,La,GJ]
def zG:FD:=cL 10 f10 .z So [] (bg lc []) false true []
def me:Nat->Int×yj->eu:=mF zF zG
def Lc:CO:=cF zF zG me func10
def E8 N g a:me (N+1) (g,a)=aW (jr N (g,a)) λb=>
 cond b
  (aW (mb N (g,a)) λc=>
   cond c
    (aW (kf N (g,a)) λd=>
     some d)
    (some false))
  (some false):=ci
def lY:Do CO:=[W9,UJ,UK,Kz,Py,K_,Lc]
def oV:PS:=bg [atn,aj4,(8,.k (.ow 902)),(11,.h cE)] [(900,.box 27 akx),(901,.box 34 [.h cE,.h jo,.h cE,.h cE]),(902,.arr 48 ajK true)]
def oW:Do (IR×PS):=[((.exit 0),bg [] []),(.ret,bg [ap3] [])]
def oX:Pl:=.z
def ib:Nat->Nat->Int×Int×Int×Int×Int×DQ×Int×yj×Int×Int×(Do Ar7)->At ((Unit)⊕(In)):=fx lY Tryz.f3 [1,1,1,1,0,1,0,0] oV oW oX
def r_:FD:=cL 3 Tryz.f3 (.n .z (.n .z (.n .z (.n .z (.n (.n .z (.n (.loop oV oW oX) .z)) .z))))) [.h jr2,.h jr6,.ag akx] [] (bg [ap3] []) false true []
def js:Nat->Int×aX×Int×Int×Int×Int×DQ->eu:=mF lY r_
def lZ:CO:=cF lY r_ js azR
def mK N m i w c d e f s h j k b:ib N (m+1) (i,w,c,d,e,f,s,h,j,k,b)=cond (i<(length b:Int))
 (aW (aZ b i) λo=>
  aW (aZ b i) λg=>
  aW (tR N (s,h,j,k,g.1,g.2.1,g.2.2,w,c,d,e,f)) λa=>
  aW (l_ N (a.1,a.2.1)) λl=>
  cond (!l)
   (some (.inr false))
   (aW (me N (a.1,a.2.1)) λn=>
    cond (!n)
     (some (.inr false))
     ((ib N m ((wZ (i+1)),w,c,d,e,f,a.1,a.2.1,a.2.2.1,a.2.2.2.1,b)))))
 (some (.inl ())):=ci
def yx N n b w a c d e:js (N+1) (n,b,w,a,c,d,e)=aW (As N (b,w,a,c,d,e)) λg=>
 cond g
  (some true)
  (aW (pJ N n) λf=>
   aW (lx N b) λh=>
   aW (ib N N (0,w,a,c,d,e,f.1,[],f.2.1,f.2.2,h.2.2)) λi=>
   (match i with
   |.inl k=>some true
   |.inr j=>some j)):=ci
variable{a c:Nat}
section
variable{n:Nat}{ts jl:Do bm}{fg:bh}
def fe.snoc{l:bu}{e:Nat×Nat}(h:fe n l)(b:e.1<n)(c:e.2<n):fe n (l++[e]):=λd a=>by
 rcases awc.1 a with a|a
 .exact h d a
 .rw[awq.1 a];exact⟨b,c⟩
def ajL:∀(l p q:bu),fe n p->fe n l->fe n q->Ac n q->(∀x y,x<n->y<n->(Jd q x y↔Jd p x y))->Ac n (q++cQ p l)/\∀x y,x<n->y<n->(Jd (q++cQ p l) x y↔Jd (p++l) x y)
 |[],p,q,o,t,r,i,j=>by
  rw[cQ,awN,awN];exact⟨i,j⟩
 |e::l,p,q,o,t,r,i,j=>by
  have g:=t e d5;have w:fe n l:=λd f=>t d (by simp[f]);have A:=o.snoc g.1 g.2;have B:∀{a b:bu},fe n a->(∀x y,x<n->y<n->Jd a x y->Jd b x y)->∀x y:Nat,Jd (a++[e]) x y->Jd (b++[e]) x y:=λi C x y h=>h.mono λd f=>by
   rcases awc.1 f with f|f
   .exact(C _ _ (i d f).1 (i d f).2 (Jd.ed f)).sub λz u=>by simp[u]
   .rw[awq.1 f];exact Jd.ed d5
  rw[cQ,show p++e::l=(p++[e])++l by simp];by_cases c:jI p e=true
  .rw[av3 c,show q++e::cQ (p++[e]) l=(q++[e])++cQ (p++[e]) l by simp]
   have s:¬Jd p e.1 e.2:=λh=>by
    have:=(ll o g.1 g.2).1 h;simp[jI,this]at c
   have D:=r.snoc g.1 g.2;have v:fe n (e::q):=λd f=>by
    rcases awr.1 f with rfl|f
    .exact g
    .exact r d f
   refine ajL l (p++[e]) (q++[e]) A w D (Ac.perm v ((O1 v).2 ⟨i,λh=>s ((j _ _ g.1 g.2).1 h)⟩) (List.perm_append_singleton e q).symm) λx y k m=>⟨B r (λx y k m=>(j x y k m).1) x y,B o (λx y k m=>(j x y k m).2) x y⟩
  .rw[av2 c]
   have s:Jd p e.1 e.2:=(ll o g.1 g.2).2 (by simpa[jI]using c);refine ajL l (p++[e]) q A w r i λx y k m=>⟨λh=>((j x y k m).1 h).sub λz u=>by simp[u],λh=>(j x y k m).2 (h.mono λd f=>?_)⟩;rcases awc.1 f with f|f
   .exact Jd.ed f
   .rw[awq.1 f];exact s
def UL(h:GR n ts)(f:∀e∈fg,0<=e.1/\e.1<e.2/\e.2<(n:Int)):w_ n ts fg=ff (TK ts 0) (fg.map jd):=by
 have d:fe n (fg.map jd):=λe g=>by
  obtain⟨x,a,rfl⟩:=awe.1 g;have:=f x a;exact⟨by show x.1.toNat<n;omega,by show x.2.toNat<n;omega⟩
 have b:=lL h.tie 0;unfold w_;rw[<-ny]at b⊢;rw[Dh (h.Ag 0) d (c:=jH ((bs ts 0).map jd)) (λx a=>Du h.lo h.hi b a)];exact Di _ _
def ajM:∀(fg:bh) (p:bu),TK (Ah fg (ff p (fg.map jd))) 0=cQ p (fg.map jd)
 |[],p=>rfl
 |e::fg,p=>by
  rw[awo,ff,cQ];have a:=ajM fg (p++[jd e]);show TK ((e.1,e.2,(0:Int),jI p (jd e))::Ah fg (ff (p++[jd e]) (fg.map jd))) 0=_;rw[<-axn,qR,a,tF];by_cases c:jI p (jd e)=true
  .rw[av3 ⟨c,axx 0⟩,av3 c];rfl
  .rw[av2 (λh=>c h.1),av2 c];rfl
def KB{e:bw}{t:bm}(h:t∈Ah fg e):(t.1,t.2.1)∈fg/\t.2.2.1=0:=by
 unfold Ah at h;rw[List.mem_iff_getElem?]at h;obtain⟨i,a⟩:=h;rw[aAx]at a;cases c:fg[i]? with
 |none=>rw[c]at a;cases a
 |some x=>
  cases d:e[i]? with
  |none=>rw[c,d]at a;cases a
  |some b=>
   rw[c,d]at a;cases a;exact⟨awg c,rfl⟩
def abI{a b:Do bm}(h:a.Perm b)(k:Int):(TK a k).Perm (TK b k):=(h.filter _).map _
def apQ(h:GL n ts)(K:Hv n ts)(j:∀e∈fg,0<=e.1/\e.1<e.2/\e.2<(n:Int))(H:ts.length+fg.length<=400)(i:asi n ts (Ah fg (w_ n ts fg)) jl):GL n jl/\Hv n jl:=by
 obtain⟨a,L⟩:=h;have v:=Ai n ts fg;rw[UL a j]at i v;have d:=i.perm;have m:∀t∈jl,dM n t:=λt b=>by
  rcases awc.1 (d.mem_iff.1 b)with b|b
  .exact a.tie t b
  .obtain⟨g,p⟩:=KB b
   have:=j _ g;unfold dM;simp only at this;omega
 have q:fe n (fg.map jd):=λe c=>by
  obtain⟨x,o,rfl⟩:=awe.1 c;have:=j x o;exact⟨by show x.1.toNat<n;omega,by show x.2.toNat<n;omega⟩
 have r:=lL a.tie 0;have u:=ajL (fg.map jd) (TK ts 0) (TK ts 0) r q r ((Al a.lo a.hi a.tie).1 a.fst) λx y _ _=>axU;have l:(TK jl 0).Perm (TK ts 0++cQ (TK ts 0) (fg.map jd)):=by
  have:=abI d 0;rwa[qR,ajM]at this
 have C:Ac n (TK jl 0):=by
  refine Ac.perm (λe c=>?_) u.1 l.symm;exact lL m 0 e (l.mem_iff.2 c)
 have J:∀k:Int,∀e∈TK ts k,e∈TK jl k:=λk e c=>(abI d k).mem_iff.2 (by rw[qR];exact awc.2 (.inl c));have I:jl.length<=400:=by rw[d.length_eq,awl,J1 v];exact H
 refine⟨⟨⟨a.lo,a.hi,I,m,i.TV,(Al a.lo a.hi m).2 C⟩,λt b D=>?_⟩,λk F x o=>?_⟩
 .rcases awc.1 (d.mem_iff.1 b)with b|b
  .exact(L t b D).sub (J _)
  .obtain⟨g,p⟩:=KB b
   have w:jd (t.1,t.2.1)∈fg.map jd:=awe.2 ⟨_,g,rfl⟩;have s:=q _ w;rw[p];exact((u.2 _ _ s.1 s.2).2 (Jd.ed (awc.2 (.inr w)))).sub λe c=>l.mem_iff.2 c
 .rcases ayu k with rfl|M
  .have g:nP n (Jd (TK jl ((0:Nat):Int)) x)<=n:=by
    unfold nP;exact awH ayQ d5
   rw[Nat.pow_zero,Nat.div_one];omega
  .have G:∀e∈TK jl (k:Int),e∈TK ts (k:Int):=λe c=>by
    obtain⟨t,f,z,A,B⟩:=jL.1 c;rcases awc.1 (d.mem_iff.1 f)with f|f
    .exact jL.2 ⟨t,f,z,A,B⟩
    .have:=(KB f).2
     omega
   exact awH (tG λy _ E=>E.sub G) (K k F x o)
def amo(h:GL n ts)(l:a<n)(m:c<n):Jd ((bX ts).map jd) a c↔Jd (TK ts 0) a c:=by
 constructor
 .intro g
  refine g.mono λe f=>?_;obtain⟨d,j,rfl⟩:=awe.1 f;obtain⟨t,b,rfl⟩:=awe.1 j;have k:=h.1.tie t b;unfold dM at k;cases i:t.2.2.2 with
  |true=>exact Jd.ed (e:=eN t) (jL.2 ⟨t,b,i,bv,rfl⟩)
  |false=>exact(h.2 t b i).sub (Dp bv)
 .intro g
  refine g.sub λe f=>?_;obtain⟨t,b,_,_,rfl⟩:=jL.1 f;exact awe.2 ⟨(t.1,t.2.1),awe.2 ⟨t,b,rfl⟩,rfl⟩
def ajN(a:1<=n)(b:n<=64):GL n []/\Hv n []:=by
 have e:∀k:Int,TK [] k=[]:=λk=>rfl;refine⟨⟨⟨a,b,d5,(λt h=>by cases h),List.Pairwise.nil,(Al a b λt h=>by cases h).2 ?_⟩,λt h=>by cases h⟩,λk g x i=>?_⟩
 .unfold Ac
  rw[e];have:=Ab (n:=n) [] (λe h=>by cases h);simpa[wS,cQ]using this
 .rw[e]
  have d:nP n (Jd [] x)<=nP n (λy=>y=x):=tG λy _ c=>(c (λz=>z) λe h=>by cases h).symm;have f:nP n (λy=>y=x)<=1:=by
   refine awH (aBa (q:=λy=>y==x) λy _ h=>?_) (List.nodup_iff_count.1 azH x);have:= @awX _ (Classical.propDecidable _) h;simpa using this
  omega
end
variable{b:Do bm}{d:bh}
section
variable{n:Nat}
def UM:∀{l:aX} {T:Do Tk},l.map (dk n)=T.map some->(vt n l).length=(fq T).length
 |[],T,h=>by cases T<;>simp at h⊢<;>rfl
 |x::l,[],h=>by simp at h
 |x::l,t::T,h=>by
  simp only[awo,aw7]at h;have a:=UM h.2;obtain⟨b,d,e⟩:=x7 h.1;unfold vt fq at a⊢;rw[axa,axa];unfold ek at b;by_cases c:t.1=t.2
  .rw[av3 c]at b
   rw[av3 d7,av3 (by simp[c])];simp at a⊢;exact a
  .rw[av2 c]at b
   have f:n*(t.1+1)=n*t.1+n:=aAC n t.1;rw[av2 d7,av2 (by simp[c])];exact a
def amp{r:aX}(h:nt n r):r.length+2=3*(vt n r).length:=by
 obtain⟨T,a,b⟩:=h;have c:r.length=T.length:=by simpa using awh length a
 have d:=UM a;have e:=JP T;have f:=b.num;omega
def amq(b:1<=n)(c:n<=64)(i:fe n (d.map jd))(f:∀e∈d,l5 (n:Int) e)(g:a<n):(dc (eW n d) a).length+2=3*nP n (Jd (d.map jd) a):=by
 have h:=tB b c f;have k:=h.ring g;have j:=h.body _ k.2.2.1;have:=O4 b c i f g;unfold gL at this;rw[aAq]at this;rw[<-this];exact amp j.2.2.2
def ajO{c b:bu}(d:fe n c)(f:fe n b)(h:∀x y,x<n->y<n->(Jd c x y↔Jd b x y))(g:a<n):jH c a=jH b a:=by
 have k:∀{c b:bu},fe n c->fe n b->(∀x y,x<n->y<n->(Jd c x y↔Jd b x y))->jH b a<=jH c a:=λ{c b} d f h=>by
  have j:=qP c d;have cb:=qP b f;have q:=j.le a g;have i:jH c a<n:=bv
  have e:=(ll f i g).1 ((h _ _ i g).1 ((ll d i g).2 (j.fix a g)));have:=cb.le _ i;omega
 have o:=k d f h;have p:=k f d λx y l m=>(h x y l m).symm;omega
def apR(h:GR n b):b.length<=n*n:=by
 have d:=Da (B:=(List.range n).flatMap λa:Nat=>(List.range n).map λc:Nat=>((a:Int),(c:Int))) (nY (rN h.TV)) λx e=>by
  have:=yc h.tie x e;refine axo.2 ⟨x.1.toNat,awE.2 bv,awe.2 ⟨x.2.toNat,awE.2 bv,?_⟩⟩;exact axz (show((x.1.toNat:Nat):Int)=x.1 by omega) (show((x.2.toNat:Nat):Int)=x.2 by omega)
 rw[fB]at d;have f:((List.range n).flatMap λa:Nat=>(List.range n).map λc:Nat=>((a:Int),(c:Int))).length=n*n:=by
  rw[List.length_flatMap];simp[List.map_const',List.sum_replicate_nat]
 omega
end
section
open Go Go.RowKit Go.Sort
section
variable{n:Nat}{ts:Do bm}
def E9{l:bh}{v:Nat}(a:v<n):aZ (rI (n:Int) l) (v:Int)=some ((jH (l.map jd) v:Nat):Int):=by
 refine ba ?_;unfold rI;rw[awp,av9,axJ a];rfl
def apS(h:GR n ts):fe n ((bX ts).map jd):=by
 have:=ti (n:=(n:Int)) (l:=bX ts) bv λe a=>by
  have:=yc h.tie e a;exact⟨⟨bv,bv⟩,bv,bv⟩
 rwa[av9]at this
def Nc(h:GL n ts)(b:a<n):jH ((bX ts).map jd) a=jH (TK ts 0) a:=
 ajO (apS h.1) (lL h.1.tie 0) (λx y c d=>amo h c d) b
def AD{N:Nat}(e:Int){l:aX}(a:l.length<=100000):∀(m i k:Nat),l.length - i<m->i<=l.length->k<=i->
 jf N m (e,(k:Int),(l.length:Int),(i:Int),l)=some (e,((k+K1 i (l.drop i):Nat):Int))
 |0,i,k,h,_,_=>absurd h bv
 |m+1,i,k,f,c,d=>by
  rw[E2,cd];by_cases q:i<l.length
  .rw[av3 bv]
   obtain⟨x,b⟩:=get_at (xs:=l) (i:=i) q;simp only[ba b,ob,cd];rw[bW bv,bW bv,cN b,K1];split
   .rw[AD e a m (i+1) (k+1) bv bv bv]
    congr 3;omega
   .rw[AD e a m (i+1) k bv bv bv]
    congr 3;omega
  .rw[av2 bv,awZ bv]
   simp[K1]
def ajP(m:Fu+20<=a)(h:GL n ts):jr a ((n:Int),ts)=some true:=by
 obtain⟨a,rfl⟩:=sC a 2;have k:=bJ;have b:=h.1;have p:=b.len;have fj:∀e∈bX ts,l5 (n:Int) e:=λe g=>by
  have:=yc b.tie e g;exact⟨⟨bv,bv⟩,bv,bv⟩
 have f:wV (n:Int) (bX ts)=0:=by rw[OX b.lo b.hi,av3 fj]
 have c:=lL b.tie 0;have o:(rI (n:Int) (bX ts)).length=n:=by simp[rI]
 rw[yw,tD bv b,ob];simp only;rw[DR (by trivial),yb bv b,ob,GI,JM bv _ _ (by rw[fB];omega),f,av3 rfl,ob];simp only;have d:=AD (N:=a) 0 (l:=rI (n:Int) (bX ts)) (by have:=b.hi;omega) a 0 0 (by have:=b.hi;omega) bv bv;rw[zQ,awW,awB,TM,av9]at d;rw[d,ob,ob];have j:(eW n (bs ts 0)).length=JF n (jH ((bX ts).map jd)):=by
  rw[<-ny]at c;rw[Ui b.lo b.hi c];unfold JF;rw[ny];refine awh length (aAs λv i=>?_);rw[Nc h (awE.1 i)]
 rw[awu (by simp only;omega)]
def tV(n:Nat)(ts:Do bm):Do (Int×bP):=(List.range (gT n+1)).map λk:Nat=>((n:Int),eW n (bs ts (k:Int)))
def PA{k:Nat}(a:k<=gT n):(tV n ts)[k]? =some ((n:Int),eW n (bs ts (k:Int))):=by
 unfold tV;rw[awp,axJ bv];rfl
def Gn(j:Fu+20<=a)(h:GR n ts):iu a ((n:Int),ts)=some (tV n ts):=by
 obtain⟨a,rfl⟩:=sC a 1;have g:=bJ;have p:=yf n;have e:=MM (F:=λm k (c:Do (Int×bP))=>iM a m ((k:Int),(n:Int),ts,c)) (n:=gT n+1) (b:=.inl (tV n ts)) (I:=λk c=>c=(tV n ts).take k) (λm k c o d=>by
  have f:=PA (ts:=ts) (k:=k) (n:=n) bv;have l:c.length<=100:=by rw[d,awM];simp[tV];omega
  refine⟨_,by rw[bZ f,<-d],?_⟩;rw[nB,OZ bv h.lo h.hi,ob,eK bv,tD bv h,ob];simp only;rw[DR (by trivial),cj bv d7,ob,bW bv]) (λm c d=>by
  rw[nB,OZ bv h.lo h.hi,ob,dF bv,d,awA (by simp[tV])]) (m:=a) (i:=0) (s:=[]) bv bv d5
 rw[zQ]at e;rw[Ay,e,ob]
def ajQ{N:Nat}(g:Fu+12<=N)(h:GR n ts)(k:Int){u v:Nat}(d:u<n)(e:v<n):∃b,ia N ((n:Int),eW n (bs ts k),(u:Int),(v:Int))=some (b,0)/\(b=true↔Jd (TK ts k) u v):=by
 obtain⟨N,rfl⟩:=sC N 1;have a:=h.Ag k;have c:=lL h.tie k;rw[vk,rM bv a _ d5,av3 (by
  intro x f;simp only[awr,aAv,or_false]at f;rcases f with rfl|rfl<;>omega),ob,DR (by trivial),JX bv a d,ob,JX bv a e,ob]
 refine⟨_,rfl,?_⟩;rw[awJ,ll c d e,<-ny];rw[<-ny]at c;rw[<-Du h.lo h.hi c d,<-Du h.lo h.hi c e,<-a.same d e];omega
def ajR(j:Fu+12<=a)(h:GR n ts)(k:Int)(d:c<n):mc a ((n:Int),eW n (bs ts k),(c:Int))=some ((nP n (Jd (TK ts k) c):Int),0):=by
 obtain⟨a,rfl⟩:=sC a 1;have b:=h.Ag k;have e:=lL h.tie k;rw[<-ny]at e;have g:=amq h.lo h.hi e (g_ h.tie k) d;have f:=b.ring d;have l:=b.small.2 _ f.2.2.1;rw[ny]at g;rw[E7,rM bv b _ d5,av3 (by
  intro x i;rw[awq.1 i];omega),ob,DR (by trivial),JX bv b d,ob,ba f.1,ob,gw (x:=(((dc (eW n (bs ts k)) c).length:Nat):Int)+2) bv bv]
 rw[show(((dc (eW n (bs ts k)) c).length:Nat):Int)+2=((3*nP n (Jd (TK ts k) c):Nat):Int) by omega,show Int.tdiv ((3*nP n (Jd (TK ts k) c):Nat):Int) 3=((3*nP n (Jd (TK ts k) c)/3:Nat):Int)from rfl,Nat.mul_div_cancel_left _ bv,gw bv bv]
def ad7(z:Fu+30<=a)(h:GL n ts):mb a ((n:Int),ts)=some true:=by
 obtain⟨a,rfl⟩:=sC a 4;have y:=bJ;have c:=h.1;have A:=c.len;have f:=MM (F:=λm k (_:Unit)=>bD (a+1) m (ts,((ts.length:Nat):Int),(k:Int),tV n ts)) (n:=ts.length) (b:=.inl (tV n ts)) (I:=λ_ _=>True) (λm k s r _=>by
  obtain⟨x,j⟩:=get_at (xs:=ts) (i:=k) r;have g:=awg j;have w:=c.tie x g;unfold dM at w;have t:((x.2.2.1.toNat:Nat):Int)=x.2.2.1:=bv
  have d:=ba (PA (ts:=ts) (n:=n) (k:=x.2.2.1.toNat) bv);rw[t]at d;have l:((x.1.toNat:Nat):Int)=x.1:=bv
  have o:((x.2.1.toNat:Nat):Int)=x.2.1:=bv
  obtain⟨b,e,q⟩:=ajQ (N:=a) bv c x.2.2.1 (u:=x.1.toNat) (v:=x.2.1.toNat) bv bv;rw[l,o]at e;refine⟨(),trivial,?_⟩;rw[c5,eK bv,ba j,ob,vl,d,ob,ob];simp only;rw[e,ob,bW bv];cases p:x.2.2.2 with
  |true=>rfl
  |false=>
   obtain rfl:=q.2 (h.2 x g p);rfl) (λm s _=>by rw[c5,dF bv]) (m:=a+1) (i:=0) (s:=()) bv bv trivial
 rw[zQ]at f;rw[E4,Gn bv c,ob,dF (by simp[tV];omega),e5,fa,f,ob];rfl
def apT(e:n<=64)(d:a<=6):Qh .i64 (n:Int) (wrap .u64 (a:Int))=some ((n/2^a:Nat):Int):=by
 have b:wrap .u64 (a:Int)=(a:Int):=by simp[wZ,wrap,IntKind.bits,IntKind.signed];omega
 rw[b];unfold Qh;rw[av2 bv,av9,axj (show a<=IntKind.bits .i64 by show a<=64;omega)];have c:(2:Int)^a=((2^a:Nat):Int):=d5
 rw[c,azL _ (Int.natCast_nonneg _)];rfl
def ajS(l:Fu+30<=a)(h:GR n ts)(f:Hv n ts):kf a ((n:Int),ts)=some true:=by
 obtain⟨a,rfl⟩:=sC a 1;have j:=bJ;have e:=h.hi;have r:=yf n;have p:(tV n ts).length=gT n+1:=by simp[tV]
 have c:=MM (F:=λm k (_:Unit)=>iO a m (((tV n ts).length:Int),(k:Int),(n:Int),ts,tV n ts)) (n:=gT n+1) (b:=.inl (tV n ts)) (I:=λ_ _=>True) (λm k s o _=>by
  have g:=PA (ts:=ts) (k:=k) (n:=n) bv;have fj:=MM (F:=λm v (_:Unit)=>iN a m ((k:Int),((tV n ts).length:Int),(k:Int),(n:Int),(v:Int),(n:Int),ts,tV n ts,(n:Int),eW n (bs ts (k:Int)))) (n:=n) (b:=.inl (((tV n ts).length:Int),(k:Int),(n:Int),ts,tV n ts)) (I:=λ_ _=>True) (λm v s d _=>by
   have q:=f k bv v d;refine⟨(),trivial,?_⟩;rw[nC,eK bv,ajR bv h _ d,ob,apT e bv,ob,dF (by simp only;split<;>omega),bW bv]) (λm s _=>by rw[nC,dF bv]) (m:=a) (i:=0) (s:=()) bv bv trivial
  rw[zQ]at fj;refine⟨(),trivial,?_⟩;rw[nD,eK bv,ba g,ob,ob];simp only;rw[fj,ob];simp only;rw[bW bv]) (λm s _=>by rw[nD,dF bv]) (m:=a) (i:=0) (s:=()) bv bv trivial
 rw[zQ]at c;rw[AB,Gn bv h,ob,c,ob];simp only;rw[awu bv]
def ad8(c:Fu+40<=a)(h:GL n ts)(b:Hv n ts):me a ((n:Int),ts)=some true:=by
 obtain⟨a,rfl⟩:=sC a 1;rw[E8,ajP bv h,ob,awv,ad7 bv h,ob,awv,ajS bv h.1 b,ob]
end
end
section
open Go Go.RowKit Go.Sort
def E_(N:Nat){n:Nat}(A:n<=64){l:bu}(u:fe n l)(z:l.length<=100000):∀(m i:Nat) (k:In) (a:aX),l.length - i<m->i<=l.length->Iv n l a->
 ∃d b,dS N m ((n:Int),l.map MG,k,(i:Int),a)=some ((n:Int),l.map MG,d,b)/\Iv n l b/\((d=k/\b=a/\∀e∈l.drop i,par a e.1=par a e.2)\/(d=true/\sm b<sm a))
 |0,i,k,a,h,_,_=>absurd h bv
 |m+1,i,k,a,G,F,f=>by
  rw[yu,cd];by_cases q:i<l.length
  rotate_left
  .rw[av2 d7,awZ bv]
   exact⟨_,_,rfl,f,.inl ⟨rfl,rfl,d5⟩⟩
  rw[av3 d7];obtain⟨x,p⟩:=get_at (xs:=l) (i:=i) q;have r:=u x (awg p);have D:(l.map MG)[i]? =some (MG x):=by rw[awp,p];rfl
  have B:=f.get r.1;have C:=f.get r.2;have H:=f.len;simp only[ba D,ob,MG,cd];rw[av2 bv,av2 bv,av2 bv,av2 bv,bW bv,cN p];simp only[ba B.1,ba C.1,ob,av9];by_cases c:par a x.1=par a x.2
  .rw[av3 bv]
   obtain⟨d,b,s,t,j⟩:=E_ N A u z m (i+1) k a bv bv f;refine⟨d,b,s,t,?_⟩;rcases j with⟨g,o,w⟩|j
   .exact .inl ⟨g,o,ayN.2 ⟨c,w⟩⟩
   .exact .inr j
  .rw[av2 bv]
   have em:(if((par a x.2:Nat):Int)<((par a x.1:Nat):Int)then((par a x.2:Nat):Int)else((par a x.1:Nat):Int))=((min (par a x.1) (par a x.2):Nat):Int):=by
    split<;>omega
   rw[em];obtain⟨y,E⟩:=get_at (xs:=a.set x.1 ((min (par a x.1) (par a x.2):Nat):Int)) (i:=x.2) (by rw[axf];omega);simp only[ba E,ob];have v:=f.low (awg p) r.1 r.2 c;obtain⟨d,b,s,t,j⟩:=E_ N A u z m (i+1) true _ bv bv v.1;refine⟨d,b,s,t,.inr ?_⟩;rcases j with⟨g,o,w⟩|⟨g,o⟩
   .exact⟨g,by rw[o];exact v.2⟩
   .exact⟨g,by have:=v.2;omega⟩
def Nd(N:Nat)(i:Fu<=N){n:Nat}(k:n<=64){l:bu}(g:fe n l)(j:l.length<=100000):∀(m:Nat) (a:aX),sm a+1<m->Iv n l a->
 ∃b,iK N m ((n:Int),l.map MG,true,a)=some b/\Iv n l b/\∀e∈l,par b e.1=par b e.2
 |0,a,h,_=>absurd h bv
 |m+1,a,q,p=>by
  rw[nz];simp only[awv];obtain⟨r,b,d,f,c⟩:=E_ N k g j N 0 false a (by rw[bJ]at i;omega) bv p;rw[zQ]at d;rw[d,ob];simp only;rcases c with⟨rfl,rfl,c⟩|⟨rfl,c⟩
  .obtain⟨o,rfl⟩:∃o,m=o+1:=⟨m - 1,bv⟩
   rw[nz];exact⟨_,rfl,f,by simpa using c⟩
  .exact Nd N i k g j m b bv f
def KD(N:Nat)(l:bh){n:Nat}(b:n<=64):∀(m v:Nat) (a:aX),n - v<m->v<=n->a.length<=v->
 iL N m ((n:Int),l,(v:Int),a)=some ((n:Int),l,a++((List.range n).drop v).map λv:Nat=>(v:Int))
 |0,v,a,h,_,_=>absurd h bv
 |m+1,v,a,d,f,e=>by
  rw[yv,cd];by_cases q:v<n
  .have c:(List.range n)[v]? =some v:=axJ q
   rw[av3 bv,cj bv d7,ob,bW bv,KD N l b m (v+1) _ bv bv d7,cN c];simp
  .rw[av2 bv,awZ d7]
   simp
def nO(p:Fu+1<=a)(l:c<=64)(u:d.length<=100000)(fj:∀e∈d,l5 (c:Int) e):eH a ((c:Int),d)=some (rI (c:Int) d):=by
 obtain⟨a,rfl⟩:=sC a 1;have h:=ti (n:=(c:Int)) bv fj;rw[av9]at h;have m:=KD a d l a 0 [] (by rw[bJ]at p;omega) bv d5;rw[zQ,awW,awL]at m;rw[Aw,m,ob];simp only;have q:∀v,v<c->((List.range c).map λv:Nat=>(v:Int))[v]? =some (v:Int):=λv b=>by
  rw[awp,axJ b];rfl
 have w:∀v,v<c->par ((List.range c).map λv:Nat=>(v:Int)) v=v:=λv b=>by
  unfold par;simp only[axr,q v b,az6,av9]
 have z:Iv c (d.map jd) ((List.range c).map λv:Nat=>(v:Int)):=⟨d5,λi t=>⟨i,q i t,av5 _⟩,λf _ v b=>by rw[w v b]⟩;have B:sm ((List.range c).map λv:Nat=>(v:Int))<=64*64:=by
  have:=am8 (out:=(List.range c).map λv:Nat=>(v:Int)) (k:=64) λx A=>by
   obtain⟨v,b,rfl⟩:=awe.1 A;have:=awE.1 b;omega
  rw[awa,azC]at this;exact awH this (ax_ _ l)
 obtain⟨r,n,g,o⟩:=Nd a bv l h (by simpa using u) a _ (by rw[bJ]at p;omega) z;rw[<-OM fj]at n;rw[n,ob];have s:Cl c (d.map jd) (par r):=⟨λv b=>(g.get b).2,λv b=>g.uni (par r) o v b,o,g.uni⟩;have y:=s.uniq (qP _ h) λe=>axU;congr 1;unfold rI;rw[av9];refine axA λj=>?_;rw[awp];by_cases k:j<c
 .rw[(g.get k).1,axJ k,y j k];rfl
 .rw[awO (by have:=g.len;omega),awO d7];rfl
def lgF:Nat->Nat->Nat
 |0,_=>0
 |j+1,x=>if x=0 then 0 else lgF j (x/2)+1
def amr:∀x:Fin 64,lgF 7 x.1=gT (x.1+1):=d6
def Nf(N:Nat):∀(j m x k:Nat),x<2^j->j<m->x<=100->k+j<=100->l8 N m ((k:Int),(x:Int))=some ((k+lgF j x:Nat):Int)
 |j,0,x,k,_,h,_,_=>absurd h bv
 |0,m+1,x,k,h,_,_,_=>by
  rw[uy,dF (by simp at h;omega)];rfl
 |j+1,m+1,x,k,h,b,d,a=>by
  rw[uy,cd,lgF];by_cases c:x=0
  .rw[av2 bv,av3 c];rfl
  .rw[av3 bv,av2 c,bW bv,show wZ (Int.tdiv (x:Int) 2)=((x/2:Nat):Int) by
    rw[show Int.tdiv (x:Int) 2=((x/2:Nat):Int)from rfl,gw bv bv],Nf N j m (x/2) (k+1) (by rw[aAD]at h;omega) bv bv bv]
   congr 2;omega
def PB(e:9<=a)(b:1<=c)(d:c<=64):mJ a (c:Int)=some (gT c:Int):=by
 obtain⟨a,rfl⟩:=sC a 1;have h:=amr ⟨c - 1,bv⟩;simp only[show c - 1+1=c by omega]at h;rw[KA,dF bv,dF bv,show wZ ((c:Int) - 1)=((c - 1:Nat):Int) by rw[gw bv bv];omega,zQ.symm,Nf a 7 a (c - 1) 0 bv bv bv bv,ob,h,awB]
def UN{N:Nat}(Z:Fu+12<=N){n:Nat}(L:1<=n)(M:n<=64)(a:Do bm)(hl:a.length<=400):∃r,eI N N (((0:Nat):Int),(n:Int),a,[])=some r/\(r=.inl ((n:Int),a,bs a 0)/\(∀t∈a,dM n t)/\a.Pairwise qQ\/r=.inr false/\¬((∀t∈a,dM n t)/\a.Pairwise qQ)):=by
 have Y:=bJ;refine lp (F:=λm k (d:bh)=>eI N m ((k:Int),(n:Int),a,d)) (n:=a.length) (I:=λk d=>d=bs (a.take k) 0/\(∀t∈a.take k,dM n t)/\(a.take k).Pairwise qQ) (λm k d Q e=>?_) (λm d e=>⟨_,by rw[pU,dF bv],.inl ⟨by rw[e.1,awA (av5 _)],by rw[awA (av5 _)]at e;exact e.2⟩⟩) (m:=N) (i:=0) (s:=[]) bv bv ⟨by simp[bs],d5,d5⟩;obtain⟨C,e⟩:=e;obtain⟨x,f⟩:=get_at (xs:=a) (i:=k) Q;have R:=awg f;have a0:d.length<=400:=by
  rw[C];have:=kq (a.take k) 0;rw[awM]at this;omega
 rw[pU,eK bv,ba f,ob,PB bv L M,ob];have g:∀r:At (Int×Do bm×bh⊕In),r=some (.inr false)->¬((∀t∈a,dM n t)/\a.Pairwise qQ)->∃b,r=some b/\(b=.inl ((n:Int),a,bs a 0)/\(∀t∈a,dM n t)/\a.Pairwise qQ\/b=.inr false/\¬((∀t∈a,dM n t)/\a.Pairwise qQ)):=λr U h=>⟨_,U,.inr ⟨rfl,h⟩⟩;by_cases p:dM n x
 .obtain⟨G,H,J,u,K⟩:=p
  rw[dF bv,dF bv,dF bv,dF bv,dF bv];have P:∀t∈a.take (k+1),dM n t:=λt h=>by
   rw[bZ f]at h;rcases awc.1 h with h|h
   .exact e.1 t h
   .rw[awq.1 h];exact⟨G,H,J,u,K⟩
  have O:bs (a.take (k+1)) 0=if x.2.2.2=true then d++[(x.1,x.2.1)]else d:=by
   rw[bZ f,C];unfold bs;rw[axs,awQ,axa,azK];by_cases q:x.2.2.2=true
   .simp[q,u]
   .simp[q]
  have j:∀(z:Int×Int×Do bm×bh×Int×Int×Int×In),z=((k:Int),(n:Int),a,d,x.1,x.2.1,x.2.2.1,x.2.2.2)->(a.take (k+1)).Pairwise qQ->
   ∃E,(E=bs (a.take (k+1)) 0/\(∀t∈a.take (k+1),dM n t)/\(a.take (k+1)).Pairwise qQ)/\(cond z.2.2.2.2.2.2.2 (aW (eG (16:Nat) z.2.2.2.1 [(z.2.2.2.2.1,z.2.2.2.2.2.1)]) λW=>eI N m (wZ (z.1+1),(z.2.1,(z.2.2.1,W)))) (eI N m (wZ (z.1+1),(z.2.1,(z.2.2.1,z.2.2.2.1)))))=eI N m (((k+1:Nat):Int),(n:Int),a,E):=λz V S=>by
   subst V;refine⟨_,⟨rfl,P,S⟩,?_⟩;simp only;rw[O,cb,bW bv];split
   .rw[cj bv d7,ob]
   .rfl
  obtain⟨X,rfl⟩:=sC N 1;rw[DL,cd];rcases ayu k with B|B
  .subst B
   rw[av2 bv,ob];exact .inl (j _ rfl (by rw[bZ f];simp))
  .obtain⟨k,rfl⟩:=sC k 1
   obtain⟨y,D⟩:=get_at (xs:=a) (i:=k) bv;have o:=T3 D f e.2;have l:¬qQ y x->¬((∀t∈a,dM n t)/\a.Pairwise qQ):=λc h=>c (o.1 (h.2.sublist (aAw _ _)));rw[av3 bv,show wZ (((k+1:Nat):Int) - 1)=(k:Int) by rw[gw bv bv];omega,ba D,ob,ob,ob,cd];unfold qQ at l;by_cases v:x.1<y.1
   .rw[av3 v,ob];exact .inr (g _ rfl (l bv))
   rw[av2 v,cd];by_cases w:y.1=x.1
   .rw[av3 w,cd]
    by_cases A:x.2.1<=y.2.1
    .rw[av3 A,ob];exact .inr (g _ rfl (l bv))
    .rw[av2 A,ob]
     exact .inl (j _ rfl (o.2 (by unfold qQ;omega)))
   .rw[av2 w,ob]
    exact .inl (j _ rfl (o.2 (by unfold qQ;omega)))
 .refine .inr (g _ ?_ λh=>p (h.1 x R))
  unfold dM at p;rw[cd];split
  .rfl
  rw[cd];split
  .rfl
  rw[cd];split
  .rfl
  rw[cd];split
  .rfl
  rw[eK bv]
def Fa(N:Nat)(n:Nat)(d:n<=64)(b:Do bm)(a:bh){l:aX}(c:l.length=n):∀(m i k:Nat),n - i<m->i<=n->k<=i->
 ir N m ((k:Int),(i:Int),(n:Int),b,a,l)=some (((k+K1 i (l.drop i):Nat):Int),(n:Int),b,a)
 |0,i,k,h,_,_=>absurd h bv
 |m+1,i,k,j,f,g=>by
  rw[DK,cd];by_cases q:i<n
  .rw[av3 bv]
   obtain⟨x,e⟩:=get_at (xs:=l) (i:=i) bv;simp only[ba e,ob,cd];rw[bW bv,bW bv,cN e,K1];split
   .rw[Fa N n d b a c m (i+1) (k+1) bv bv bv]
    congr 3;omega
   .rw[Fa N n d b a c m (i+1) k bv bv bv]
    congr 3;omega
  .rw[av2 bv,awZ bv]
   simp[K1]
def Ng{N:Nat}(q:Fu+16<=N)(g:Int)(a:Do bm):∃b,jW N (g,a)=some b/\(b=true↔0<=g/\GR g.toNat a):=by
 obtain⟨N,rfl⟩:=sC N 1;have p:=bJ;rw[EX,cd];by_cases e:g<1
 .rw[av3 e];exact⟨_,rfl,λh=>(by cases h),λh=>absurd h.2.lo bv⟩
 rw[av2 e,cd];by_cases f:64<g
 .rw[av3 f];exact⟨_,rfl,λh=>(by cases h),λh=>absurd h.2.hi bv⟩
 rw[av2 f,cd];obtain⟨n,rfl⟩:=nN g;rw[av9];by_cases l:(400:Int)<((a.length:Nat):Int)
 .rw[av3 l];exact⟨_,rfl,λh=>(by cases h),λh=>absurd h.2.len bv⟩
 rw[av2 l];obtain⟨r,k,h⟩:=UN (N:=N) bv (n:=n) bv bv a bv;rw[zQ]at k;rw[k,ob];rcases h with⟨rfl,c,m⟩|⟨rfl,c⟩
 .simp only
  have s:=kq a 0;have o:(rI (n:Int) (bs a 0)).length=n:=by simp[rI]
  have j:=Fa N n bv a (bs a 0) o N 0 0 bv bv bv;rw[zQ,awW,awB,TM,av9]at j;rw[nO bv bv bv (g_ c 0),ob,j,ob];simp only;rw[gw bv bv];refine⟨_,rfl,?_⟩;have d:=Al bv bv c;unfold Ac at d;rw[<-ny,awa]at d;rw[awJ];constructor
  .intro i;exact⟨bv,bv,bv,bv,c,m,d.2 bv⟩
  .intro i;have:=d.1 i.2.fst;omega
 .exact⟨_,rfl,λh=>(by cases h),λh=>absurd ⟨h.2.tie,h.2.TV⟩ c⟩
def Fb(r:Fu+1<=a)(g:Int)(d:Do bm)(c:Int)(u:d.length<=100000):iA a (g,d,c)=some (bs d c):=by
 obtain⟨a,rfl⟩:=sC a 1;have p:=bJ;have:=MM (F:=λm k (e:bh)=>f_ a m (c,(k:Int),g,d,e)) (n:=d.length) (b:=bs d c) (I:=λk e=>e=bs (d.take k) c) (λm k e o j=>by
  obtain⟨x,l⟩:=get_at (xs:=d) (i:=k) o;have t:e.length<=100000:=by
   have:=kq (d.take k) c;rw[j];rw[awM]at this;omega
  refine⟨if x.2.2.2=true/\c<=x.2.2.1 then e++[(x.1,x.2.1)]else e,?_,?_⟩
  .rw[j,bZ l]
   unfold bs;rw[axs,awQ,axa,azK];by_cases q:x.2.2.2=true<;>by_cases f:c<=x.2.2.1<;>simp[q,f]
  .rw[pW,eK bv,ba l,ob,bW bv,cb]
   by_cases q:x.2.2.2=true
   .rw[av3 q,ob,cd]
    by_cases f:c<=x.2.2.1
    .rw[av3 f,ob,ob,cj bv d7,ob,av3 ⟨q,f⟩]
    .rw[av2 f,av2 (λh=>f h.2)]
   .rw[av2 q,av2 (λh=>q h.1)]) (λm e j=>by
  rw[pW,dF bv,j,awA (av5 _)]) (m:=a) (i:=0) (s:=[]) bv bv (by simp[bs])
 rw[zQ]at this;rw[EZ,this,ob]
def ad9(p:Fu+20<=a)(h:GR c b):l9 a ((c:Int),b)=some (bX b):=by
 obtain⟨a,rfl⟩:=sC a 1;have o:=bJ;have r:=h.len;obtain⟨d,j,l⟩:=Ng (N:=a) bv (c:Int) b;obtain rfl:=l.2 ⟨bv,by rw[av9];exact h⟩;have:=MM (F:=λm k (e:bh)=>jX a m ((k:Int),(c:Int),b,e)) (n:=b.length) (b:=bX b) (I:=λk e=>e=bX (b.take k)) (λm k e n f=>by
  obtain⟨x,g⟩:=get_at (xs:=b) (i:=k) n;have q:e.length<=400:=by rw[f,bX,awa,awM];omega
  refine⟨e++[(x.1,x.2.1)],by rw[f,bZ g];simp[bX],?_⟩;rw[pV,eK bv,ba g,ob,ob,cj bv d7,ob,bW bv]) (λm e f=>by
  rw[pV,dF bv,f,awA (av5 _)]) (m:=a) (i:=0) (s:=[]) bv bv (by simp[bX])
 rw[zQ]at this;rw[EY,j,ob];simp only[awj,av8];rw[this,ob]
def UO{N:Nat}(w:Fu+12<=N){e:Do bm}(h:GR a e)(k:Int)(n:c<a):∃o:aX,jY N ((a:Int),e,(c:Int),k)=some o/\o.length=nP a (Jd (TK e k) c):=by
 obtain⟨N,rfl⟩:=sC N 1;have v:=bJ;have y:=h.len;have r:=h.hi;have z:=kq e k;have p:=lL h.tie k;have l:=MM (F:=λm u (f:aX)=>gB N m ((c:Int),(u:Int),(a:Int),e,rI (a:Int) (bs e k),f)) (n:=a) (b:=((List.range a).filter λu=>decide (jH (TK e k) u=jH (TK e k) c)).map λu:Nat=>(u:Int)) (I:=λu f=>f=(((List.range a).take u).filter λu=>decide (jH (TK e k) u=jH (TK e k) c)).map λu:Nat=>(u:Int)) (λm u f j g=>by
  have t:(List.range a)[u]? =some u:=axJ j;have x:f.length<=a:=by
   rw[g,awa];have:=ayO (λu=>decide (jH (TK e k) u=jH (TK e k) c)) ((List.range a).take u);rw[awM,azC]at this;omega
  rw[bZ t,axs,awQ,<-g,axa,azK];refine⟨_,rfl,?_⟩;rw[nA,eK bv,E9 j,ob,ob,E9 n,ob,ob,ny,bW bv,cd];by_cases d:jH (TK e k) u=jH (TK e k) c
  .rw[av3 bv,av3 (by simpa using d),cj bv d7,ob];rfl
  .rw[av2 bv,av2 (by simpa using d)];simp) (λm f g=>by
  rw[nA,dF bv,g,awA d5]) (m:=N) (i:=0) (s:=[]) bv bv d5
 rw[zQ]at l;refine⟨_,by rw[Ax,Fb bv _ _ _ bv,ob,nO bv r bv (g_ h.tie k),ob,l,ob],?_⟩;rw[awa,MU];refine awh length (aAs λu j=>?_);have:=ll p n (awE.1 j);by_cases d:jH (TK e k) u=jH (TK e k) c
 .rw[awu d, @awu _ (Classical.propDecidable _) (this.2 d.symm)]
 .rw[awz d, @awz _ (Classical.propDecidable _) λq=>d (this.1 q).symm]
def ad_(U:Fu+40<=a)(h:GL c b)(Q:Hv c b):l_ a ((c:Int),b)=some true:=by
 obtain⟨a,rfl⟩:=sC a 1;have S:=bJ;have g:=h.1;have W:=g.len;have n:=g.hi;have Z:=yf c;obtain⟨f,G,L⟩:=Ng (N:=a) bv (c:Int) b;obtain rfl:=L.2 ⟨bv,by rw[av9];exact g⟩;have fj:∀e∈bX b,l5 (c:Int) e:=λe J=>by
  have:=yc g.tie e J;exact⟨⟨bv,bv⟩,bv,bv⟩
 have z:∀k:Int,eH a ((c:Int),bs b k)=some (rI (c:Int) (bs b k)):=λk=>by
  have:=kq b k;exact nO bv n bv (g_ g.tie k)
 have t:=MM (F:=λm v (_:Unit)=>j_ a m ((v:Int),(c:Int),b,rI (c:Int) (bX b),rI (c:Int) (bs b 0))) (n:=c) (b:=.inl ((c:Int),b)) (I:=λ_ _=>True) (λm v s j _=>by
  refine⟨(),trivial,?_⟩;rw[qb,eK bv,E9 j,ob,ob,E9 j,ob,ob,ny,Nc h j,DR rfl,bW bv]) (λm s _=>by rw[qb,dF bv]) (m:=a) (i:=0) (s:=()) bv bv trivial
 have o:=MM (F:=λm k (_:Unit)=>j0 a m (((c/2^k:Nat):Int),(k:Int),(c:Int),b)) (n:=gT c+1) (b:=.inl ()) (I:=λ_ _=>True) (λm k s V _=>by
  have N:c/2^k<=64:=awH (Nat.div_le_self _ _) n;have R:wZ (Int.tdiv ((c/2^k:Nat):Int) 2)=((c/2^(k+1):Nat):Int):=by
   rw[aAD,<-aBb];generalize c/2^k=q at N;rw[show Int.tdiv (q:Int) 2=((q/2:Nat):Int)from rfl,gw bv bv]
  have u:=MM (F:=λm i (_:Unit)=>ga a m (((c/2^k:Nat):Int),(k:Int),(i:Int),(c:Int),b,rI (c:Int) (bs b (k:Int)))) (n:=b.length) (b:=.inl (((c/2^k:Nat):Int),(k:Int),(c:Int),b)) (I:=λ_ _=>True) (λm i s M _=>by
   obtain⟨x,C⟩:=get_at (xs:=b) (i:=i) M;have B:=awg C;have P:=g.tie x B;unfold dM at P;have D:((x.1.toNat:Nat):Int)=x.1:=bv
   have E:((x.2.1.toNat:Nat):Int)=x.2.1:=bv
   have p:=E9 (l:=bs b (k:Int)) (n:=c) (v:=x.1.toNat) bv;have r:=E9 (l:=bs b (k:Int)) (n:=c) (v:=x.2.1.toNat) bv;rw[D,ny]at p;rw[E,ny]at r;refine⟨(),trivial,?_⟩;rw[p_,eK bv,ba C,ob,bW bv];cases K:x.2.2.2 with
   |true=>rfl
   |false=>
    simp only[axg,awv];rw[cd];by_cases d:x.2.2.1=(k:Int)
    .have A:=h.2 x B K
     rw[d]at A;have:=(ll (lL g.tie (k:Int)) (x:=x.1.toNat) (y:=x.2.1.toNat) bv bv).1 A;rw[av3 d,p,ob,ob,r,ob,ob,DR bv]
    .rw[av2 d]) (λm s _=>by rw[p_,dF bv]) (m:=a) (i:=0) (s:=()) bv bv trivial
  have w:=MM (F:=λm v (_:Unit)=>jZ a m (((c/2^k:Nat):Int),(k:Int),(v:Int),(c:Int),b)) (n:=c) (b:=.inl (((c/2^k:Nat):Int),(k:Int),(c:Int),b)) (I:=λ_ _=>True) (λm v s j _=>by
   obtain⟨a0,O,X⟩:=UO (N:=a) bv g (k:Int) j;have Y:=Q k bv v j;refine⟨(),trivial,?_⟩;rw[p6,eK bv,O,ob,dF (by split<;>omega),bW bv]) (λm s _=>by rw[p6,dF bv]) (m:=a) (i:=0) (s:=()) bv bv trivial
  rw[zQ]at u w;refine⟨(),trivial,?_⟩;rw[qa,PB bv g.lo n,ob,eK bv,Fb bv _ _ _ bv,ob,z,ob,u,ob];simp only;rw[w,ob];simp only;rw[bW bv,R]) (λm s _=>by rw[qa,PB bv g.lo n,ob,dF bv]) (m:=a) (i:=0) (s:=()) bv bv trivial
 rw[zQ]at t o;rw[Nat.pow_zero,Nat.div_one]at o;have H:=z 0;rw[E1,G,ob];simp only[awj,av8];rw[ad9 bv g,ob,nO bv n (by rw[fB];omega) fj,ob,Fb bv _ _ _ bv,ob,H,ob,t,ob];simp only;rw[o,ob]
end
section
open Go Go.RowKit Go.Sort
abbrev Bad(w:WV):Prop:=Dd.O7 w.1 w.2.1 w.2.2.1 w.2.2.2.1
def au4{k:Int}{b:lz}(e:WR k d b):d.length<=60/\b.length<=60/\(∀a∈b,1<=a.1/\a.1<=4):=by
 rcases e with⟨_,rfl,h,_⟩|⟨_,rfl,h,c⟩
 .exact⟨h,d5,λa h=>by cases h⟩
 .exact⟨d5,h,λa f=>(c a f).1⟩
def ajT(hN:Fu+45<=a){w:WV}(U:w.2.2.2.2.length<=200)(h:GR c b)(Z:b.length<=300){k:Int}{m:lz}(H:WR k d m):
 ∃(t:Nat) (e J:Int) (z:bh) (qs':lz),t<=7000000/\uo (a+1) ((c:Int),b,k,d,m,w)=some ((t:Int),e,J,z,qs')/\(e=10\/(e=1/\Bad w)\/(e=0/\J=k/\z.length+qs'.length<=60/\(∀x∈z,l5 (c:Int) x)/\(∀f∈qs',1<=f.1/\f.1<=4)/\(k=3->qs'=m))):=by
 obtain⟨u,v,g,P,F⟩:=w;have hF:=bJ;have a2:=h.len;obtain⟨E,W,V⟩:=au4 H;obtain⟨Y,N,X⟩:=MV (N:=a) bv k d m bv bv;obtain rfl:=X.2 H;have a3:=adO d m bv bv;obtain⟨K,O,i2⟩:=aiY (N:=a) bv (c:Int) b (MW d m) bv;rw[S4,h.right bv,ob];simp only[awj,av8];rw[N,ob];simp only[awj,av8];rw[alT bv _ _ _ bv bv,ob,O,ob];simp only;cases K with
 |true=>exact⟨0,10,0,[],[],bv,rfl,.inl rfl⟩
 |false=>
  rw[av8,cd];by_cases q:k=3
  .rw[av3 q]
   exact⟨0,0,k,[],m,bv,rfl,.inr (.inr ⟨rfl,rfl,by simpa using W,(λx h=>by cases h),V,λ_=>rfl⟩)⟩
  .rw[av2 q]
   have D:∃(t:Nat) (e:Int) (n:bh),FZ a (d,u,v,g,P,F)=some ((t:Int),e,n)/\(e=10\/(e=1/\Bad (u,v,g,P,F))\/(e=0/\t<=7000000/\n.length<=60)):=by
    rcases Dd.apt (bi:=u) (bl:=v) (g:=g) (P:=P) U with s|s
    .obtain⟨t,e,o,j,l,A,C,h5,R⟩:=Dd.ai8 (N:=a) bv s d E
     exact⟨t,e,o,l,R.elim (λe=>.inr (.inr ⟨e,j,awH C (awH (ayO _ _) E)⟩)) .inl⟩
    .obtain⟨t,e,o,j,l⟩:=Dd.adR (N:=a) bv s (pk:=F) d E
     exact⟨t,e,o,j,l.elim (λe=>.inr (.inl ⟨e,s⟩)) .inl⟩
   obtain⟨t,e,n,D,i⟩:=D;rw[D,ob,Mz];by_cases y:e=0
   .subst y
    rcases i with i|⟨i,_⟩|⟨_,r,a1⟩
    .cases i
    .cases i
    rw[av3 rfl,cd];by_cases G:k=2
    .rw[av3 G]
     simp only;rcases aa9 (N:=a) bv h n bv with⟨j,_⟩|⟨Q,j,l,A,C⟩
     .rw[j,ob];exact⟨t,10,k,[],[],r,rfl,.inl rfl⟩
     .rw[j,ob]
      have S:=Da (B:=n.map dQ) ((nY (rN h.TV)).sublist A) λx p=>((C x).1 p).2;rw[awa]at S;exact⟨t,0,k,Q,[],r,rfl,.inr (.inr ⟨rfl,rfl,(by simp only[aw4];omega),(λx p=>by
       have:=yc h.tie x (A.subset p);exact⟨⟨bv,bv⟩,bv,bv⟩),(λf h=>by cases h),λh=>absurd h q⟩)⟩
    .rw[av2 G]
     simp only;have I:Ov a ((c:Int),b)=some (400 - ((b.length:Nat):Int)):=by
      obtain⟨M,rfl⟩:=sC a 1;rw[ac5,h.right bv,ob];simp only[awj,av8];rw[gw bv bv]
     rcases aiz (N:=a) bv h n bv with⟨j,_⟩|⟨L,j,l⟩
     .rw[j,ob,I,ob,cd]
      simp only[aw4];rw[av2 bv];exact⟨t,10,k,[],[],r,rfl,.inl rfl⟩
     .rw[j,ob,I,ob,cd]
      simp only;have a0:=l.len;rw[av2 bv];exact⟨t,0,k,L,[],r,rfl,.inr (.inr ⟨rfl,rfl,(by simp only[aw4];omega),(λx p=>by
       have:=l.rng x p;exact⟨⟨bv,bv⟩,bv,bv⟩),(λf h=>by cases h),λh=>absurd h q⟩)⟩
   .rw[av2 y]
    refine⟨0,e,0,[],[],bv,rfl,?_⟩;rcases i with i|i|i
    .exact .inl i
    .exact .inr (.inl i)
    .exact absurd i.1 y
def amt{N:Nat}(J:Fu+45<=N){w:WV}(C:w.2.2.2.2.length<=200)(s:SV)(M:s.2.1.length<=300)(k:Int)(p:bh)(o:lz)(he:p.length<=100000)(hq:o.length<=100000):
 ∃(e:Int) (i:Do bm) (j a G:Int) (y:aX),Gf (N+1) s (k,p,o) w=some ((s.1,i,j,a),e,G,y)/\
  ((e≠0/\(s.1,i,j,a)=s/\G=0/\y=[]/\(e=1/\(¬StR s\/¬WR k p o)\/StR s/\WR k p o/\(e=10\/e=1/\(Bad w\/k=2/\¬Ly s.2.1))))\/
   (e=0/\StR s/\WR k p o/\j=s.2.2.1+1/\s.2.2.2<=a/\i.length<=400/\(k=3->i=s.2.1/\y.length=o.length)/\∀n:Nat,s.1=(n:Int)->GL n s.2.1->Hv n s.2.1->GL n i/\Hv n i)):=by
 obtain⟨g,F,j,a⟩:=s;obtain⟨W,X,z,P,S⟩:=w;simp only at M C;have hF:=bJ;obtain⟨b,hb,L⟩:=adW (N:=N+1) bv (g,F,j,a) (by simp only;omega);unfold Gf;rw[hb,ob];cases b with
 |false=>exact⟨1,_,_,_,_,_,rfl,.inl ⟨d6,rfl,rfl,rfl,.inl ⟨rfl,.inl λh=>by have:=L.2 h;cases this⟩⟩⟩
 |true=>
  have f:=L.1 rfl;have A:=f;unfold StR at A;simp only at A;obtain⟨⟨h0,r⟩,a7,a9⟩:=A;obtain⟨n,rfl⟩:=nN g;rw[av9]at r;rw[awv];simp only;by_cases d:WR k p o
  .obtain⟨t,e,D,v,qs',ht,hc,a0⟩:=ajT (w:=(W,X,z,P,S)) J C r M d
   rw[hc,ob];simp only;rcases a0 with rfl|⟨rfl,B⟩|⟨rfl,rfl,a1,I,hK,h3⟩
   .exact⟨10,_,_,_,_,_,rfl,.inl ⟨d6,rfl,rfl,rfl,.inr ⟨f,d,.inl rfl⟩⟩⟩
   .exact⟨1,_,_,_,_,_,rfl,.inl ⟨d6,rfl,rfl,rfl,.inr ⟨f,d,.inr ⟨rfl,.inl B⟩⟩⟩⟩
   .rw[eK rfl,show wZ (((v.length:Nat):Int)+((qs'.length:Nat):Int))=((v.length+qs'.length:Nat):Int) by rw[gw bv bv];omega]
    by_cases O:(1<=z/\z<=100)/\1<=P/\P<=8
    .obtain⟨g2,rfl⟩:=nN z
     obtain⟨V,rfl⟩:=nN P;obtain⟨m,us,_,hm,ho⟩:=Dd.anb (g:=g2) (P:=V) (picks:=S) bv bv bv bv C (v.length+qs'.length) a1;rw[ho (N+1) bv,ob,eK rfl,show wZ (j+1)=j+1 from gw bv bv,show wZ ((t:Int)+(m:Int))=(t:Int)+(m:Int)from gw bv bv,show wZ (a+((t:Int)+(m:Int)))=a+((t:Int)+(m:Int))from gw bv bv,cd];by_cases Q:D=1
     .rw[av3 Q]
      rcases add_eq (N:=N+1) bv r v bv with⟨_,B⟩|⟨Z,K,l⟩
      .exact absurd I B
      .have a8:=K.len
       rcases l with⟨a6,_⟩|⟨_,i,l,H⟩
       .omega
       .rw[l,ob,eK rfl]
        refine⟨0,_,_,_,_,_,rfl,.inr ⟨rfl,f,d,rfl,(by show a<=a+_;omega),?_,(λh=>by omega),λq e u x=>?_⟩⟩
        rotate_left
        .obtain rfl:n=q:=bv
         exact apQ u x K.rng bv H
        rw[H.perm.length_eq,awl,J1 (Ai n F Z)];omega
     .rw[av2 Q,cd]
      by_cases E:D=2
      .rw[av3 E]
       obtain⟨e,i,all,l,a3⟩:=drop_eq (N:=N+1) bv r v bv;rw[l,ob,cd];rcases a3 with⟨c,_,Y⟩|⟨rfl,q1,_,_,U⟩
       .obtain⟨rfl,hn⟩:=Y I
        rw[av2 c];exact⟨1,_,_,_,_,_,rfl,.inl ⟨d6,rfl,rfl,rfl,.inr ⟨f,d,.inr ⟨rfl,.inr ⟨E,hn⟩⟩⟩⟩⟩
       .rw[av3 rfl]
        have a2:=q1.length_le;rw[fB,fB]at a2;refine⟨0,_,_,_,_,_,rfl,.inr ⟨rfl,f,d,rfl,(by show a<=a+_;omega),(by show i.length<=400;omega),(λh=>by omega),λq e u x=>?_⟩⟩;obtain rfl:n=q:=bv
        exact⟨(U u.2).1,(U u.2).2 x⟩
      .have R:D=3:=by rcases d with⟨h,_⟩|⟨h,_⟩<;>omega
       rw[av2 E,eK R];obtain⟨⟨e,y⟩,l,_,a4,a5⟩:=WG (N:=N+1) bv r qs' bv;rw[l,ob,cd];by_cases c:e=0
       .subst c
        rw[av3 rfl];exact⟨0,_,_,_,_,_,rfl,.inr ⟨rfl,f,d,rfl,(by show a<=a+_;omega),(by show F.length<=400;omega),(λ_=>⟨rfl,by rw[<-h3 R];exact a4 rfl⟩),λ_ _ u x=>⟨u,x⟩⟩⟩
       .rw[av2 c]
        exact⟨e,_,_,_,_,_,rfl,.inl ⟨c,rfl,rfl,rfl,.inr ⟨f,d,.inl ((a5 hK).resolve_left c)⟩⟩⟩
    .rw[Dd.M0 bv O,ob,dF d6]
     exact⟨1,_,_,_,_,_,rfl,.inl ⟨d6,rfl,rfl,rfl,.inr ⟨f,d,.inr ⟨rfl,.inl λh=>O h.2.2⟩⟩⟩⟩
  .rw[adS J r he hq d,ob]
   exact⟨1,_,_,_,_,_,rfl,.inl ⟨d6,rfl,rfl,rfl,.inl ⟨rfl,.inr d⟩⟩⟩
end
section
open Go Go.RowKit Go.Sort
abbrev BX:Type:=Int×bh×lz
def PC{N:Nat}(g:1<=N){b:aX}(j:b.length<=250){v:Int}(e:0<=v)(f:v<=1000):∃(z:Int) (o:In),hC N (b,v)=some (z,o)/\(o=true->v+1<(b.length:Int)):=by
 obtain⟨N,rfl⟩:=sC N 1;rw[DH,dF bv,gw (x:=((b.length:Nat):Int) - 1) bv bv,cd];by_cases c:((b.length:Nat):Int) - 1<=v
 .rw[av3 c];exact⟨_,_,rfl,λh=>by cases h⟩
 .obtain⟨k,rfl⟩:=nN v
  obtain⟨x,a⟩:=get_at (xs:=b) (i:=k) bv;obtain⟨y,d⟩:=get_at (xs:=b) (i:=k+1) bv;rw[av2 c,ba a,ob,bW bv,ba d,ob];exact⟨_,_,rfl,λ_=>by omega⟩
def amu{N:Nat}(hN:Fu+10<=N){b:aX}(A:b.length<=250):∃(n e x:Int) (c:bh) (d:lz),lu N b=some (n,e,x,c,d)/\(e=0->3<=n/\n<=(b.length:Int)/\c.length<=60/\d.length<=60):=by
 obtain⟨N,rfl⟩:=sC N 1;have hF:=bJ;rw[DI,cd];by_cases G:((b.length:Nat):Int)=0
 .rw[av3 G];exact⟨_,_,_,_,_,rfl,λh=>by cases h⟩
 obtain⟨w,a0⟩:=get_at (xs:=b) (i:=0) bv;have a1:aZ b (0:Int)=some w:=ba (i:=0) a0;rw[av2 G,a1,ob,cd];by_cases H:wZ w<1
 .rw[av3 H];exact⟨_,_,_,_,_,rfl,λh=>by cases h⟩
 rw[av2 H,cd];by_cases J:3<wZ w
 .rw[av3 J];exact⟨_,_,_,_,_,rfl,λh=>by cases h⟩
 rw[av2 J];obtain⟨n,o,Z,Y⟩:=PC (N:=N) bv A (v:=1) bv bv;rw[Z,ob];cases o with
 |false=>exact⟨_,_,_,_,_,rfl,λh=>by cases h⟩
 |true=>
  have a2:=Y rfl;simp only[awj,av8];rw[cd];by_cases K:60<n
  .rw[av3 K];exact⟨_,_,_,_,_,rfl,λh=>by cases h⟩
  rw[av2 K];generalize wZ w=g;obtain⟨r,P,hq⟩:=lp (F:=λm i (s:Int×bh×lz)=>hI N m (b,n,s.1,(i:Int),0,g,s.2.1,s.2.2)) (n:=n.toNat)
   (Q:=λr=>(∃(a:Int) (c:bh) (d:lz),r=.inl (a,0,g,c,d)/\3<=a/\a<=(b.length:Int)/\c.length<=60/\d.length<=60)\/∃p e q:Int,r=.inr (p,e,q)/\e≠0)
   (I:=λi s=>3<=s.1/\s.1<=(b.length:Int)/\s.2.1.length<=i/\s.2.2.length<=i) (λm i s hk z=>by
   obtain⟨a,c,d⟩:=s;obtain⟨u,t,C,D⟩:=z;simp only at u t C D;obtain⟨N,rfl⟩:=sC N 1;have l:(∃p e q:Int,jq (N+1) (N+1) (b,n,a,(i:Int),0,0,g,c,d)=some (.inl (p,e,q))/\e≠0)\/∃f E:Int,a<=f/\f<=(b.length:Int)/\jq (N+1) (N+1) (b,n,a,(i:Int),0,0,g,c,d)=some (.inr (b,n,f,(i:Int),E,0,g,c,d)):=by
    rw[Au,cd];by_cases k:g=3
    .rw[av3 k,cd]
     by_cases L:a=((b.length:Nat):Int)
     .rw[av3 L];exact .inl ⟨_,_,_,rfl,d6⟩
     .obtain⟨j,rfl⟩:=nN a
      obtain⟨y,hy⟩:=get_at (xs:=b) (i:=j) bv;rw[av2 L,ba hy,ob,cd];by_cases M:wZ y<1
      .rw[av3 M];exact .inl ⟨_,_,_,rfl,d6⟩
      rw[av2 M,cd];by_cases O:4<wZ y
      .rw[av3 O];exact .inl ⟨_,_,_,rfl,d6⟩
      rw[av2 O,bW bv];exact .inr ⟨_,_,bv,bv,rfl⟩
    .rw[av2 k]
     exact .inr ⟨_,_,axx _,t,rfl⟩
   rw[oP,eK bv];rcases l with⟨p,e,q,l,B⟩|⟨f,E,g1,g2,l⟩
   .rw[l,ob];exact .inr ⟨_,rfl,.inr ⟨_,_,_,rfl,B⟩⟩
   .obtain⟨R,o1,U,_⟩:=PC (N:=N+1) bv A (v:=f) bv bv
    obtain⟨S,o2,V,W⟩:=PC (N:=N+1) bv A (v:=f+2) bv bv;rw[l,ob];simp only;rw[U,ob,gw (x:=f+2) bv bv,V,ob];cases o2 with
    |false=>exact .inr ⟨_,rfl,.inr ⟨_,_,_,rfl,d6⟩⟩
    |true=>
     have:=W rfl;simp only[awj,av8];rw[cd,bW bv,gw (x:=f+4) bv bv];by_cases k:g=3
     .rw[av3 k,cj bv d7,ob]
      exact .inl ⟨(f+4,c,d++[(E,R,S)]),⟨by simp only;omega,by simp only;omega,by simp only;omega,by simp;omega⟩,rfl⟩
     .rw[av2 k,cj bv d7,ob]
      exact .inl ⟨(f+4,c++[(R,S)],d),⟨by simp only;omega,by simp only;omega,by simp;omega,by simp only;omega⟩,rfl⟩) (λm s z=>by
   obtain⟨a,c,d⟩:=s;obtain⟨u,t,C,D⟩:=z;simp only at u t C D;exact⟨_,by rw[oP,dF bv],.inl ⟨a,c,d,rfl,u,t,bv,bv⟩⟩) (m:=N) (i:=0) (s:=(3,[],[])) bv bv ⟨d5,by simp only;omega,d5,d5⟩
  simp only[zQ]at P;rw[P,ob];rcases hq with⟨a,c,d,rfl,X⟩|⟨p,e,q,rfl,B⟩
  .exact⟨_,_,_,_,_,rfl,λ_=>X⟩
  .exact⟨_,_,_,_,_,rfl,λh=>absurd h B⟩
def Nh{N:Nat}(l:Fu+12<=N){b:aX}(o:b.length<=250):∀(m a:Nat) (d:Do BX),b.length - a<m->a<=b.length->d.length<=a->(∀x∈d,x.2.1.length<=60/\x.2.2.length<=60)->
 ∃(p:Int) (e:Int) (L:Do BX),(hJ N m (b,(a:Int),d)=some (.inl (p,L))\/hJ N m (b,(a:Int),d)=some (.inr (p,e,L)))/\L.length<=250/\∀x∈L,x.2.1.length<=60/\x.2.2.length<=60
 |0,a,d,h,_,_,_=>absurd h bv
 |m+1,a,d,u,t,v,i=>by
  rw[Av,cd];by_cases q:a<b.length
  .rw[av3 bv,OF bv bv bv,ob]
   obtain⟨n,e,x,j,s,r,g⟩:=amu (N:=N) bv (b:=(b.take ((b.length:Nat):Int).toNat).drop ((a:Nat):Int).toNat) d7;rw[r,ob];simp only;rw[Mz];by_cases c:e=0
   .have g:=g c
    simp only[av9,List.take_length,axO]at g;obtain⟨k,rfl⟩:=nN n;rw[av3 c,cj bv d7,ob,show wZ ((a:Int)+(k:Int))=((a+k:Nat):Int) by rw[gw bv bv];omega];exact Nh l o m (a+k) (d++[(x,j,s)]) bv bv d7 λy f=>by
     rcases awc.1 f with f|f
     .exact i y f
     .rw[awq.1 f];exact g.2.2
   .rw[av2 c];exact⟨_,_,_,.inr rfl,bv,i⟩
  .rw[av2 bv];exact⟨_,0,_,.inl rfl,bv,i⟩
def amv{N:Nat}(f:Fu+13<=N){b:aX}(c:b.length<=250):∃(p e:Int) (L:Do BX),lx N b=some (p,e,L)/\L.length<=250/\∀x∈L,x.2.1.length<=60/\x.2.2.length<=60:=by
 obtain⟨N,rfl⟩:=sC N 1;have d:=bJ;obtain⟨p,e,L,h,a⟩:=Nh (N:=N) bv c N 0 [] bv bv d5 (λx h=>by cases h);rw[zQ]at h;rw[DJ];rcases h with h|h
 .rw[h,ob];exact⟨_,_,_,rfl,a⟩
 .rw[h,ob];exact⟨_,_,_,rfl,a⟩
def Ld(S:Fu+80<=a)(own:Int)(b:aX)(w:WV)(O:0<=own)(P:own<=255):js a (own,b,w.1,w.2.1,w.2.2.1,w.2.2.2.1,w.2.2.2.2)=some true:=by
 obtain⟨a,rfl⟩:=sC a 2;have Q:=bJ;rw[yx,K8,cd];by_cases r:(250:Int)<((b.length:Nat):Int)
 .rw[av3 r];rfl
 rw[av2 r,ob];by_cases t:(60:Int)<((w.2.2.2.2.length:Nat):Int)
 .rw[awu t];rfl
 rw[awz t,av8];obtain⟨p,e,L,f,R,J⟩:=amv (N:=a+1) bv (b:=b) bv;obtain⟨n,H,N,B⟩:∃n:Nat,pJ (a+1) own=some ((n:Int),0,0)/\1<=n/\n<=12:=by
  refine⟨1+own.toNat % 12,?_,bv,bv⟩;obtain⟨k,rfl⟩:=nN own;rw[Kw,gw (x:=(k:Int)) bv bv,show Int.tmod (k:Int) 12=((k % 12:Nat):Int)from rfl,gw bv bv,av9];congr 2
 rw[H,ob,f,ob];simp only;have z:=MM (F:=λm i (s:Do bm×Int×Int)=>ib (a+1) m ((i:Int),w.1,w.2.1,w.2.2.1,w.2.2.2.1,w.2.2.2.2,(n:Int),s.1,s.2.1,s.2.2,L)) (n:=L.length) (b:=.inl ()) (I:=λ_ s=>GL n s.1/\Hv n s.1) (λm i s G v=>by
  obtain⟨q,j,o⟩:=s;obtain⟨d,l⟩:=v;simp only at d l;obtain⟨x,A⟩:=get_at (xs:=L) G;have W:=J x (awg A);have V:=apR d.1;have U:n*n<=12*12:=axC B B;obtain⟨e,g,u,C,E,D,K,y⟩:=amt (N:=a+1) bv (w:=w) bv ((n:Int),q,j,o) (by simp only;omega) x.1 x.2.1 x.2.2 bv bv;have M:tR (a+1) ((n:Int),q,j,o,x.1,x.2.1,x.2.2,w)=some ((n:Int),g,u,C,e,E,D):=by
   show Option.map _ (Gf (a+1+1) ((n:Int),q,j,o) (x.1,x.2.1,x.2.2) w)=_;rw[K];rfl
  have c:GL n g/\Hv n g:=by
   simp only at y;rcases y with⟨_,f,_⟩|⟨_,_,_,_,_,_,_,h⟩
   .simp only[awn]at f
    obtain⟨_,rfl,_⟩:=f;exact⟨d,l⟩
   .exact h n rfl d l
  refine⟨(g,u,C),c,?_⟩;rw[mK,eK bv,ba A,ob,ob,M,ob];simp only;rw[ad_ bv c.1 c.2,ob];simp only[awj,av8];rw[ad8 bv c.1 c.2,ob];simp only[awj,av8];rw[bW bv]) (λm s v=>by rw[mK,dF bv]) (m:=a+1) (i:=0) (s:=([],0,0)) bv bv (ajN N bv)
 simp only[zQ]at z;rw[z,ob]
