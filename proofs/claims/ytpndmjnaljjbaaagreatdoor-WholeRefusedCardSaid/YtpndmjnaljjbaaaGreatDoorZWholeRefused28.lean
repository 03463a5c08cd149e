/- part 28 -/
import Derived.Test.YtpndmjnaljjbaaaGreatDoorZWholeRefused27
set_option linter.all false
noncomputable section
open Go Go.RowKit
set_option maxRecDepth 100000
open Go.Proofs.Tryz
open List (length replicate)
namespace Go.Proofs.YtpndmjnaljjbaaaGreatDoor
def ak9{h:GE}(a:∀b o u,GT b o u->h.cell? ⟨b,o,none⟩=some u):∃f g,FC Tryz.prog h 4 [] .lf 0 (.v (.bool true)) f g:=by
 have d:=aoL a;have j:MOk Tryz.prog h (kj []):=MOk.nil;have k:=j.cons (e:=Lh) (eC mixed Bl a d j wr0);have t:=k.cons (e:=LM) (eC mixed Bl a d k wr1);have v:=t.cons (e:=L5) (eC mixed Bl a d t wr2);have w:=v.cons (e:=Oh) (eC mixed Bl a d v wr3);have x:=w.cons (e:=QA) (eC mixed Bl a d w wr4);have y:=x.cons (e:=QX) (eC mixed Bl a d x wr5);have z:=y.cons (e:=VQ) (eC mixed Bl a d y wr6);have A:=z.cons (e:=V5) (eC mixed Bl a d z wr7);have B:=A.cons (e:=Yd) (eC mixed Bl a d A wr8);have l:=B.cons (e:=we9) (eC mixed Bl a d B wr9);have m:=l.cons (e:=Fp) (eC mixed Bl a d l awe);have n:=m.cons (e:=Hl) (eC mixed Bl a d m awf);have p:=n.cons (e:=Li) (eC mixed Bl a d n awg);have q:=p.cons (e:=L6) (eC mixed Bl a d p awh);have r:=q.cons (e:=QB) (eC mixed Bl a d q awi);have s:=r.cons (e:=VS) (eC mixed Bl a d r awj);have D:=s.cons (e:=Ye) (eC mixed Bl a d s awk);obtain⟨c,f,g,C,i⟩:=xc mixed Bl a d D 3000 4 [] .lf 0 _ 0 wr;split at i
 .exact⟨f,g,C⟩
 .cases i
noncomputable def VT(N:Nat):Unit->At In:=λ_=>some true
noncomputable def VU:CO:=⟨λN=>⟨4,[],[],[],In,VT N,λy _ k=>k (.sc .b y) [],false,true⟩,λN=>by
 refine⟨λ_=>rfl,λx y q=>⟨.sc .b true,[],λR k=>?_,λ_=>rfl,λ_=>⟨rfl,rfl⟩,?_⟩⟩
 .cases q;rfl
 refine⟨lD DJ DK 4 d6,λB Rd e w c l m=>?_⟩;have a:SR B Rd e [] w:=l;have n:LR (VR (bS B Rd e [] w) (some e)) [] c:=m;have j:c=[]:=ayn n.1;subst j;have d:∀b o u,GT b o u->w.cell? ⟨b,o,none⟩=some u:=λb o u h=>(a.IA h).1;obtain⟨r,s,f⟩:=ak9 d;refine(f.2 (λ_=>none) w [] (ak4 w) ⟨rfl,d5⟩).mono λx t p=>?_;obtain⟨v,z,rfl,g,i⟩:=p;rw[i.bR];exact⟨_,e,rfl,(a.later g.hr.ext).1,.v⟩⟩
abbrev bm:Sc:=.i .i64
abbrev qn:Sc:=.sl .b
abbrev jr3:Sc:=.i .u32
abbrev VV:Sc:=.pr bm bm
abbrev jr5:Sc:=.sl bm
abbrev jr6:Sc:=.pr bm .b
abbrev jr7:Sc:=.sl jr3
abbrev jr8:Sc:=.pr bm VV
abbrev jr9:Sc:=.pr bm jr6
abbrev mB:Sc:=.sl VV
abbrev ko:Sc:=.sl jr5
abbrev Hm:Sc:=.pr bm jr8
abbrev AD:Sc:=.pr bm jr9
abbrev Yh:Sc:=.sl jr8
abbrev gG:Sc:=.sl Hm
abbrev AE:Sc:=.sl AD
abbrev Ar1:Type:=Int×(Int×Int)
abbrev rz:Type:=bj
abbrev Ar3:Type:=Int×(Int×In)
abbrev Fq:Type:=bO
abbrev Ar5:Type:=Int×Int×aX
abbrev xe:Type:=Do (Int×Ar1)
abbrev Hn:Type:=Do (Int×Ar3)
abbrev Ar8:Type:=Int×xe×Int×bh×Fq×In×Int×Int×Hn
def xf:Do CO:=[]
def am5:Nat×PV:=(3,.h bm)
def aig:Nat×PV:=(4,.h bm)
def zk:PS:=bg [am5,aig] []
def zl:Do (IR×PS):=[((.exit 0),bg [am5] [])]
def zm:Pl:=.z
def lE:Nat->Nat->Int×Int->eF:=eZ xf f109 [1,1,1,0,1,0,0] zk zl zm
def GQ:FD:=cw 109 f109 (.n .z (.n .z (.n .z (.n (.n .z (.n (.loop zk zl zm) .z)) .z)))) [.h bm] [] (bg [(2,.h bm)] []) false true []
def o5:Nat->Int->eF:=mF xf GQ
def VW:CO:=cF xf GQ o5 func109
def tK N m k a:lE N (m+1) (k,a)=cond (0<a)
 ((lE N m ((wZ (k+1)),(wZ (Int.tdiv a 2)))))
 (some k):=ci
def Lj N n:o5 (N+1) n=cond (n<1)
 (some 0)
 (cond (64<n)
  (some 0)
  (aW (lE N N (0,(wZ (n - 1)))) λa=>
   some a)):=ci
def hB:Do CO:=[]
def aur:Nat×PV:=(8,.h bm)
def lw:Do (Nat×PO):=[(900,.arr 3 bm true)]
def o6:PS:=bg [(0,.h bm),(1,.h mB),rt,auf,aur] lw
def o8:Do (IR×PS):=[((.exit 4),bg [(0,.h bm),(1,.h mB),rt,auf] lw)]
def o9:Pl:=.z
def dF:Nat->Nat->Int×rz×In×Int×aX->At (Int×rz×In×aX):=eZ hB f49 [1,1,1,0,1,0,0,1,0,1,1,0,0] o6 o8 o9
def o_:PS:=bg [(0,.h bm),(1,.h mB),rt,auf] lw
def pa:Do (IR×PS):=[((.exit 2),bg [rt] lw)]
def pc:Pl:=(.n .z (.n (.n .z (.n .z (.n (.loop o6 o8 o9) .z))) .z))
def ij:Nat->Nat->Int×rz×In×aX->mR:=eZ hB f49 [1,1,1,0,1,0,0] o_ pa pc
def al4:Nat×PV:=(6,.h bm)
def pd:PS:=bg [(0,.h bm),(1,.h mB),rt,al4] lw
def pf:Do (IR×PS):=[((.exit 0),bg [(0,.h bm),(1,.h mB),rt] lw)]
def pg:Pl:=.z
def il:Nat->Nat->Int×rz×Int×aX->At (Int×rz×aX):=eZ hB f49 [1,1,0,1,0,0] pd pf pg
def tM:FD:=cw 49 f49 (.n .z (.n .z (.n (.n .z (.n (.loop pd pf pg) .z)) (.n (.n .z (.n (.loop o_ pa pc) .z)) .z)))) [.h bm,.h mB] [] (bg [ld] lw) true true [900]
def hC:Nat->Int×rz->mR:=mF hB tM
def tO:CO:=cF hB tM hC func49
def yr N m n l f i a:dF N (m+1) (n,l,f,i,a)=cond (i<(length l:Int))
 (aW (aZ l i) λb=>
  aW (aZ l i) λc=>
  cond (b.1<0)
   ((dF N m (n,l,f,(wZ (i+1)),a)))
   (cond (c.2<0)
    ((dF N m (n,l,f,(wZ (i+1)),a)))
    (cond (n<=b.1)
     ((dF N m (n,l,f,(wZ (i+1)),a)))
     (cond (n<=c.2)
      ((dF N m (n,l,f,(wZ (i+1)),a)))
      (aW (aZ a b.1) λq=>
       aW (aZ a b.1) λg=>
       aW (aZ a c.2) λr=>
       aW (aZ a c.2) λh=>
       cond (g=h)
        ((dF N m (n,l,f,(wZ (i+1)),a)))
        (aW (aZ a b.1) λs=>
         aW (aZ a b.1) λe=>
         aW (aZ a c.2) λt=>
         aW (aZ a c.2) λd=>
         aW (aZ a b.1) λj=>
         aW (aZ a b.1) λk=>
         aW (aZ (List.set a (Int.toNat b.1) (if(d<e)then d else e)) c.2) λo=>
         aW (aZ (List.set a (Int.toNat b.1) (if(d<e)then d else e)) c.2) λp=>
         (dF N m (n,l,true,(wZ (i+1)),(List.set (List.set a (Int.toNat b.1) (if(d<e)then d else e)) (Int.toNat c.2) (if(d<e)then d else e))))))))))
 (some (n,l,f,a)):=ci
def mQ N m n l c b:ij N (m+1) (n,l,c,b)=cond c
 (aW (dF N N (n,l,false,0,b)) λa=>
  (ij N m (a.1,a.2.1,a.2.2.1,a.2.2.2)))
 (some b):=ci
def yt N m n l v a:il N (m+1) (n,l,v,a)=cond (v<n)
 (aW (er 8 a [v]) λb=>
  (il N m (n,l,(wZ (v+1)),b)))
 (some (n,l,a)):=ci
def AF N n l:hC (N+1) (n,l)=aW (il N N (n,l,0,[])) λa=>
 aW (ij N N (a.1,a.2.1,true,a.2.2)) λb=>
 some b:=ci
def js:Do CO:=[VW,tO]
def aus:Nat×PV:=(7,.h bm)
def au6:Do PV:=[.h bm,.h AE]
def ut:Nat×PO:=(900,.box 24 au6)
def ajx:Nat×PO:=(901,.arr 51 VV true)
def au2:Nat×PO:=(902,.arr 3 bm true)
def tP:PS:=bg [g9,WP,(6,.k (.ow 902)),aus,aur] [ut,ajx,au2]
def tQ:Do (IR×PS):=[((.exit 2),bg [g9,WP,aus] [ut,ajx])]
def tR:Pl:=.z
def hI:Nat->Nat->Int×Int×Int×Hn×rz×aX->At (Int×Int×Hn×rz):=eZ js f45 [1,1,1,1,1,1,0,1,0,0] tP tQ tR
def wd:Do PV:=[.h bm,.h bm,.h bm,.h .b]
def tT:PS:=bg [g9,(3,.k (.ow 902)),aig,(5,.k (.pt 901 0))] [ut,(902,.arr 51 VV true),(901,.box 131 wd)]
def tU:Do (IR×PS):=[(.ret,bg lc []),(.normal,bg [g9,WP,aig,(5,.k (.pt 902 0))] [ut,ajx,(902,.box 131 wd)])]
def tV:Pl:=.z
def tW:Nat->Nat->Int×Int×Hn×rz×Int×Int×Int×In->At ((In)⊕(Int×Int×Hn×rz×Int×Int×Int×In)):=jnF js f45 [1,1,1,0,1,0,0,1,0,0,1,1,0] tT tU tV
def tX:PS:=bg [g9,WP,aig] [ut,ajx]
def tY:Do (IR×PS):=[((.exit 0),bg [g9,WP] [ut,ajx]),(.ret,bg lc [])]
def tZ:Pl:=(.n .z (.n (.n (.n .z (.n .z (.n (.join tT tU tV) .z))) .z) .z))
def eo:Nat->Nat->Int×Int×Hn×rz->At ((Int×Hn×rz)⊕(In)):=eZ js f45 [1,1,1,0,1,0,0] tX tY tZ
def zn:FD:=cw 45 f45 (.n .z (.n .z (.n .z (.n (.n .z (.n (.loop tX tY tZ) .z)) (.n .z (.n .z (.n (.n .z (.n (.loop tP tQ tR) .z)) .z))))))) [.ag au6] [] (bg lc []) false true []
def jt:Nat->Int×Hn->dj:=mF js zn
def zo:CO:=cF js zn jt func45
def DL N m a v g b d c:hI N (m+1) (a,v,g,b,d,c)=cond (v<g)
 (aW (aZ c v) λf=>
  aW (aZ c v) λe=>
  cond (e=v)
   ((hI N m ((wZ (a+1)),(wZ (v+1)),g,b,d,c)))
   ((hI N m (a,(wZ (v+1)),g,b,d,c))))
 (some (a,g,b,d)):=ci
def DM N m i g a e t b c d:tW N (m+1) (i,g,a,e,t,b,c,d)=cond (0<i)
 (aW (aZ a (wZ (i - 1))) λf=>
  cond (t<f.1)
   (some (.inl false))
   (aW (aZ a (wZ (i - 1))) λh=>
    cond (h.1=t)
     (aW (aZ a (wZ (i - 1))) λj=>
      cond (b<=j.2.1)
       (some (.inl false))
       (some (.inr (i,g,a,e,t,b,c,d))))
     (some (.inr (i,g,a,e,t,b,c,d)))))
 (some (.inr (i,g,a,e,t,b,c,d))):=ci
def ph N m i g c d:eo N (m+1) (i,g,c,d)=cond (i<(length c:Int))
 (aW (aZ c i) λb=>
  cond (b.1<0)
   (some (.inr false))
   (cond (b.2.1<=b.1)
    (some (.inr false))
    (cond (g<=b.2.1)
     (some (.inr false))
     (cond (b.2.2.1<0)
      (some (.inr false))
      (aW (o5 N g) λe=>
       cond (e<b.2.2.1)
        (some (.inr false))
        (aW (tW N N (i,g,c,d,b.1,b.2.1,b.2.2.1,b.2.2.2)) λf=>
         (match f with
         |.inl j=>some (.inr j)
         |.inr a=>cond a.2.2.2.2.2.2.2
          (aW (er 16 a.2.2.2.1 [(a.2.2.2.2.1,a.2.2.2.2.2.1)]) λh=>
           (eo N m ((wZ (a.1+1)),a.2.1,a.2.2.1,h)))
          ((eo N m ((wZ (a.1+1)),a.2.1,a.2.2.1,a.2.2.2.1))))))))))
 (some (.inl (g,c,d))):=ci
def Fs N g b:jt (N+1) (g,b)=cond (g<1)
 (some false)
 (cond (64<g)
  (some false)
  (cond (400<(length b:Int))
   (some false)
   (aW (eo N N (0,g,b,[])) λd=>
    (match d with
    |.inl a=>aW (hC N (a.1,a.2.2)) λe=>
     aW (hI N N (0,0,a.1,a.2.1,a.2.2,e)) λc=>
     some (decide (c.1=(wZ (c.2.1 - (length c.2.2.2:Int)))))
    |.inr f=>some f)))):=ci
def t_:Do CO:=[]
def ua:FD:=cw 46 f46 .z [.h bm] [] (bg lc []) false true []
def hJ:Nat->Int->dj:=mF t_ ua
def Ho:CO:=cF t_ ua hJ func46
def AG N n:hJ (N+1) n=cond (0<=n)
 (some (decide (n<=1099511627776)))
 (some false):=ci
def zp:Do CO:=[zo,Ho]
def zq:FD:=cw 6 Tryz.f6 .z [.ag [.h bm,.h AE,.h bm,.h bm]] [] (bg lc []) false true []
def lF:Nat->Int×Hn×Int×Int->dj:=mF zp zq
def L7:CO:=cF zp zq lF func6
def Ft N s a b c:lF (N+1) (s,a,b,c)=aW (jt N (s,a)) λd=>
 cond d
  (aW (hJ N b) λe=>
   cond e
    (aW (hJ N c) λf=>
     some f)
    (some false))
  (some false):=ci
def zr:Do CO:=[]
def zt:FD:=cw 47 f47 .z [.h bm] [] (bg lc []) false true []
def ga:Nat->Int->dj:=mF zr zt
def L8:CO:=cF zr zt ga func47
def Fv N n:ga (N+1) n=cond (0<=n)
 (some (decide (n<=65535)))
 (some false):=ci
def ju:Do CO:=[L8]
def au5:Do PV:=[.h bm,.h mB,.h Yh]
def UV:Do (Nat×PO):=[(900,.box 30 au5)]
def ub:PS:=bg [g9,aig] UV
def uc:Do (IR×PS):=[((.exit 2),bg [] []),(.ret,bg lc [])]
def ud:Pl:=.z
def jz:Nat->Nat->Int×Int×rz×(Do Ar1)->At ((Unit)⊕(In)):=eZ ju Tryz.f7 [1,1,1,0,1,0,0] ub uc ud
def ue:PS:=bg [g9,am5] UV
def uf:Do (IR×PS):=[((.exit 0),bg [g9] UV),(.ret,bg lc [])]
def ug:Pl:=.z
def jA:Nat->Nat->Int×Int×rz×(Do Ar1)->At ((Int×rz×(Do Ar1))⊕(In)):=eZ ju Tryz.f7 [1,1,0,1,0,0] ue uf ug
def uh:PS:=bg [g9] UV
def ui:Do (IR×PS):=[(.ret,bg lc []),(.normal,bg [g9] UV)]
def uj:Pl:=.z
def jB:Nat->Nat->Int×rz×(Do Ar1)->At ((In)⊕(Int×rz×(Do Ar1))):=jnF ju Tryz.f7 [1,0] uh ui uj
def zu:FD:=cw 7 Tryz.f7 (.n .z (.n (.join uh ui uj) (.n (.n .z (.n (.loop ue uf ug) .z)) (.n (.n .z (.n (.loop ub uc ud) .z)) .z)))) [.ag au5] [] (bg lc []) false true []
def lG:Nat->Int×rz×(Do Ar1)->dj:=mF ju zu
def L9:CO:=cF ju zu lG func7
def pj N m i x c a:jz N (m+1) (i,x,c,a)=cond (i<(length a:Int))
 (aW (aZ a i) λb=>
  aW (ga N b.2.1) λd=>
  cond (!d)
   (some (.inr false))
   (aW (ga N b.2.2) λe=>
    cond (!e)
     (some (.inr false))
     (cond (b.1<1)
      (some (.inr false))
      (cond (4<b.1)
       (some (.inr false))
       ((jz N m ((wZ (i+1)),x,c,a)))))))
 (some (.inl ())):=ci
def pn N m i x a b:jA N (m+1) (i,x,a,b)=cond (i<(length a:Int))
 (aW (aZ a i) λc=>
  aW (ga N c.1) λd=>
  cond (!d)
   (some (.inr false))
   (aW (aZ a i) λe=>
    aW (ga N e.2) λf=>
    cond (!f)
     (some (.inr false))
     ((jA N m ((wZ (i+1)),x,a,b)))))
 (some (.inl (x,a,b))):=ci
def DN N m x b a:jB N (m+1) (x,b,a)=cond (x<1)
 (some (.inl false))
 (cond (3<x)
  (some (.inl false))
  (cond (x=3)
   (cond (0<(length b:Int))
    (some (.inl false))
    (cond (!(x=3))
     (cond (0<(length a:Int))
      (some (.inl false))
      (cond (60<(length b:Int))
       (some (.inl false))
       (cond (60<(length a:Int))
        (some (.inl false))
        (some (.inr (x,b,a))))))
     (cond (60<(length b:Int))
      (some (.inl false))
      (cond (60<(length a:Int))
       (some (.inl false))
       (some (.inr (x,b,a)))))))
   (cond (!(x=3))
    (cond (0<(length a:Int))
     (some (.inl false))
     (cond (60<(length b:Int))
      (some (.inl false))
      (cond (60<(length a:Int))
       (some (.inl false))
       (some (.inr (x,b,a))))))
    (cond (60<(length b:Int))
     (some (.inl false))
     (cond (60<(length a:Int))
      (some (.inl false))
      (some (.inr (x,b,a)))))))):=ci
def Fw N x c d:lG (N+1) (x,c,d)=aW (jB N N (x,c,d)) λe=>
 (match e with
 |.inl h=>some h
 |.inr a=>aW (jA N N (0,a.1,a.2.1,a.2.2)) λf=>
  (match f with
  |.inl b=>aW (jz N N (0,b.1,b.2.1,b.2.2)) λg=>
   (match g with
   |.inl k=>some true
   |.inr i=>some i)
  |.inr j=>some j)):=ci
def xg:Do CO:=[]
def xh:FD:=cw 226 f226 .z [.h bm] [] (bg [(2,.h bm)] []) false true []
def iJ:Nat->Int->eF:=mF xg xh
def Lk:CO:=cF xg xh iJ func226
def DO N bits:iJ (N+1) bits=cond (bits<1)
 (some 0)
 (cond (16<bits)
  (some 0)
  (aW (IX (wZ ((wZ (32+bits)) - 1)) bits) λa=>
   some (wZ a))):=ci
def zw:Do CO:=[]
def alk:Do PV:=[.h bm,.h bm,.h mB]
def zx:FD:=cw 272 f272 .z [.ag alk] [] (bg lc []) false true []
def jv:Nat->Int×Int×rz->dj:=mF zw zx
def L_:CO:=cF zw zx jv func272
def rh N p p2 p3:jv (N+1) (p,p2,p3)=cond (1<=p)
 (cond (p<=100)
  (cond (1<=p2)
   (cond (p2<=8)
    (some (decide ((length p3:Int)<=4000)))
    (some false))
   (some false))
  (some false))
 (some false):=ci
def zy:Do CO:=[]
def avh:Nat×PV:=(5,.h bm)
def Pi:Do PV:=[.h gG,.h bm,.h qn]
def at9:Nat×PO:=(900,.box 95 Pi)
def zA:FD:=cw 314 f314 .z [.h bm,.h bm] [] (bg [m5,avh] [at9]) false false []
def qf:Nat->Int×Int->At (Int×xe×Int×bh):=mF zy zA
def Ma:CO:=cF zy zA qf func314
def zB:Do CO:=[Ma]
def ge:Do PV:=[.h gG,.h bm,.h qn,.h ko,.h .b,.h bm,.h bm]
def md:Nat×PO:=(900,.box 97 ge)
def zC:FD:=cw 299 f299 .z [.h bm,.h bm,.h bm] [] (bg [ul,aus] [md]) false false []
def lH:Nat->Int×Int×Int->At (Int×xe×Int×bh×Fq×In×Int×Int):=mF zB zC
def Mb:CO:=cF zB zC lH func299
def Fx N n d b:lH (N+1) (n,d,b)=cond (b<(1:Int))
 (some ((1:Int),[],(0:Int),[],[],false,(0:Int),(0:Int)))
 (cond ((8:Int)<b)
  (some ((1:Int),[],(0:Int),[],[],false,(0:Int),(0:Int)))
  (aW (qf N (n,d)) λa=>
   cond (!(a.1=(0:Int)))
    (some (a.1,[],(0:Int),[],[],false,(0:Int),(0:Int)))
    (aW (oD b (24:Nat)) λc=>
     aW (aZ (replicate c ([]:aX)) (0:Int)) λe=>
     aW (aZ (replicate c ([]:aX)) (0:Int)) λf=>
     some ((0:Int),a.2.1,a.2.2.1,a.2.2.2,(List.set (replicate c ([]:aX)) (Int.toNat (0:Int)) [(0:Int)]),false,(0:Int),(0:Int))))):=ci
def zD:Do CO:=[]
def Hq:PS:=bg [g9,am5,aig] [at9]
def Hr:Do (IR×PS):=[((.exit 0),bg [] []),(.ret,bg lc [])]
def Hs:Pl:=.z
def zF:FD:=cw 341 f341 (.n .z (.n .z (.n .z (.n (.n .z (.n (.loop Hq Hr Hs) .z)) .z)))) [.ag Pi] [] (bg lc []) false true []
def hX:Nat->xe×Int×bh->dj:=mF zD zF
def qg:CO:=cF zD zF hX func341
def GU:Do CO:=[]
def GV:FD:=cw 343 f343 .z [.ag Pi,.h bm] [] (bg n7 []) false true []
def VX:Nat->xe×Int×bh×Int->dj:=mF GU GV
def GW:CO:=cF GU GV VX func343
def zG:Do CO:=[qg,GW]
def zH:FD:=cw 320 f320 .z [.ag Pi,.h bm] [] (bg n7 []) false true []
def hY:Nat->xe×Int×bh×Int->dj:=mF zG zH
def qh:CO:=cF zG zH hY func320
def lI:Do CO:=[qg,qh]
def aw0:Nat×PV:=(4,.k (.ow 901))
def uk:PS:=bg [g9,am5,aw0,avh,al4] [md,ami]
def um:Do (IR×PS):=[((.exit 2),bg [g9,am5,aw0,avh] [md,ami]),(.ret,bg lc [])]
def uo:Pl:=.z
def jC:Nat->Nat->Int×Int×Int×xe×Int×bh×Fq×In×Int×Int×bh->At ((Int×Int×xe×Int×bh×Fq×In×Int×Int×bh)⊕(In)):=eZ lI f315 [1,1,1,1,0,1,0,0,1,0,0,1,0,0] uk um uo
def uq:PS:=bg [g9,am5,aw0,avh] [md,ami]
def ur:Do (IR×PS):=[((.exit 0),bg [] []),(.ret,bg lc [])]
def uu:Pl:=(.n .z (.n (.n (.n .z (.n (.loop uk um uo) .z)) .z) .z))
def jD:Nat->Nat->Int×Int×xe×Int×bh×Fq×In×Int×Int×bh->At ((Unit)⊕(In)):=eZ lI f315 [1,1,1,1,0,1,0,0] uq ur uu
def zI:FD:=cw 315 f315 (.n .z (.n .z (.n .z (.n .z (.n (.n .z (.n (.loop uq ur uu) .z)) .z))))) [.ag ge] [] (bg lc []) false true []
def jw:Nat->xe×Int×bh×Fq×In×Int×Int->dj:=mF lI zI
def zJ:CO:=cF lI zI jw func315
def po N m n i k c f d e g h j b:jC N (m+1) (n,i,k,c,f,d,e,g,h,j,b)=aW (aZ e i) λl=>
 cond (k<(length l:Int))
  (aW (aZ e i) λo=>
   aW (aZ o k) λa=>
   cond (a<0)
    (some (.inr false))
    (cond ((length b:Int)<=a)
     (some (.inr false))
     (aW (aZ b a) λy=>
      aW (aZ b a) λp=>
      cond p
       (some (.inr false))
       (aW (aZ c a) λq=>
        cond (!(q.2.2.2=0))
         (some (.inr false))
         (aW (hY N (c,f,d,a)) λr=>
          cond (!r)
           (aW (aZ c a) λs=>
            aW (aZ d s.1) λt=>
            cond t
             (some (.inr false))
             (aW (aZ b a) λu=>
              aW (aZ b a) λv=>
              (jC N m (n,i,(wZ (k+1)),c,f,d,e,g,h,j,(List.set b (Int.toNat a) true)))))
           (aW (aZ b a) λw=>
            aW (aZ b a) λx=>
            (jC N m (n,i,(wZ (k+1)),c,f,d,e,g,h,j,(List.set b (Int.toNat a) true)))))))))
  (some (.inl (n,i,c,f,d,e,g,h,j,b))):=ci
def pv N m n i c b d e f g h j:jD N (m+1) (n,i,c,b,d,e,f,g,h,j)=cond (i<n)
 (aW (jC N N (n,i,0,c,b,d,e,f,g,h,j)) λk=>
  (match k with
  |.inl a=>(jD N m (a.1,(wZ (a.2.1+1)),a.2.2))
  |.inr l=>some (.inr l)))
 (some (.inl ())):=ci
def Fy N c e f a g b d:jw (N+1) (c,e,f,a,g,b,d)=aW (hX N (c,e,f)) λh=>
 cond (!h)
  (some false)
  (cond ((length a:Int)<(1:Int))
   (some false)
   (cond ((8:Int)<(length a:Int))
    (some false)
    (cond (b<(0:Int))
     (some false)
     (cond ((100000:Int)<b)
      (some false)
      (cond (d<(0:Int))
       (some false)
       (cond ((100000:Int)<d)
        (some false)
        (aW (oD (length c:Int) (1:Nat)) λi=>
         aW (jD N N ((length a:Int),(0:Int),c,e,f,a,g,b,d,(replicate i false))) λj=>
         (match j with
         |.inl l=>some true
         |.inr k=>some k)))))))):=ci
def GX:Do CO:=[]
def GY:FD:=cw 316 f316 .z [.h bm,.h bm] [] (bg [aig] []) false true []
def mf:Nat->Int×Int->eF:=mF GX GY
def VY:CO:=cF GX GY mf func316
def Ll N n workers:mf (N+1) (n,workers)=aW (LS n workers) λa=>
 cond (a<0)
  (some (wZ (a+workers)))
  (some a):=ci
def DP:Do CO:=[]
def akc:Do (Nat×PO):=[(900,.box 95 [.k (.ow 901),.h bm,.k (.ow 902)]),(901,.arr 197 Hm true),aq5]
def DQ:FD:=cw 342 f342 .z [.ag Pi] [] (bg [i8] akc) true true [901,902]
def QE:Nat->xe×Int×bh->At (Int×xe×bh):=mF DP DQ
def DR:CO:=cF DP DQ QE func342
def DU:Do CO:=[DR]
def als:Nat×PV:=(2,.k (.pt 901 0))
def i7:Do PV:=[.k .nil,.h bm,.k .nil,.k .nil,.h .b,.h bm,.h bm]
def afu:Nat×PO:=(901,.box 97 i7)
def Lm:PS:=bg [g9,als,(3,.k (.pt 902 0)),aig] [md,afu,(902,.box 97 [.k (.ow 903),.h bm,.k (.ow 904),.k (.ow 905),.h .b,.h bm,.h bm]),(903,.arr 197 Hm true),au3,(905,.arr 38 jr5 true)]
def Ln:Do (IR×PS):=[((.exit 0),bg [i8,art] [(900,.box 97 i7),(901,.box 97 [.k (.ow 902),.h bm,.k (.ow 903),.k (.ow 904),.h .b,.h bm,.h bm]),(902,.arr 197 Hm true),au1,(904,.arr 38 jr5 true)])]
def Lo:Pl:=.z
def DV:FD:=cw 317 f317 (.n .z (.n .z (.n (.n .z (.n (.loop Lm Ln Lo) .z)) .z))) [.ag ge] [] (bg [i8] [(900,.box 97 [.k (.ow 901),.h bm,.k (.ow 902),.k (.ow 903),.h .b,.h bm,.h bm]),(901,.arr 197 Hm true),aq5,(903,.arr 38 jr5 true)]) true false [901,902,903]
def sQ:Nat->xe×Int×bh×Fq×In×Int×Int->At (Int×In×Int×Int×xe×bh×Fq):=mF DU DV
def QF:CO:=cF DU DV sQ func317
def GZ:Do CO:=[]
def G1:FD:=cw 318 f318 .z [.h jr5] [] (bg [(2,.h jr5),am5,aig] []) false false []
def xi:Nat->aX->At (aX×Int×Int):=mF GZ G1
def VZ:CO:=cF GZ G1 xi func318
def zK:Do CO:=[]
def zL:FD:=cw 319 f319 .z [.h jr5] [] (bg [(2,.h jr5),am5,aig] []) false false []
def qi:Nat->aX->At (aX×Int×Int):=mF zK zL
def Mc:CO:=cF zK zL qi func319
def Lp:Do CO:=[qg,GW,qh,DR]
def abs:Do (Nat×PO):=[(900,.box 95 [.k .nil,.h bm,.k .nil]),(901,.box 95 [.k (.ow 902),.h bm,.k (.ow 903)]),(902,.arr 197 Hm true),au1]
def QG:PS:=bg [m5,ac4,(9,.h bm)] abs
def QH:Do (IR×PS):=[((.exit 3),bg [m5,ac4] abs),(.ret,bg [m5,ave,al4] akc)]
def QI:Pl:=.z
def asg:Nat×PV:=(1,.h bm)
def aru:Nat×PV:=(7,.k (.pt 902 0))
def wn:Do (Nat×PO):=[at9,(901,.box 95 [.k .nil,.h bm,.k .nil]),(902,.box 95 [.k (.ow 903),.h bm,.k (.ow 904)]),(903,.arr 197 Hm true),au3]
def QJ:PS:=bg [asg,i8,SW,aru,aur] wn
def QL:Do (IR×PS):=[((.exit 1),bg [asg,i8,SW,aru] wn)]
def QM:Pl:=.z
def Lq:FD:=cw 322 f322 (.n .z (.n .z (.n .z (.n (.n .z (.n (.loop QJ QL QM) .z)) (.n (.n .z (.n (.loop QG QH QI) .z)) .z))))) [.ag Pi,.h bm] [] (bg [m5,ave,al4] [at9]) false false []
def sR:Nat->xe×Int×bh×Int->At (In×Int×xe×Int×bh):=mF Lp Lq
def Yi:CO:=cF Lp Lq sR func322
def sS:Do CO:=[zJ,VY,QF,VZ,Mc,qh,Yi]
def alt:Nat×PO:=(903,.box 97 [.k (.ow 905),.h bm,.k (.ow 906),.k (.ow 907),.h .b,.h bm,.h bm])
def xj:PS:=bg [asg,(2,.h bm),M2,NE,aru,(10,.k (.pt 903 0)),(11,.k (.pt 904 0))] [md,afu,(902,.box 256 wd),alt,(904,.box 256 wd),(905,.arr 197 Hm true),(906,.arr 4 .b true),(907,.arr 38 jr5 true)]
def xk:Do (IR×PS):=[(.normal,bg [asg,M2,NE,aru,(10,.k (.pt 903 0)),(11,.k (.pt 904 0))] [md,afu,(902,.box 256 wd),alt,(904,.box 256 wd),(905,.arr 197 Hm true),(906,.arr 4 .b true),(907,.arr 38 jr5 true)]),(.ret,bg [ul,ac4,aur] [md,(901,.box 256 wd)])]
def xl:Pl:=.z
def xn:Nat->Nat->Int×Int×xe×Int×bh×Fq×In×Int×Int×Int×In×Int×Int×Int×Int×Int×In×Int×In×Int×Int×Int×Int×Int×In×xe×bh×Fq->At ((Int×xe×Int×bh×Fq×In×Int×Int×Int×In×Int×Int×Int×Int×Int×In×Int×In×Int×Int×Int×Int×Int×In×xe×bh×Fq)⊕(Int×xe×Int×bh×Fq×In×Int×Int×Int×Int×Int×In)):=jnF sS f300 [1,1,1,1,1,1,1,0] xj xk xl
def DW:FD:=cw 300 f300 (.n .z (.n .z (.n .z (.n .z (.n .z (.n .z (.n .z (.n (.join xj xk xl) .z)))))))) [.ag ge,.h bm,.h bm] [] (bg [ul,ac4,aur] [md,(901,.box 256 wd)]) false false []
def iQ:Nat->xe×Int×bh×Fq×In×Int×Int×Int×Int->At (Int×xe×Int×bh×Fq×In×Int×Int×Int×Int×Int×In):=mF sS DW
def DX:CO:=cF sS DW iQ func300
def Fz N m p v c e f b g h i s t u w x y z A l n o d j D E k q r a:xn N (m+1) (p,v,c,e,f,b,g,h,i,s,t,u,w,x,y,z,A,l,n,o,d,j,D,E,k,q,r,a)=aW (aZ b p) λF=>
 aW (xi N F) λB=>
 cond (B.2.2=0)
  (aW (aZ a p) λH=>
   aW (aZ a p) λI=>
   some (.inl (p,c,e,f,b,g,h,i,s,t,u,w,x,y,z,A,l,n,o,d,j,p,B.2.1,k,q,r,(List.set a (Int.toNat p) B.1))))
  (aW (aZ b v) λG=>
   aW (qi N G) λC=>
   cond (C.2.2=0)
    (aW (aZ a v) λJ=>
     aW (aZ a v) λK=>
     some (.inl (p,c,e,f,b,g,h,i,s,t,u,w,x,y,z,A,l,n,o,d,j,v,C.2.1,k,q,r,(List.set a (Int.toNat v) C.1))))
    (cond (d=100000)
     (some (.inr (2,c,e,f,b,g,h,i,0,0,0,false)))
     (some (.inr (0,q,l,r,a,n,o,(wZ (d+1)),j,D,E,k))))):=ci
def Ht N c g h d i e j p v:iQ (N+1) (c,g,h,d,i,e,j,p,v)=aW (jw N (c,g,h,d,i,e,j)) λl=>
 cond (!l)
  (some (1,c,g,h,d,i,e,j,0,0,0,false))
  (cond (e=100000)
   (some (2,c,g,h,d,i,e,j,0,0,0,false))
   (aW (mf N (p,(length d:Int))) λk=>
    aW (mf N (v,(length d:Int))) λm=>
    aW (sQ N (c,g,h,d,i,e,j)) λf=>
    aW (xn N N (k,m,c,g,h,d,i,e,j,0,false,0,0,0,0,0,false,f.1,f.2.1,(wZ (f.2.2.1+1)),f.2.2.2.1,k,(-1),(-1),false,f.2.2.2.2.1,f.2.2.2.2.2.1,f.2.2.2.2.2.2)) λn=>
    (match n with
    |.inl a=>aW (hY N (a.2.1,a.2.2.1,a.2.2.2.1,a.2.2.2.2.2.2.2.2.2.2.2.2.2.2.2.2.2.2.2.2.2.2.1)) λo=>
     cond o
      none
      (aW (sR N (a.2.1,a.2.2.1,a.2.2.2.1,a.2.2.2.2.2.2.2.2.2.2.2.2.2.2.2.2.2.2.2.2.2.2.1)) λb=>
       cond (!(b.2.1=0))
        (some (b.2.1,a.2.1,a.2.2.1,a.2.2.2.1,a.2.2.2.2.1,a.2.2.2.2.2.1,a.2.2.2.2.2.2.1,a.2.2.2.2.2.2.2.1,0,0,0,false))
        (cond a.2.2.2.2.2.2.2.2.2.2.2.2.2.2.2.2.2.1
         (some (0,b.2.2.1,b.2.2.2.1,b.2.2.2.2,a.2.2.2.2.2.2.2.2.2.2.2.2.2.2.2.2.2.2.2.2.2.2.2.2.2.2,true,a.2.2.2.2.2.2.2.2.2.2.2.2.2.2.2.2.2.2.1,a.2.2.2.2.2.2.2.2.2.2.2.2.2.2.2.2.2.2.2.1,a.2.2.2.2.2.2.2.2.2.2.2.2.2.2.2.2.2.2.2.2.1,a.2.2.2.2.2.2.2.2.2.2.2.2.2.2.2.2.2.2.2.2.2.1,a.2.2.2.2.2.2.2.2.2.2.2.2.2.2.2.2.2.2.2.2.2.2.1,a.2.2.2.2.2.2.2.2.2.2.2.2.2.2.2.2.2.2.2.2.2.2.2.1))
         (some (0,b.2.2.1,b.2.2.2.1,b.2.2.2.2,a.2.2.2.2.2.2.2.2.2.2.2.2.2.2.2.2.2.2.2.2.2.2.2.2.2.2,b.1,a.2.2.2.2.2.2.2.2.2.2.2.2.2.2.2.2.2.2.1,a.2.2.2.2.2.2.2.2.2.2.2.2.2.2.2.2.2.2.2.1,a.2.2.2.2.2.2.2.2.2.2.2.2.2.2.2.2.2.2.2.2.1,a.2.2.2.2.2.2.2.2.2.2.2.2.2.2.2.2.2.2.2.2.2.1,a.2.2.2.2.2.2.2.2.2.2.2.2.2.2.2.2.2.2.2.2.2.2.1,a.2.2.2.2.2.2.2.2.2.2.2.2.2.2.2.2.2.2.2.2.2.2.2.1))))
    |.inr q=>some q))):=ci
def DY:Do CO:=[]
def Lr:PS:=bg [g9,am5,aig] [md]
def Ls:Do (IR×PS):=[((.exit 0),bg [am5] [])]
def Lt:Pl:=.z
def DZ:FD:=cw 323 f323 (.n .z (.n .z (.n (.n .z (.n (.loop Lr Ls Lt) .z)) .z))) [.ag ge] [] (bg [(2,.h bm)] []) false true []
def na:Nat->xe×Int×bh×Fq×In×Int×Int->eF:=mF DY DZ
def QN:CO:=cF DY DZ na func323
def jx:Do CO:=[zJ,QN,DX]
def aw1:Nat×PV:=(5,.k (.ow 902))
def alq:Nat×PO:=(902,.arr 256 AD true)
def uv:PS:=bg [g9,als,aw1,al4,aus] [md,afu,alq]
def alr:Nat×PO:=(901,.arr 256 AD true)
def uw:Do (IR×PS):=[((.exit 2),bg [g9,als,aw1,al4] [md,afu,alq]),(.ret,bg [i8,WP,aig] [md,alr])]
def ux:Pl:=.z
def mC:Nat->Nat->Int×Int×xe×Int×bh×Fq×In×Int×Int×Int×In×Int×Int×Hn->At ((Int×xe×Int×bh×Fq×In×Int×Int×Int×In×Int×Int×Hn)⊕Ar8):=eZ jx f301 [1,1,1,1,0,0,0,0,1,0,0] uv uw ux
def uy:PS:=bg [g9,als,aw1,al4] [md,afu,alq]
def uz:Do (IR×PS):=[(.ret,bg [i8,WP,aig] [md,alr])]
def uA:Pl:=(.n (.n (.n .z (.n (.loop uv uw ux) .z)) .z) .z)
def mD:Nat->Nat->Int×xe×Int×bh×Fq×In×Int×Int×Int×In×Int×Int×Hn->At Ar8:=eZ jx f301 [1,1,1,1,0,0] uy uz uA
def uB:PS:=bg [g9,als] [md,afu]
def uC:Do (IR×PS):=[(.ret,bg [i8,(3,.k .nil),aig] [md]),(.normal,bg [g9,als] [md,afu])]
def uD:Pl:=.z
def uE:Nat->Nat->xe×Int×bh×Fq×In×Int×Int×Int×In×Int×Int->At ((Int×xe×Int×bh×Fq×In×Int×Int)⊕(xe×Int×bh×Fq×In×Int×Int×Int×In×Int×Int)):=jnF jx f301 [1,0] uB uC uD
def zM:FD:=cw 301 f301 (.n .z (.n (.join uB uC uD) (.n .z (.n .z (.n (.loop uy uz uA) .z))))) [.ag ge] [] (bg [i8,WP,aig] [md,alr]) true false [901]
def jy:Nat->xe×Int×bh×Fq×In×Int×Int->At Ar8:=mF jx zM
def Md:CO:=cF jx zM jy func301
def im N m r p c e f b d g h j k l n i:mC N (m+1) (r,p,c,e,f,b,d,g,h,j,k,l,n,i)=cond (p<(length b:Int))
 (cond d
  (some (.inr (0,c,e,f,b,d,g,h,i)))
  (aW (na N (c,e,f,b,d,g,h)) λo=>
   cond (o=0)
    (some (.inr (4,c,e,f,b,d,g,h,i)))
    (aW (iQ N (c,e,f,b,d,g,h,p,(wZ ((wZ (p+1))+r)))) λa=>
     cond (!(a.1=0))
      (some (.inr (a.1,c,e,f,b,d,g,h,i)))
      (aW (er 32 i [(a.2.2.2.2.2.2.2.2.1,a.2.2.2.2.2.2.2.2.2.1,a.2.2.2.2.2.2.2.2.2.2.1,a.2.2.2.2.2.2.2.2.2.2.2)]) λq=>
       (mC N m (r,(wZ (p+1)),a.2.1,a.2.2.1,a.2.2.2.1,a.2.2.2.2.1,a.2.2.2.2.2.1,a.2.2.2.2.2.2.1,a.2.2.2.2.2.2.2.1,j,k,l,n,q))))))
 (some (.inl (r,c,e,f,b,d,g,h,j,k,l,n,i))):=ci
def kR N m r c a b d e f g i j k l h:mD N (m+1) (r,c,a,b,d,e,f,g,i,j,k,l,h)=aW (mC N N (r,0,c,a,b,d,e,f,g,i,j,k,l,h)) λo=>
 (match o with
 |.inl n=>(mD N m ((wZ (n.1+1)),n.2))
 |.inr p=>some p):=ci
def pw N m c b d e a f g h i j k:uE N (m+1) (c,b,d,e,a,f,g,h,i,j,k)=aW (jw N (c,b,d,e,a,f,g)) λl=>
 cond (!l)
  (some (.inl (1,c,b,d,e,a,f,g)))
  (cond (!a)
   (aW (na N (c,b,d,e,a,f,g)) λn=>
    cond (n=0)
     (some (.inl (1,c,b,d,e,a,f,g)))
     (some (.inr (c,b,d,e,a,f,g,h,i,j,k))))
   (some (.inr (c,b,d,e,a,f,g,h,i,j,k)))):=ci
def ri N c d e f g h i:jy (N+1) (c,d,e,f,g,h,i)=aW (uE N N (c,d,e,f,g,h,i,0,false,0,0)) λj=>
 (match j with
 |.inl b=>some (b.1,b.2.1,b.2.2.1,b.2.2.2.1,b.2.2.2.2.1,b.2.2.2.2.2.1,b.2.2.2.2.2.2.1,b.2.2.2.2.2.2.2,[])
 |.inr a=>aW (mD N N (0,a.1,a.2.1,a.2.2.1,a.2.2.2.1,a.2.2.2.2.1,a.2.2.2.2.2.1,a.2.2.2.2.2.2.1,a.2.2.2.2.2.2.2.1,a.2.2.2.2.2.2.2.2.1,a.2.2.2.2.2.2.2.2.2.1,a.2.2.2.2.2.2.2.2.2.2,[])) λk=>
  some k):=ci
def qj:Do CO:=[Mb,DX,Md]
def au7:Do (Nat×PO):=[(900,.box 97 i7),(901,.box 97 ge),alq]
def uF:PS:=bg [(3,.h mB),ada,(11,.k (.pt 901 0)),(13,.k (.ow 902)),(14,.h bm)] au7
def avy:Nat×PV:=(10,.h bm)
def uG:Do (IR×PS):=[((.exit 0),bg [ada,(11,.k (.pt 901 0)),(13,.k (.ow 902))] au7),(.ret,bg [ada,apc,avy] [md,alr])]
def uH:Pl:=.z
def jE:Nat->Nat->rz×Int×Int×In×Int×Int×xe×Int×bh×Fq×In×Int×Int×Hn->At ((Int×In×Int×Int×xe×Int×bh×Fq×In×Int×Int×Hn)⊕Ar8):=eZ qj f273 [1,1,1,1,0,1,0,0] uF uG uH
def zN:FD:=cw 273 f273 (.n .z (.n .z (.n .z (.n .z (.n (.n .z (.n (.loop uF uG uH) .z)) .z))))) [.h bm,.h bm,.h bm,.h mB] [] (bg [ada,apc,avy] [md,alr]) true false [901]
def lJ:Nat->Int×Int×Int×rz->At Ar8:=mF qj zN
def Mf:CO:=cF qj zN lJ func273
def py N m k i l n o p c d e f b g h j:jE N (m+1) (k,i,l,n,o,p,c,d,e,f,b,g,h,j)=cond (i<(length k:Int))
 (cond (!b)
  (aW (aZ k i) λq=>
   aW (aZ k i) λr=>
   aW (iQ N (c,d,e,f,b,g,h,q.1,r.2)) λa=>
   cond (!(a.1=0))
    (some (.inr (a.1,c,d,e,f,b,g,h,j)))
    (aW (er 32 j [(a.2.2.2.2.2.2.2.2.1,a.2.2.2.2.2.2.2.2.2.1,a.2.2.2.2.2.2.2.2.2.2.1,a.2.2.2.2.2.2.2.2.2.2.2)]) λs=>
     (jE N m (k,(wZ (i+1)),l,n,o,p,a.2.1,a.2.2.1,a.2.2.2.1,a.2.2.2.2.1,a.2.2.2.2.2.1,a.2.2.2.2.2.2.1,a.2.2.2.2.2.2.2.1,s))))
  (some (.inl (l,n,o,p,c,d,e,f,b,g,h,j))))
 (some (.inl (l,n,o,p,c,d,e,f,b,g,h,j))):=ci
def FA N n d f e:lJ (N+1) (n,d,f,e)=aW (lH N (n,d,f)) λa=>
 cond (!(a.1=0))
  (some (a.1,[],0,[],[],false,0,0,[]))
  (aW (jE N N (e,0,0,false,0,0,a.2.1,a.2.2.1,a.2.2.2.1,a.2.2.2.2.1,a.2.2.2.2.2.1,a.2.2.2.2.2.2.1,a.2.2.2.2.2.2.2,[])) λg=>
   (match g with
   |.inl c=>aW (jy N (c.2.2.2.2.1,c.2.2.2.2.2.1,c.2.2.2.2.2.2.1,c.2.2.2.2.2.2.2.1,c.2.2.2.2.2.2.2.2.1,c.2.2.2.2.2.2.2.2.2.1,c.2.2.2.2.2.2.2.2.2.2.1)) λb=>
    aW (er 32 c.2.2.2.2.2.2.2.2.2.2.2 b.2.2.2.2.2.2.2.2) λh=>
    some (b.1,b.2.1,b.2.2.1,b.2.2.2.1,b.2.2.2.2.1,b.2.2.2.2.2.1,b.2.2.2.2.2.2.1,b.2.2.2.2.2.2.2.1,h)
   |.inr i=>some i)):=ci
def oh:Do CO:=[]
def rj:PS:=bg [(1,.h AE),i8,aln,al4] [md,(901,.arr 191 VV true)]
def rk:Do (IR×PS):=[((.exit 0),bg [rt] [(900,.arr 191 VV true)])]
def rl:Pl:=.z
def eT:Nat->Nat->Hn×Int×xe×Int×bh×Fq×In×Int×Int×rz->At (rz):=eZ oh f274 [1,1,0,1,0,0] rj rk rl
def xo:FD:=cw 274 f274 (.n .z (.n .z (.n (.n .z (.n (.loop rj rk rl) .z)) .z))) [.ag ge,.h AE] [] (bg [ld] [(900,.arr 191 VV true)]) true true [900]
def oj:Nat->xe×Int×bh×Fq×In×Int×Int×Hn->At (rz):=mF oh xo
def Lu:CO:=cF oh xo oj func274
def om N m l i c b d e f g h a:eT N (m+1) (l,i,c,b,d,e,f,g,h,a)=cond (i<(length l:Int))
 (aW (aZ l i) λk=>
  cond (0<=k.2.2.1)
   (aW (aZ l i) λn=>
    cond (n.2.2.1<(length c:Int))
     (aW (aZ l i) λo=>
      cond (!o.2.2.2)
       (aW (aZ l i) λp=>
        aW (aZ c p.2.2.1) λj=>
        aW (er 16 a [(j.1,j.2.1)]) λq=>
        (eT N m (l,(wZ (i+1)),c,b,d,e,f,g,h,q)))
       ((eT N m (l,(wZ (i+1)),c,b,d,e,f,g,h,a))))
     ((eT N m (l,(wZ (i+1)),c,b,d,e,f,g,h,a))))
   ((eT N m (l,(wZ (i+1)),c,b,d,e,f,g,h,a))))
 (some a):=ci
def D0 N c a b d e f g l:oj (N+1) (c,a,b,d,e,f,g,l)=aW (eT N N (l,0,c,a,b,d,e,f,g,[])) λh=>
 some h:=ci
def lK:Do CO:=[L_,Mf,Lu]
def av0:Nat×PV:=(12,.h bm)
def aud:Nat×PO:=(900,.arr 256 AD true)
def ano:Do (Nat×PO):=[aud,au2,(901,.arr 191 VV true)]
def uI:PS:=bg [m7,aoc,(11,.k (.ow 901)),av0,(13,.h bm)] ano
def arm:Nat×PO:=(901,.arr 3 bm true)
def uJ:Do (IR×PS):=[((.exit 2),bg [m7,arz,(11,.k (.ow 902)),av0] [aud,arm,(902,.arr 191 VV true)])]
def uK:Pl:=.z
def mE:Nat->Nat->Int×Int×Hn×aX×rz->At (Int×Hn×aX×rz):=eZ lK f228 [1,1,1,1,1,1,1,0,1,0,0,1,0,0,1,0,0] uI uJ uK
def uL:PS:=bg [m7,aoc,(11,.k (.ow 901)),av0] ano
def uM:Do (IR×PS):=[((.exit 0),bg [m7,arz] [aud,arm])]
def uN:Pl:=(.n .z (.n (.n (.n .z (.n (.loop uI uJ uK) .z)) .z) .z))
def jF:Nat->Nat->Int×Hn×aX×rz->At (Hn×aX):=eZ lK f228 [1,1,1,1,1,1,1,0,1,0,0] uL uM uN
def zO:FD:=cw 228 f228 (.n .z (.n .z (.n .z (.n .z (.n .z (.n .z (.n .z (.n (.n .z (.n (.loop uL uM uN) .z)) .z)))))))) [.h bm,.ag alk] [] (bg [ld,avh,al4] lw) true true [900]
def gg:Nat->Int×Int×Int×rz->At Ar5:=mF lK zO
def zP:CO:=cF lK zO gg func228
def pz N m i k l a s:mE N (m+1) (i,k,l,a,s)=aW (aZ s i) λd=>
 aW (aZ s i) λb=>
 cond (k<b.2)
  (aW (er 8 a [k]) λc=>
   (mE N m (i,(wZ (k+1)),l,c,s)))
  (some (i,l,a,s)):=ci
def pA N m i l b s:jF N (m+1) (i,l,b,s)=cond (i<(length s:Int))
 (aW (aZ s i) λd=>
  aW (aZ s i) λc=>
  aW (mE N N (i,c.1,l,b,s)) λa=>
  (jF N m ((wZ (a.1+1)),a.2.1,a.2.2.1,a.2.2.2)))
 (some (l,b)):=ci
def rm N n p p2 p3:gg (N+1) (n,p,p2,p3)=cond (n<0)
 (some (0,1,[]))
 (cond (1000<n)
  (some (0,1,[]))
  (aW (jv N (p,p2,p3)) λc=>
   cond (!c)
    (some (0,1,[]))
    (cond (n=0)
     (some (0,0,[]))
     (aW (lJ N (n,p,p2,p3)) λa=>
      cond (!(a.1=0))
       (some (0,a.1,[]))
       (aW (oj N a.2) λd=>
        aW (jF N N (0,a.2.2.2.2.2.2.2.2,[],d)) λb=>
        some ((length b.1:Int),0,b.2)))))):=ci
def xp:Do CO:=[]
def xq:FD:=cw 298 f298 .z [.h bm,.h bm] [] (bg [aig] []) false true []
def kS:Nat->Int×Int->eF:=mF xp xq
def Lv:CO:=cF xp xq kS func298
def D1 N n block:kS (N+1) (n,block)=cond (n<0)
 (some 0)
 (cond (1000<n)
  (some 0)
  (cond (block<1)
   (some 0)
   (cond (100<block)
    (some 0)
    (aW (IX (wZ ((wZ (n+block)) - 1)) block) λa=>
     some (wZ a))))):=ci
def zT:Do CO:=[zP,Lv]
def zU:FD:=cw 271 f271 .z [.h bm,.h bm,.ag alk] [] (bg [al4,aus] []) false true []
def lL:Nat->Int×Int×Int×Int×rz->FM:=mF zT zU
def Mg:CO:=cF zT zU lL func271
def FB N n a p p2 p3:lL (N+1) (n,a,p,p2,p3)=cond (a<1)
 (some (0,1))
 (cond (100<a)
  (some (0,1))
  (aW (gg N (n,p,p2,p3)) λb=>
   cond (!(b.2.1=0))
    (some (0,b.2.1))
    (aW (kS N (n,a)) λd=>
     aW (gg N (d,p,p2,p3)) λc=>
     some ((wZ (2*c.1)),c.2.1)))):=ci
def sT:Do CO:=[Mg]
def afs:Nat×PO:=(900,.arr 69 jr3 true)
def xr:PS:=bg [(0,.h jr7),avy,(12,.k (.ow 900)),(13,.h jr3),(14,.h bm)] [afs]
def xt:Do (IR×PS):=[((.exit 0),bg [avy,(12,.k (.ow 900)),(13,.h jr3)] [afs])]
def xu:Pl:=.z
def xv:Nat->Nat->aX×Int×Int×Int×aX->At Ar5:=eZ sT f227 [1,1,1,1,1,0,1,0,0] xr xt xu
def D2:FD:=cw 227 f227 (.n .z (.n .z (.n .z (.n .z (.n .z (.n (.n .z (.n (.loop xr xt xu) .z)) .z)))))) [.h jr7,.h bm,.ag alk] [] (bg [n8,(7,.h jr3),aur,(9,.h bm)] [afs]) true true [900]
def kT:Nat->aX×Int×Int×Int×rz->aoU:=mF sT D2
def D3:CO:=cF sT D2 kT func227
def Hu N l c p p2 p3:kT (N+1) (l,c,p,p2,p3)=aW (lL N ((length l:Int),c,p,p2,p3)) λa=>
 cond (!(a.2=0))
  (some (0,0,a.2,[]))
  (aW (xv N N (l,a.1,0,0,[])) λb=>
   some (b.2.1,b.1,0,b.2.2)):=ci
def D4:Do CO:=[Lk,D3]
def aro:Do (Nat×PV):=[(0,.h jr7),asg,(13,.h bm),ab7,(16,.h bm),(17,.h bm)]
def Lw:PS:=bg aro lw
def Lx:Do (IR×PS):=[((.exit 2),bg aro lw)]
def Lz:Pl:=.z
def LA:PS:=bg [(0,.h jr7),asg,(13,.h bm),ab7,(16,.h bm)] lw
def LB:Do (IR×PS):=[((.exit 0),bg [asg,(13,.h bm),ab7] lw)]
def LC:Pl:=(.n .z (.n (.n (.n .z (.n (.n (.loop Lw Lx Lz) .z) .z)) .z) .z))
def D5:FD:=cw 180 f180 (.n .z (.n .z (.n .z (.n .z (.n .z (.n (.n .z (.n (.loop LA LB LC) .z)) .z)))))) [.h jr7,.h bm,.h bm,.ag alk] [] (bg [m7,(9,.h bm),avy] lw) true true [900]
def nc:Nat->aX×Int×Int×Int×Int×rz->At Ar5:=mF D4 D5
def QO:CO:=cF D4 D5 nc func180
def qk:Do CO:=[D3,zP]
def uO:PS:=bg [(0,.h qn),(11,.h bm),(14,.h bm),ab7,(16,.h bm)] lw
def uP:Do (IR×PS):=[((.exit 0),bg [(11,.h bm),(14,.h bm),ab7] lw)]
def uQ:Pl:=.z
def uR:Nat->Nat->bh×Int×Int×Int×aX->At Ar5:=eZ qk f181 [1,1,1,1,1,1,0,1,0,0] uO uP uQ
def zV:FD:=cw 181 f181 (.n .z (.n .z (.n .z (.n .z (.n .z (.n .z (.n (.n .z (.n (.loop uO uP uQ) .z)) .z))))))) [.h qn,.h bm,.ag alk] [] (bg [n8,aus,aur] lw) true true [900]
def lM:Nat->bh×Int×Int×Int×rz->At Ar5:=mF qk zV
def Mh:CO:=cF qk zV lM func181
def FF N a d p p2 p3:lM (N+1) (a,d,p,p2,p3)=aW (oD (length a:Int) (4:Nat)) λe=>
 aW (kT N ((replicate e (0:Int)),d,p,p2,p3)) λb=>
 cond (!(b.2.2.1=(0:Int)))
  (some ((0:Int),b.2.2.1,[]))
  (aW (gg N ((length a:Int),p,p2,p3)) λc=>
   cond (!(c.2.1=(0:Int)))
    (some ((0:Int),c.2.1,[]))
    (aW (uR N N (a,b.2.1,c.1,(0:Int),[])) λz4=>
     some ((wZ (z4.1+z4.2.1)),(0:Int),z4.2.2))):=ci
def oq:Do CO:=[QO,Mh]
def rn:PS:=bg [(0,.h jr7),m7,(9,.h bm),av0,aod,(14,.k (.ow 902)),(15,.h bm)] [(900,.arr 3 bm true),(901,.arr 69 jr3 true),au2]
def rp:Do (IR×PS):=[((.exit 0),bg [(9,.h bm),av0,asc,avt] [afs,arm])]
def rq:Pl:=.z
def ru:Nat->Nat->aX×Int×Int×Int×aX×aX×aX->alu:=eZ oq f110 [1,1,1,1,1,1,1,0,1,0,0] rn rp rq
def ak3:Do PV:=[.h bm,.h bm,.h bm,.h bm,.h mB]
def xw:FD:=cw 110 f110 (.n .z (.n .z (.n .z (.n .z (.n .z (.n .z (.n .z (.n (.n .z (.n (.loop rn rp rq) .z)) .z)))))))) [.h jr7,.ag ak3] [] (bg [ld,aln,al4,aus] [afs,arm]) true true [900,901]
def kU:Nat->aX×Int×Int×Int×Int×rz->alu:=mF oq xw
def LD:CO:=cF oq xw kU func110
def D6 N a w c d e f:kU (N+1) (a,w,c,d,e,f)=aW (nc N (a,w,c,d,e,f)) λb=>
 cond (!(b.2.1=(0:Int)))
  (some ((0:Int),b.2.1,[],[]))
  (aW (oD (length a:Int) (1:Nat)) λh=>
   aW (lM N ((replicate h false),c,d,e,f)) λg=>
   cond (!(g.2.1=(0:Int)))
    (some ((0:Int),g.2.1,[],[]))
    (aW (ru N N (a,b.1,g.1,(0:Int),b.2.2,[],[])) λz4=>
     some ((wZ (z4.1+z4.2.1)),(0:Int),z4.2.2.1,z4.2.2.2))):=ci
def D7:Do CO:=[LD]
def D8:FD:=cw 48 f48 .z [.h jr7,.ag ak3] [] (bg [ld,avh,al4] [afs]) true true [900]
def sU:Nat->aX×Int×Int×Int×Int×rz->At Ar5:=mF D7 D8
def QP:CO:=cF D7 D8 sU func48
def Hv N b w c d e f:sU (N+1) (b,w,c,d,e,f)=aW (kU N (b,w,c,d,e,f)) λa=>
 some (a.1,a.2.1,a.2.2.1):=ci
def Oi:Do CO:=[QP]
def Oj:FD:=cw 9 f9 .z [.ag ak3] [] (bg lc []) false true []
def yg:Nat->Int×Int×Int×Int×rz->dj:=mF Oi Oj
def afm:CO:=cF Oi Oj yg func9
def QQ N w a b c d:yg (N+1) (w,a,b,c,d)=aW (sU N ([1],w,a,b,c,d)) λe=>
 some (decide (e.2.1=0)):=ci
def ql:Do CO:=[]
def uS:PS:=bg [asg,i8,aln,al4] [ut,ajx]
def uT:Do (IR×PS):=[((.exit 0),bg [rt] [(900,.arr 51 VV true)])]
def uU:Pl:=.z
def fI:Nat->Nat->Int×Int×Int×Hn×rz->At (rz):=eZ ql f50 [1,1,0,1,0,0] uS uT uU
def zW:FD:=cw 50 f50 (.n .z (.n .z (.n (.n .z (.n (.loop uS uT uU) .z)) .z))) [.ag au6,.h bm] [] (bg [ld] [(900,.arr 51 VV true)]) true true [900]
def lN:Nat->Int×Hn×Int->At (rz):=mF ql zW
def Mi:CO:=cF ql zW lN func50
def pB N m b i g a c:fI N (m+1) (b,i,g,a,c)=cond (i<(length a:Int))
 (aW (aZ a i) λd=>
  cond d.2.2.2
   (aW (aZ a i) λe=>
    cond (b<=e.2.2.1)
     (aW (aZ a i) λf=>
      aW (aZ a i) λh=>
      aW (er 16 c [(f.1,h.2.1)]) λj=>
      (fI N m (b,(wZ (i+1)),g,a,j)))
     ((fI N m (b,(wZ (i+1)),g,a,c))))
   ((fI N m (b,(wZ (i+1)),g,a,c))))
 (some c):=ci
def FG N g a b:lN (N+1) (g,a,b)=aW (fI N N (b,0,g,a,[])) λc=>
 some c:=ci
def qm:Do CO:=[zo,Mi,tO]
def uV:PS:=bg [g9,am5] [ut]
def uW:Do (IR×PS):=[((.exit 0),bg [] []),(.ret,bg lc [])]
def uX:Pl:=.z
def hL:Nat->Nat->Int×Int×Hn->At ((Unit)⊕(In)):=eZ qm f10 [1,1,0,1,0,0] uV uW uX
def zX:FD:=cw 10 f10 (.n .z (.n .z (.n (.n .z (.n (.loop uV uW uX) .z)) .z))) [.ag au6] [] (bg lc []) false true []
def lO:Nat->Int×Hn->dj:=mF qm zX
def Mj:CO:=cF qm zX lO func10
def pF N m i g a:hL N (m+1) (i,g,a)=cond (i<(length a:Int))
 (aW (aZ a i) λb=>
  aW (lN N (g,a,b.2.2.1)) λd=>
  aW (hC N (g,d)) λc=>
  cond (!b.2.2.2)
   (aW (aZ c b.1) λh=>
    aW (aZ c b.1) λe=>
    aW (aZ c b.2.1) λj=>
    aW (aZ c b.2.1) λf=>
    cond (!(e=f))
     (some (.inr false))
     ((hL N m ((wZ (i+1)),g,a))))
   ((hL N m ((wZ (i+1)),g,a))))
 (some (.inl ())):=ci
def FH N g a:lO (N+1) (g,a)=aW (jt N (g,a)) λb=>
 cond (!b)
  (some false)
  (aW (hL N N (0,g,a)) λc=>
   (match c with
   |.inl e=>some true
   |.inr d=>some d)):=ci
def ot:Do CO:=[VU,QD,L7,L9,aqs,afm,Mj,ajp]
def ou:FD:=cw 3 Tryz.f3 .z [.ag [.h bm,.h AE,.h bm,.h bm],.ag au5,.ag ak3] [] (bg [ava] []) false true []
def gU:Nat->Int×Hn×Int×Int×Int×rz×(Do Ar1)×Int×Int×Int×Int×rz->dj:=mF ot ou
def jL:CO:=cF ot ou gU aA6
def u9 N s b c d x g e w h i j f:gU (N+1) (s,b,c,d,x,g,e,w,h,i,j,f)=cond (30<(length b:Int))
 (some true)
 (cond (12<s)
  (some true)
  (cond (70<(wZ ((length g:Int)+(length e:Int))))
   (some true)
   (cond (60<(length f:Int))
    (some true)
    (aW (sP N (s,b,c,d,x,g,e,w,h,i,j,f)) λa=>
     aW (lF N (s,b,c,d)) λk=>
     cond (!k)
      (cond (a.2.2.2.2.1=1)
       (aW (E1 N (a.1,a.2.1,a.2.2.1,a.2.2.2.1,s,b,c,d)) λl=>
        some l)
       (some false))
      (aW (lG N (x,g,e)) λm=>
       cond (!m)
        (cond (a.2.2.2.2.1=1)
         (aW (E1 N (a.1,a.2.1,a.2.2.1,a.2.2.2.1,s,b,c,d)) λn=>
          some n)
         (some false))
        (cond (!(a.2.2.2.2.1=0))
         (aW (E1 N (a.1,a.2.1,a.2.2.1,a.2.2.2.1,s,b,c,d)) λo=>
          cond o
           (cond (a.2.2.2.2.2.1=0)
            (cond ((length a.2.2.2.2.2.2:Int)=0)
             (cond (a.2.2.2.2.1=10)
              (some true)
              (cond (a.2.2.2.2.1=1)
               (aW (yg N (w,h,i,j,f)) λp=>
                cond (!p)
                 (some true)
                 (cond (x=2)
                  (aW (lO N (s,b)) λq=>
                   some (!q))
                  (some false)))
               (some false)))
             (some false))
            (some false))
           (some false))
         (cond (a.2.2.1=(wZ (c+1)))
          (cond (d<=a.2.2.2.1)
           (cond (!(x=3))
            (some true)
            (aW (Kh N (a.1,a.2.1,s,b)) λr=>
             cond r
              (some (decide ((length a.2.2.2.2.2.2:Int)=(length e:Int))))
              (some false)))
           (some false))
          (some false)))))))):=ci
variable{b:Int}{a c:Nat}{d:bj}
section
open Go Go.RowKit Go.Sort
abbrev Bad(w:WV):Prop:=Dd.wT w.1 w.2.1 w.2.2.1 w.2.2.2.1
def awm{c:lP}(f:WR b d c):d.length<=60/\c.length<=60/\(∀a∈c,1<=a.1/\a.1<=4):=by
 rcases f with⟨_,rfl,h,_⟩|⟨_,rfl,h,e⟩
 .exact⟨h,d5,λa h=>by cases h⟩
 .exact⟨d5,h,λa g=>(e a g).1⟩
def ala(hN:Fu+45<=a){w:WV}(S:w.2.2.2.2.length<=200){m:Do bq}(h:GR c m)(Y:m.length<=30){l:lP}(G:WR b d l):
 ∃(t:Nat) (e I:Int) (y:bj) (qs':lP),t<=7000000/\tw (a+1) ((c:Int),m,b,d,l,w)=some ((t:Int),e,I,y,qs')/\(e=10\/(e=1/\Bad w)\/(e=0/\I=b/\y.length+qs'.length<=60/\(∀x∈y,mO (c:Int) x)/\(∀f∈qs',1<=f.1/\f.1<=4)/\(b=3->qs'=l))):=by
 obtain⟨s,u,g,P,D⟩:=w;have hF:=bP;have a2:=h.len;obtain⟨B,V,U⟩:=awm G;obtain⟨X,L,W⟩:=N0 (N:=a) bv b d l bv bv;obtain rfl:=W.2 G;have a3:=ae4 d l bv bv;obtain⟨J,N,i2⟩:=ako (N:=a) bv (c:Int) m (N1 d l) bv;rw[Uf,h.right bv,ob];simp only[axA,axr];rw[L,ob];simp only[axA,axr];rw[anh bv _ _ _ bv bv,ob,N,ob];simp only;cases J with
 |true=>exact⟨0,10,0,[],[],bv,rfl,.inl rfl⟩
 |false=>
  rw[axr,cd];by_cases p:b=3
  .rw[axn p]
   exact⟨0,0,b,[],l,bv,rfl,.inr (.inr ⟨rfl,rfl,by simpa using V,(λx h=>by cases h),U,λ_=>rfl⟩)⟩
  .rw[axm p]
   have A:∃(t:Nat) (e:Int) (n:bj),Gt a (d,s,u,g,P,D)=some ((t:Int),e,n)/\(e=10\/(e=1/\Bad (s,u,g,P,D))\/(e=0/\t<=7000000/\n.length<=60)):=by
    rcases Dd.aqV (bi:=s) (bl:=u) (g:=g) (P:=P) S with r|r
    .obtain⟨t,e,o,j,k,z,F,Z,Q⟩:=Dd.aky (N:=a) bv r d B
     exact⟨t,e,o,k,Q.elim (λe=>.inr (.inr ⟨e,j,ayj F (ayj (aAy _ _) B)⟩)) .inl⟩
    .obtain⟨t,e,o,j,k⟩:=Dd.ae7 (N:=a) bv r (pk:=D) d B
     exact⟨t,e,o,j,k.elim (λe=>.inr (.inl ⟨e,r⟩)) .inl⟩
   obtain⟨t,e,n,A,i⟩:=A;rw[A,ob,Eb];by_cases v:e=0
   .subst v
    rcases i with i|⟨i,_⟩|⟨_,q,a1⟩
    .cases i
    .cases i
    rw[axn rfl,cd];by_cases E:b=2
    .rw[axn E]
     simp only;rcases aco (N:=a) bv h n bv with⟨j,_⟩|⟨O,j,k,z,F⟩
     .rw[j,ob];exact⟨t,10,b,[],[],q,rfl,.inl rfl⟩
     .rw[j,ob]
      have R:=z.length_le;rw[g_]at R;exact⟨t,0,b,O,[],q,rfl,.inr (.inr ⟨rfl,rfl,(by simp only[ayq];omega),(λx C=>by
       have:=aci h.tie x (z.subset C);exact⟨⟨bv,bv⟩,bv,bv⟩),(λf h=>by cases h),λh=>absurd h p⟩)⟩
    .rw[axm E]
     simp only;have H:PA a ((c:Int),m)=some (400 - ((m.length:Nat):Int)):=by
      obtain⟨M,rfl⟩:=sC a 1;rw[ael,h.right bv,ob];simp only[axA,axr];rw[fF bv bv]
     rcases ajZ (N:=a) bv h n bv with⟨j,_⟩|⟨K,j,k⟩
     .rw[j,ob,H,ob,cd]
      simp only[ayq];rw[axm bv];exact⟨t,10,b,[],[],q,rfl,.inl rfl⟩
     .rw[j,ob,H,ob,cd]
      simp only;have a0:=k.len;rw[axm bv];exact⟨t,0,b,K,[],q,rfl,.inr (.inr ⟨rfl,rfl,(by simp only[ayq];omega),(λx C=>by
       have:=k.rng x C;exact⟨⟨bv,bv⟩,bv,bv⟩),(λf h=>by cases h),λh=>absurd h p⟩)⟩
   .rw[axm v]
    refine⟨0,e,0,[],[],bv,rfl,?_⟩;rcases i with i|i|i
    .exact .inl i
    .exact .inr (.inl i)
    .exact absurd i.1 v
def anQ{N:Nat}(F:Fu+45<=N){w:WV}(z:w.2.2.2.2.length<=200)(s:SV)(H:s.2.1.length<=30)(k:Int)(p:bj)(l:lP)(he:p.length<=100000)(hq:l.length<=100000):
 ∃(e:Int) (o:Do bq) (i a D:Int) (u:aX),GM (N+1) s (k,p,l) w=some ((s.1,o,i,a),e,D,u)/\
  ((e≠0/\(s.1,o,i,a)=s/\D=0/\u=[]/\(e=1/\(¬StR s\/¬WR k p l)\/StR s/\WR k p l/\(e=10\/e=1/\(Bad w\/k=2/\¬Ly s.2.1))))\/
   (e=0/\StR s/\WR k p l/\i=s.2.2.1+1/\s.2.2.2<=a/\o.length<=400/\(k=3->o=s.2.1/\u.length=l.length))):=by
 obtain⟨g,C,i,a⟩:=s;obtain⟨O,Q,v,P,L⟩:=w;simp only at H z;have hF:=bP;obtain⟨b,Y,G⟩:=afb (N:=N+1) bv (g,C,i,a) (by simp only;omega);unfold GM;rw[Y,ob];cases b with
 |false=>exact⟨1,_,_,_,_,_,rfl,.inl ⟨d6,rfl,rfl,rfl,.inl ⟨rfl,.inl λh=>by have:=G.2 h;cases this⟩⟩⟩
 |true=>
  have f:=G.1 rfl;have x:=f;unfold StR at x;simp only at x;obtain⟨⟨h0,q⟩,a8,aa⟩:=x;obtain⟨n,rfl⟩:=nN g;rw[axw]at q;rw[axL];simp only;by_cases d:WR k p l
  .obtain⟨t,e,A,r,qs',ht,Z,a1⟩:=ala (w:=(O,Q,v,P,L)) F z q H d
   rw[Z,ob];simp only;rcases a1 with rfl|⟨rfl,y⟩|⟨rfl,rfl,a2,E,X,V⟩
   .exact⟨10,_,_,_,_,_,rfl,.inl ⟨d6,rfl,rfl,rfl,.inr ⟨f,d,.inl rfl⟩⟩⟩
   .exact⟨1,_,_,_,_,_,rfl,.inl ⟨d6,rfl,rfl,rfl,.inr ⟨f,d,.inr ⟨rfl,.inl y⟩⟩⟩⟩
   .rw[dS rfl,show wZ (((r.length:Nat):Int)+((qs'.length:Nat):Int))=((r.length+qs'.length:Nat):Int) by rw[fF bv bv];omega]
    by_cases I:(1<=v/\v<=100)/\1<=P/\P<=8
    .obtain⟨U,rfl⟩:=nN v
     obtain⟨M,rfl⟩:=nN P;obtain⟨m,us,_,hm,ho⟩:=Dd.aoB (g:=U) (P:=M) (picks:=L) bv bv bv bv z (r.length+qs'.length) a2;rw[ho (N+1) bv,ob,dS rfl,show wZ (i+1)=i+1 from fF bv bv,show wZ ((t:Int)+(m:Int))=(t:Int)+(m:Int)from fF bv bv,show wZ (a+((t:Int)+(m:Int)))=a+((t:Int)+(m:Int))from fF bv bv,cd];by_cases J:A=1
     .rw[axn J]
      rcases add_eq (N:=N+1) bv q r bv with⟨_,y⟩|⟨S,a0,j⟩
      .exact absurd E y
      .have a9:=a0.len
       rcases j with⟨a7,_⟩|⟨_,o,j,W⟩
       .omega
       .rw[j,ob,dS rfl]
        refine⟨0,_,_,_,_,_,rfl,.inr ⟨rfl,f,d,rfl,(by show a<=a+_;omega),?_,λh=>by omega⟩⟩;rw[W.perm.length_eq,axG,Vc (KS n C S)];omega
     .rw[axm J,cd]
      by_cases B:A=2
      .rw[axn B]
       obtain⟨e,o,all,j,a4⟩:=drop_eq (N:=N+1) bv q r bv;rw[j,ob,cd];rcases a4 with⟨c,_,R⟩|⟨rfl,q1,_⟩
       .obtain⟨rfl,hn⟩:=R E
        rw[axm c];exact⟨1,_,_,_,_,_,rfl,.inl ⟨d6,rfl,rfl,rfl,.inr ⟨f,d,.inr ⟨rfl,.inr ⟨B,hn⟩⟩⟩⟩⟩
       .rw[axn rfl]
        have a3:=q1.length_le;rw[g_,g_]at a3;exact⟨0,_,_,_,_,_,rfl,.inr ⟨rfl,f,d,rfl,(by show a<=a+_;omega),(by show o.length<=400;omega),λh=>by omega⟩⟩
      .have K:A=3:=by rcases d with⟨h,_⟩|⟨h,_⟩<;>omega
       rw[axm B,dS K];obtain⟨⟨e,u⟩,j,_,a5,a6⟩:=XR (N:=N+1) bv q qs' bv;rw[j,ob,cd];by_cases c:e=0
       .subst c
        rw[axn rfl];exact⟨0,_,_,_,_,_,rfl,.inr ⟨rfl,f,d,rfl,(by show a<=a+_;omega),(by show C.length<=400;omega),λ_=>⟨rfl,by rw[<-V K];exact a5 rfl⟩⟩⟩
       .rw[axm c]
        exact⟨e,_,_,_,_,_,rfl,.inl ⟨c,rfl,rfl,rfl,.inr ⟨f,d,.inl ((a6 X).resolve_left c)⟩⟩⟩
    .rw[Dd.N6 bv I,ob,cU d6]
     exact⟨1,_,_,_,_,_,rfl,.inl ⟨d6,rfl,rfl,rfl,.inr ⟨f,d,.inr ⟨rfl,.inl λh=>I h.2.2⟩⟩⟩⟩
  .rw[ae8 F q he hq d,ob]
   exact⟨1,_,_,_,_,_,rfl,.inl ⟨d6,rfl,rfl,rfl,.inl ⟨rfl,.inr d⟩⟩⟩
end
section
open Go Go.RowKit Go.Sort
def FI(N:Nat){n:Nat}(A:n<=64){l:bw}(u:h9 n l)(z:l.length<=100000):∀(m i:Nat) (k:In) (a:aX),l.length - i<m->i<=l.length->Iv n l a->
 ∃d b,dF N m ((n:Int),l.map NN,k,(i:Int),a)=some ((n:Int),l.map NN,d,b)/\Iv n l b/\((d=k/\b=a/\∀e∈l.drop i,par a e.1=par a e.2)\/(d=true/\sm b<sm a))
 |0,i,k,a,h,_,_=>absurd h bv
 |m+1,i,k,a,G,F,f=>by
  rw[yr,cd];by_cases q:i<l.length
  rotate_left
  .rw[axm d7,aym bv]
   exact⟨_,_,rfl,f,.inl ⟨rfl,rfl,d5⟩⟩
  rw[axn d7];obtain⟨x,p⟩:=get_at (xs:=l) (i:=i) q;have r:=u x (axB p);have D:(l.map NN)[i]? =some (NN x):=by rw[axM,p];rfl
  have B:=f.get r.1;have C:=f.get r.2;have H:=f.len;simp only[ba D,ob,NN,cd];rw[axm bv,axm bv,axm bv,axm bv,b9 bv,cQ p];simp only[ba B.1,ba C.1,ob,axw];by_cases c:par a x.1=par a x.2
  .rw[axn bv]
   obtain⟨d,b,s,t,j⟩:=FI N A u z m (i+1) k a bv bv f;refine⟨d,b,s,t,?_⟩;rcases j with⟨g,o,w⟩|j
   .exact .inl ⟨g,o,az7.2 ⟨c,w⟩⟩
   .exact .inr j
  .rw[axm bv]
   have em:(if((par a x.2:Nat):Int)<((par a x.1:Nat):Int)then((par a x.2:Nat):Int)else((par a x.1:Nat):Int))=((min (par a x.1) (par a x.2):Nat):Int):=by
    split<;>omega
   rw[em];obtain⟨y,E⟩:=get_at (xs:=a.set x.1 ((min (par a x.1) (par a x.2):Nat):Int)) (i:=x.2) (by rw[ayA];omega);simp only[ba E,ob];have v:=f.low (axB p) r.1 r.2 c;obtain⟨d,b,s,t,j⟩:=FI N A u z m (i+1) true _ bv bv v.1;refine⟨d,b,s,t,.inr ?_⟩;rcases j with⟨g,o,w⟩|⟨g,o⟩
   .exact⟨g,by rw[o];exact v.2⟩
   .exact⟨g,by have:=v.2;omega⟩
def Ol(N:Nat)(i:Fu<=N){n:Nat}(k:n<=64){l:bw}(g:h9 n l)(j:l.length<=100000):∀(m:Nat) (a:aX),sm a+1<m->Iv n l a->
 ∃b,ij N m ((n:Int),l.map NN,true,a)=some b/\Iv n l b/\∀e∈l,par b e.1=par b e.2
 |0,a,h,_=>absurd h bv
 |m+1,a,q,p=>by
  rw[mQ];simp only[axL];obtain⟨r,b,d,f,c⟩:=FI N k g j N 0 false a (by rw[bP]at i;omega) bv p;rw[zQ]at d;rw[d,ob];simp only;rcases c with⟨rfl,rfl,c⟩|⟨rfl,c⟩
  .obtain⟨o,rfl⟩:∃o,m=o+1:=⟨m - 1,bv⟩
   rw[mQ];exact⟨_,rfl,f,by simpa using c⟩
  .exact Ol N i k g j m b bv f
def LF(N:Nat)(l:bj){n:Nat}(b:n<=64):∀(m v:Nat) (a:aX),n - v<m->v<=n->a.length<=v->
 il N m ((n:Int),l,(v:Int),a)=some ((n:Int),l,a++((List.range n).drop v).map λv:Nat=>(v:Int))
 |0,v,a,h,_,_=>absurd h bv
 |m+1,v,a,d,f,e=>by
  rw[yt,cd];by_cases q:v<n
  .have c:(List.range n)[v]? =some v:=azn q
   rw[axn bv,bW bv d7,ob,b9 bv,LF N l b m (v+1) _ bv bv d7,cQ c];simp
  .rw[axm bv,aym d7]
   simp
def D9(p:Fu+1<=a)(l:c<=64)(u:d.length<=100000)(eX:∀e∈d,mO (c:Int) e):hC a ((c:Int),d)=some (Hd (c:Int) d):=by
 obtain⟨a,rfl⟩:=sC a 1;have h:=x3 (n:=(c:Int)) bv eX;rw[axw]at h;have m:=LF a d l a 0 [] (by rw[bP]at p;omega) bv d5;rw[zQ,ayg,ax3]at m;rw[AF,m,ob];simp only;have q:∀v,v<c->((List.range c).map λv:Nat=>(v:Int))[v]? =some (v:Int):=λv b=>by
  rw[axM,azn b];rfl
 have w:∀v,v<c->par ((List.range c).map λv:Nat=>(v:Int)) v=v:=λv b=>by
  unfold par;simp only[ayL,q v b,aBk,axw]
 have z:Iv c (d.map oz) ((List.range c).map λv:Nat=>(v:Int)):=⟨d5,λi t=>⟨i,q i t,axp _⟩,λf _ v b=>by rw[w v b]⟩;have B:sm ((List.range c).map λv:Nat=>(v:Int))<=64*64:=by
  have:=aoy (out:=(List.range c).map λv:Nat=>(v:Int)) (k:=64) λx A=>by
   obtain⟨v,b,rfl⟩:=axC.1 A;have:=ayi.1 b;omega
  rw[axx,aBG]at this;exact ayj this (azs _ l)
 obtain⟨r,n,g,o⟩:=Ol a bv l h (by simpa using u) a _ (by rw[bP]at p;omega) z;rw[<-PW eX]at n;rw[n,ob];have s:Cl c (d.map oz) (par r):=⟨λv b=>(g.get b).2,λv b=>g.uni (par r) o v b,o,g.uni⟩;have y:=s.uniq (wH _ h) λe=>azy;congr 1;unfold Hd;rw[axw];refine ayR λj=>?_;rw[axM];by_cases k:j<c
 .rw[(g.get k).1,azn k,y j k];rfl
 .rw[ax4 (by have:=g.len;omega),ax4 d7];rfl
def lgF:Nat->Nat->Nat
 |0,_=>0
 |j+1,x=>if x=0 then 0 else lgF j (x/2)+1
def anR:∀x:Fin 64,lgF 7 x.1=mA (x.1+1):=d6
def Om(N:Nat):∀(j m x k:Nat),x<2^j->j<m->x<=100->k+j<=100->lE N m ((k:Int),(x:Int))=some ((k+lgF j x:Nat):Int)
 |j,0,x,k,_,h,_,_=>absurd h bv
 |0,m+1,x,k,h,_,_,_=>by
  rw[tK,cU (by simp at h;omega)];rfl
 |j+1,m+1,x,k,h,b,d,a=>by
  rw[tK,cd,lgF];by_cases c:x=0
  .rw[axm bv,axn c];rfl
  .rw[axn bv,axm c,b9 bv,show wZ (Int.tdiv (x:Int) 2)=((x/2:Nat):Int) by
    rw[show Int.tdiv (x:Int) 2=((x/2:Nat):Int)from rfl,fF bv bv],Om N j m (x/2) (k+1) (by rw[Nat.pow_succ]at h;omega) bv bv bv]
   congr 2;omega
def anS(e:9<=a)(b:1<=c)(d:c<=64):o5 a (c:Int)=some (mA c:Int):=by
 obtain⟨a,rfl⟩:=sC a 1;have h:=anR ⟨c - 1,bv⟩;simp only[show c - 1+1=c by omega]at h;rw[Lj,cU bv,cU bv,show wZ ((c:Int) - 1)=((c - 1:Nat):Int) by rw[fF bv bv];omega,zQ.symm,Om a 7 a (c - 1) 0 bv bv bv bv,ob,h,axY]
def V0{N:Nat}(Z:Fu+12<=N){n:Nat}(L:1<=n)(M:n<=64)(a:Do bq)(hl:a.length<=400):∃r,eo N N (((0:Nat):Int),(n:Int),a,[])=some r/\(r=.inl ((n:Int),a,b_ a 0)/\(∀t∈a,ee n t)/\a.Pairwise qb\/r=.inr false/\¬((∀t∈a,ee n t)/\a.Pairwise qb)):=by
 have Y:=bP;refine lp (F:=λm k (d:bj)=>eo N m ((k:Int),(n:Int),a,d)) (n:=a.length) (I:=λk d=>d=b_ (a.take k) 0/\(∀t∈a.take k,ee n t)/\(a.take k).Pairwise qb) (λm k d Q e=>?_) (λm d e=>⟨_,by rw[ph,cU bv],.inl ⟨by rw[e.1,axV (axp _)],by rw[axV (axp _)]at e;exact e.2⟩⟩) (m:=N) (i:=0) (s:=[]) bv bv ⟨by simp[b_],d5,d5⟩;obtain⟨C,e⟩:=e;obtain⟨x,f⟩:=get_at (xs:=a) (i:=k) Q;have R:=axB f;have a0:d.length<=400:=by
  rw[C];have:=ly (a.take k) 0;rw[ax9]at this;omega
 rw[ph,dS bv,ba f,ob,anS bv L M,ob];have g:∀r:At (Int×Do bq×bj⊕In),r=some (.inr false)->¬((∀t∈a,ee n t)/\a.Pairwise qb)->∃b,r=some b/\(b=.inl ((n:Int),a,b_ a 0)/\(∀t∈a,ee n t)/\a.Pairwise qb\/b=.inr false/\¬((∀t∈a,ee n t)/\a.Pairwise qb)):=λr U h=>⟨_,U,.inr ⟨rfl,h⟩⟩;by_cases p:ee n x
 .obtain⟨G,H,J,u,K⟩:=p
  rw[cU bv,cU bv,cU bv,cU bv,cU bv];have P:∀t∈a.take (k+1),ee n t:=λt h=>by
   rw[bU f]at h;rcases axy.1 h with h|h
   .exact e.1 t h
   .rw[axK.1 h];exact⟨G,H,J,u,K⟩
  have O:b_ (a.take (k+1)) 0=if x.2.2.2=true then d++[(x.1,x.2.1)]else d:=by
   rw[bU f,C];unfold b_;rw[ayU,aya,ayF,aBM];by_cases q:x.2.2.2=true
   .simp[q,u]
   .simp[q]
  have j:∀(z:Int×Int×Do bq×bj×Int×Int×Int×In),z=((k:Int),(n:Int),a,d,x.1,x.2.1,x.2.2.1,x.2.2.2)->(a.take (k+1)).Pairwise qb->
   ∃E,(E=b_ (a.take (k+1)) 0/\(∀t∈a.take (k+1),ee n t)/\(a.take (k+1)).Pairwise qb)/\(cond z.2.2.2.2.2.2.2 (aW (er (16:Nat) z.2.2.2.1 [(z.2.2.2.2.1,z.2.2.2.2.2.1)]) λW=>eo N m (wZ (z.1+1),(z.2.1,(z.2.2.1,W)))) (eo N m (wZ (z.1+1),(z.2.1,(z.2.2.1,z.2.2.2.1)))))=eo N m (((k+1:Nat):Int),(n:Int),a,E):=λz V S=>by
   subst V;refine⟨_,⟨rfl,P,S⟩,?_⟩;simp only;rw[O,cb,b9 bv];split
   .rw[bW bv d7,ob]
   .rfl
  obtain⟨X,rfl⟩:=sC N 1;rw[DM,cd];rcases az4 k with B|B
  .subst B
   rw[axm bv,ob];exact .inl (j _ rfl (by rw[bU f];simp))
  .obtain⟨k,rfl⟩:=sC k 1
   obtain⟨y,D⟩:=get_at (xs:=a) (i:=k) bv;have o:=U_ D f e.2;have l:¬qb y x->¬((∀t∈a,ee n t)/\a.Pairwise qb):=λc h=>c (o.1 (h.2.sublist (aBN _ _)));rw[axn bv,show wZ (((k+1:Nat):Int) - 1)=(k:Int) by rw[fF bv bv];omega,ba D,ob,ob,ob,cd];unfold qb at l;by_cases v:x.1<y.1
   .rw[axn v,ob];exact .inr (g _ rfl (l bv))
   rw[axm v,cd];by_cases w:y.1=x.1
   .rw[axn w,cd]
    by_cases A:x.2.1<=y.2.1
    .rw[axn A,ob];exact .inr (g _ rfl (l bv))
    .rw[axm A,ob]
     exact .inl (j _ rfl (o.2 (by unfold qb;omega)))
   .rw[axm w,ob]
    exact .inl (j _ rfl (o.2 (by unfold qb;omega)))
 .refine .inr (g _ ?_ λh=>p (h.1 x R))
  unfold ee at p;rw[cd];split
  .rfl
  rw[cd];split
  .rfl
  rw[cd];split
  .rfl
  rw[cd];split
  .rfl
  rw[dS bv]
def FJ(N:Nat)(n:Nat)(d:n<=64)(b:Do bq)(a:bj){l:aX}(c:l.length=n):∀(m i k:Nat),n - i<m->i<=n->k<=i->
 hI N m ((k:Int),(i:Int),(n:Int),b,a,l)=some (((k+Xv i (l.drop i):Nat):Int),(n:Int),b,a)
 |0,i,k,h,_,_=>absurd h bv
 |m+1,i,k,j,f,g=>by
  rw[DL,cd];by_cases q:i<n
  .rw[axn bv]
   obtain⟨x,e⟩:=get_at (xs:=l) (i:=i) bv;simp only[ba e,ob,cd];rw[b9 bv,b9 bv,cQ e,Xv];split
   .rw[FJ N n d b a c m (i+1) (k+1) bv bv bv]
    congr 3;omega
   .rw[FJ N n d b a c m (i+1) k bv bv bv]
    congr 3;omega
  .rw[axm bv,aym bv]
   simp[Xv]
def On{N:Nat}(q:Fu+16<=N)(g:Int)(a:Do bq):∃b,jt N (g,a)=some b/\(b=true↔0<=g/\GR g.toNat a):=by
 obtain⟨N,rfl⟩:=sC N 1;have p:=bP;rw[Fs,cd];by_cases e:g<1
 .rw[axn e];exact⟨_,rfl,λh=>(by cases h),λh=>absurd h.2.lo bv⟩
 rw[axm e,cd];by_cases f:64<g
 .rw[axn f];exact⟨_,rfl,λh=>(by cases h),λh=>absurd h.2.hi bv⟩
 rw[axm f,cd];obtain⟨n,rfl⟩:=nN g;rw[axw];by_cases l:(400:Int)<((a.length:Nat):Int)
 .rw[axn l];exact⟨_,rfl,λh=>(by cases h),λh=>absurd h.2.len bv⟩
 rw[axm l];obtain⟨r,k,h⟩:=V0 (N:=N) bv (n:=n) bv bv a bv;rw[zQ]at k;rw[k,ob];rcases h with⟨rfl,c,m⟩|⟨rfl,c⟩
 .simp only
  have s:=ly a 0;have o:(Hd (n:Int) (b_ a 0)).length=n:=by simp[Hd]
  have j:=FJ N n bv a (b_ a 0) o N 0 0 bv bv bv;rw[zQ,ayg,axY,ajy,axw]at j;rw[D9 bv bv bv (nz c 0),ob,j,ob];simp only;rw[fF bv bv];refine⟨_,rfl,?_⟩;have d:=Qc bv bv c;unfold Ac at d;rw[<-Vr,axx]at d;rw[ayd];constructor
  .intro i;exact⟨bv,bv,bv,bv,c,m,d.2 bv⟩
  .intro i;have:=d.1 i.2.fst;omega
 .exact⟨_,rfl,λh=>(by cases h),λh=>absurd ⟨h.2.tie,h.2.srt⟩ c⟩
def afn{N:Nat}(j:Fu+18<=N)(s:SV):∃b,lF N s=some b/\(b=true↔StR s):=by
 obtain⟨N,rfl⟩:=sC N 2;obtain⟨n,i,d,k⟩:=s;obtain⟨b,g,f⟩:=On (N:=N+1) bv n i;have e:∀c:Int,hJ (N+1) c=some (decide (0<=c/\c<=1099511627776)):=λc=>by
  rw[AG,cd];by_cases h:0<=c<;>simp[h]
 rw[Ft,g,ob];unfold StR;simp only;cases b with
 |false=>exact⟨_,rfl,λh=>(by cases h),λh=>by have:=f.2 h.1;cases this⟩
 |true=>
  rw[axL,e,ob,cd];by_cases a:0<=d/\d<=1099511627776
  .rw[axn a,e,ob]
   exact⟨_,rfl,λh=>⟨f.1 rfl,a,ayh h⟩,λh=>axQ h.2.2⟩
  .rw[axm a];exact⟨_,rfl,λh=>(by cases h),λh=>absurd h.2.1 a⟩
def afo(r:Fu+1<=a)(g:Int)(d:Do bq)(c:Int)(u:d.length<=100000):lN a (g,d,c)=some (b_ d c):=by
 obtain⟨a,rfl⟩:=sC a 1;have p:=bP;have:=lpv (F:=λm k (e:bj)=>fI a m (c,(k:Int),g,d,e)) (n:=d.length) (b:=b_ d c) (I:=λk e=>e=b_ (d.take k) c) (λm k e o j=>by
  obtain⟨x,l⟩:=get_at (xs:=d) (i:=k) o;have t:e.length<=100000:=by
   have:=ly (d.take k) c;rw[j];rw[ax9]at this;omega
  refine⟨if x.2.2.2=true/\c<=x.2.2.1 then e++[(x.1,x.2.1)]else e,?_,?_⟩
  .rw[j,bU l]
   unfold b_;rw[ayU,aya,ayF,aBM];by_cases q:x.2.2.2=true<;>by_cases f:c<=x.2.2.1<;>simp[q,f]
  .rw[pB,dS bv,ba l,ob,b9 bv,cb]
   by_cases q:x.2.2.2=true
   .rw[axn q,ob,cd]
    by_cases f:c<=x.2.2.1
    .rw[axn f,ob,ob,bW bv d7,ob,axn ⟨q,f⟩]
    .rw[axm f,axm (λh=>f h.2)]
   .rw[axm q,axm (λh=>q h.1)]) (λm e j=>by
  rw[pB,cU bv,j,axV (axp _)]) (m:=a) (i:=0) (s:=[]) bv bv (by simp[b_])
 rw[zQ]at this;rw[FG,this,ob]
def afp{N:Nat}(H:Fu+20<=N){n:Nat}{ts:Do bq}(h:GR n ts):∃b,lO N ((n:Int),ts)=some b/\(b=true↔Ly ts):=by
 obtain⟨N,rfl⟩:=sC N 1;have G:=bP;have K:=h.len;have E:=h.lo;have w:=h.hi;obtain⟨b,z,A⟩:=On (N:=N) bv (n:Int) ts;obtain rfl:=A.2 ⟨bv,by rw[axw];exact h⟩;rw[FH,z,ob];simp only[axA,axr];obtain⟨r,q,C⟩:=lp (F:=λm k (_:Unit)=>hL N m ((k:Int),(n:Int),ts)) (n:=ts.length) (Q:=λb=>(b=.inl ()/\Ly ts)\/(b=.inr false/\¬Ly ts)) (I:=λk _=>∀t∈ts.take k,t.2.2.2=false->Jd (TK ts t.2.2.1) t.1.toNat t.2.1.toNat) (λm k s B e=>by
  obtain⟨x,l⟩:=get_at (xs:=ts) (i:=k) B;have p:=axB l;have d:=h.tie x p;unfold ee at d;have L:=ly ts x.2.2.1;rw[pF,dS bv,ba l,ob,afo bv _ _ _ bv,ob,D9 bv w bv (nz h.tie _),ob,b9 bv];have v:∀{a:Int},0<=a->a<n->aZ (Hd (n:Int) (b_ ts x.2.2.1)) a=some ((mN (TK ts x.2.2.1) a.toNat:Nat):Int):=λ{a} D J=>by
   obtain⟨j,rfl⟩:=nN a;refine ba ?_;unfold Hd;rw[axM,axw,azn bv,Vr];rfl
  have o:=wQ (n:=n) (KZ h.tie x.2.2.1) (x:=x.1.toNat) (y:=x.2.1.toNat) bv bv;cases u:x.2.2.2 with
  |true=>
   refine .inl ⟨(),λt d f=>?_,by simp only[axA,axr]⟩;rw[bU l]at d;rcases axy.1 d with d|d
   .exact e t d f
   .rw[axK.1 d,u]at f;cases f
  |false=>
   simp only[ayf,axL];rw[v (a:=x.1) bv bv,ob,ob,v (a:=x.2.1) bv bv,ob,ob,Eb];by_cases c:mN (TK ts x.2.2.1) x.1.toNat=mN (TK ts x.2.2.1) x.2.1.toNat
   .rw[axn bv]
    refine .inl ⟨(),λt d f=>?_,rfl⟩;rw[bU l]at d;rcases axy.1 d with d|d
    .exact e t d f
    .rw[axK.1 d];exact o.2 c
   .rw[axm bv]
    exact .inr ⟨_,rfl,.inr ⟨rfl,λg=>c (o.1 (g x p u))⟩⟩) (λm s e=>⟨_,by rw[pF,cU bv],.inl ⟨rfl,by rw[axV (axp _)]at e;exact e⟩⟩) (m:=N) (i:=0) (s:=()) bv bv d5
 rw[zQ]at q;rw[q,ob];rcases C with⟨rfl,g⟩|⟨rfl,g⟩
 .exact⟨_,rfl,λ_=>g,λ_=>rfl⟩
 .exact⟨_,rfl,λh=>(by cases h),λh=>absurd h g⟩
end
section
open Go Go.RowKit Go.Sort
def yh{N:Nat}(a:1<=N)(n:Int):∃b,ga N n=some b/\(b=true↔Vt n):=by
 obtain⟨N,rfl⟩:=sC N 1;rw[Fv,cd];unfold Vt;by_cases c:0<=n
 .rw[axn c];exact⟨_,rfl,by rw[ayd];omega⟩
 .rw[axm c];exact⟨_,rfl,λh=>(by cases h),λh=>absurd h.1 c⟩
def arj{N:Nat}(X:Fu+6<=N)(k:Int)(d:bj)(f:lP):∃b,lG N (k,d,f)=some b/\(b=true↔WR k d f):=by
 obtain⟨N,rfl⟩:=sC N 2;have W:=bP;have R:(∃b,jB (N+1) (N+1) (k,d,f)=some (.inl false)/\b=false/\¬WR k d f)\/jB (N+1) (N+1) (k,d,f)=some (.inr (k,d,f))/\d.length<=60/\f.length<=60/\((∀e∈d,Hf e)->(∀a∈f,Hg a)->WR k d f):=by
  have S:¬WR k d f\/((k=1\/k=2)/\f.length=0\/k=3/\d.length=0)/\d.length<=60/\f.length<=60:=by
   by_cases c:WR k d f
   .refine .inr ?_
    rcases c with⟨j,rfl,l,_⟩|⟨j,rfl,l,_⟩
    .exact⟨.inl ⟨j,rfl⟩,l,d5⟩
    .exact⟨.inr ⟨j,rfl⟩,d5,l⟩
   .exact .inl c
  have M:((k=1\/k=2)/\f.length=0\/k=3/\d.length=0)->d.length<=60->f.length<=60->(∀e∈d,Hf e)->(∀a∈f,Hg a)->WR k d f:=λh j l O P=>by
   rcases h with⟨a,b⟩|⟨a,b⟩
   .exact .inl ⟨a,ayn b,j,O⟩
   .exact .inr ⟨a,ayn b,l,P⟩
  have p:¬(((k=1\/k=2)/\f.length=0\/k=3/\d.length=0)/\d.length<=60/\f.length<=60)->¬WR k d f:=λh=>S.resolve_right h;rw[DN,cd];by_cases t:k<1
  .rw[axn t];exact .inl ⟨_,rfl,rfl,p bv⟩
  rw[axm t,cd];by_cases u:3<k
  .rw[axn u];exact .inl ⟨_,rfl,rfl,p bv⟩
  rw[axm u,cd];by_cases D:k=3
  .rw[axn D,cd]
   by_cases v:(0:Int)<((d.length:Nat):Int)
   .rw[axn v];exact .inl ⟨_,rfl,rfl,p bv⟩
   rw[axm v,xx D,cd];by_cases w:(60:Int)<((d.length:Nat):Int)
   .rw[axn w];exact .inl ⟨_,rfl,rfl,p bv⟩
   rw[axm w,cd];by_cases y:(60:Int)<((f.length:Nat):Int)
   .rw[axn y];exact .inl ⟨_,rfl,rfl,p bv⟩
   rw[axm y];exact .inr ⟨rfl,bv,bv,M bv bv bv⟩
  .rw[axm D,cnF D,cd]
   by_cases v:(0:Int)<((f.length:Nat):Int)
   .rw[axn v];exact .inl ⟨_,rfl,rfl,p bv⟩
   rw[axm v,cd];by_cases w:(60:Int)<((d.length:Nat):Int)
   .rw[axn w];exact .inl ⟨_,rfl,rfl,p bv⟩
   rw[axm w,cd];by_cases y:(60:Int)<((f.length:Nat):Int)
   .rw[axn y];exact .inl ⟨_,rfl,rfl,p bv⟩
   rw[axm y];exact .inr ⟨rfl,bv,bv,M bv bv bv⟩
 rw[Fw];rcases R with⟨b,h,_,G⟩|⟨h,Y,Z,G⟩
 .rw[h,ob];exact⟨_,rfl,λh=>(by cases h),λh=>absurd h G⟩
 rw[h,ob];simp only;obtain⟨U,K,B⟩:=lp (F:=λm i (_:Unit)=>jA (N+1) m ((i:Int),k,d,f)) (n:=d.length) (Q:=λb=>(b=.inl (k,d,f)/\∀e∈d,Hf e)\/(b=.inr false/\¬∀e∈d,Hf e)) (I:=λi _=>∀e∈d.take i,Hf e) (λm i s E o=>by
  obtain⟨x,r⟩:=get_at (xs:=d) (i:=i) E;have q:=axB r;obtain⟨H,j,z⟩:=yh (N:=N+1) bv x.1;obtain⟨J,l,A⟩:=yh (N:=N+1) bv x.2;rw[pn,dS bv,ba r,ob,j,ob,b9 bv];cases H with
  |false=>exact .inr ⟨_,rfl,.inr ⟨rfl,λh=>by have:=z.2 (h x q).1;cases this⟩⟩
  |true=>
   simp only[axA,axr];rw[ob,l,ob];cases J with
   |false=>exact .inr ⟨_,rfl,.inr ⟨rfl,λh=>by have:=A.2 (h x q).2;cases this⟩⟩
   |true=>
    refine .inl ⟨(),λe g=>?_,rfl⟩;rw[bU r]at g;rcases axy.1 g with g|g
    .exact o e g
    .rw[axK.1 g];exact⟨z.1 rfl,A.1 rfl⟩) (λm s o=>⟨_,by rw[pn,cU bv],.inl ⟨rfl,by rw[axV (axp _)]at o;exact o⟩⟩) (m:=N+1) (i:=0) (s:=()) bv bv d5
 rw[zQ]at K;rw[K,ob];rcases B with⟨rfl,B⟩|⟨rfl,B⟩
 rotate_left
 .refine⟨_,rfl,λh=>(by cases h),λh=>absurd ?_ B⟩
  rcases h with⟨_,_,_,h⟩|⟨_,rfl,_⟩
  .exact h
  .exactλe h=>by cases h
 simp only;obtain⟨V,L,C⟩:=lp (F:=λm i (_:Unit)=>jz (N+1) m ((i:Int),k,d,f)) (n:=f.length) (Q:=λb=>(b=.inl ()/\∀e∈f,Hg e)\/(b=.inr false/\¬∀e∈f,Hg e)) (I:=λi _=>∀e∈f.take i,Hg e) (λm i s E o=>by
  obtain⟨x,r⟩:=get_at (xs:=f) (i:=i) E;have q:=axB r;obtain⟨H,j,z⟩:=yh (N:=N+1) bv x.2.1;obtain⟨J,l,A⟩:=yh (N:=N+1) bv x.2.2;rw[pj,dS bv,ba r,ob,j,ob,b9 bv];cases H with
  |false=>exact .inr ⟨_,rfl,.inr ⟨rfl,λh=>by have:=z.2 (h x q).2.1;cases this⟩⟩
  |true=>
   simp only[axA,axr];rw[l,ob];cases J with
   |false=>exact .inr ⟨_,rfl,.inr ⟨rfl,λh=>by have:=A.2 (h x q).2.2;cases this⟩⟩
   |true=>
    simp only[axA,axr];rw[cd];by_cases t:x.1<1
    .rw[axn t];exact .inr ⟨_,rfl,.inr ⟨rfl,λh=>by have:=(h x q).1;omega⟩⟩
    rw[axm t,cd];by_cases u:4<x.1
    .rw[axn u];exact .inr ⟨_,rfl,.inr ⟨rfl,λh=>by have:=(h x q).1;omega⟩⟩
    rw[axm u];refine .inl ⟨(),λe g=>?_,rfl⟩;rw[bU r]at g;rcases axy.1 g with g|g
    .exact o e g
    .rw[axK.1 g];exact⟨bv,z.1 rfl,A.1 rfl⟩) (λm s o=>⟨_,by rw[pj,cU bv],.inl ⟨rfl,by rw[axV (axp _)]at o;exact o⟩⟩) (m:=N+1) (i:=0) (s:=()) bv bv d5
 rw[zQ]at L;rw[L,ob];rcases C with⟨rfl,C⟩|⟨rfl,C⟩
 .exact⟨_,rfl,λ_=>G B C,λ_=>rfl⟩
 .refine⟨_,rfl,λh=>(by cases h),λh=>absurd ?_ C⟩
  rcases h with⟨_,rfl,_⟩|⟨_,_,_,h⟩
  .exactλe h=>by cases h
  .exact h
end
section
open Go Go.RowKit Go.Sort
abbrev Ev1:Type:=Int×Int×Int×In
abbrev yi:Do (Int×Int×Int×Int):=[((0:Int),(1:Int),(-1:Int),(0:Int))]
def alb:aZ yi (0:Int)=some ((0:Int),(1:Int),(-1:Int),(0:Int)):=rfl
def Yj{α:Type}(x:α):aZ [x] (0:Int)=some x:=rfl
def w01:wZ ((0:Int)+(1:Int))=1:=rfl
def AK(b:In)(P:Nat):bO:=(if b=true then [0]else [])::replicate P []
def D_(b:In)(P:Nat):(AK b P).length=P+1:=by simp[AK]
def Yk{b:In}{P i:Nat}(h:i<P+1):(AK b P)[i]? =some (if b=true/\i=0 then [0]else []):=by
 unfold AK;cases i with
 |zero=>simp
 |succ i=>rw[ayT,azK,axn bv,axm bv]
section
variable{N P:Nat}{g:Int}
def QS(h1:1<=g)(h2:g<=100)(a:4<=N)(d:In):hX N (yi,g,[d])=some true:=by
 obtain⟨N,rfl⟩:=sC N 3;rw[show hX (N+3) (yi,g,[d])=cond (decide (g<1)) (some false) (cond (decide (100<g)) (some false) (some true)) by kernel_rfl,cU bv,cU bv]
def Iu(h1:1<=g)(h2:g<=100)(a:7<=N)(d:In):hY N (yi,g,[d],0)=some false:=by
 obtain⟨N,rfl⟩:=sC N 4;rw[show hY (N+4) (yi,g,[d],0)=aW (hX (N+3) (yi,g,[d])) λz=>cond z (some (decide (g<1))) (some false) by kernel_rfl];rw[QS h1 h2 bv,ob,axU bv];rfl
def auD(h1:1<=g)(h2:g<=100)(a:12<=N):sR N (yi,g,[false],0)=some (true,0,yi,g,[true]):=by
 obtain⟨N,rfl⟩:=sC N 5;rw[show sR (N+5) (yi,g,[false],0)=aW (hX (N+4) (yi,g,[false])) λz=>cond (!z) (some (false,1,yi,g,[false])) (aW (hY (N+4) (yi,g,[false],0)) λz=>cond z (some (false,5,yi,g,[false])) (some (true,0,yi,g,[true]))) by kernel_rfl,QS h1 h2 bv,ob,Iu h1 h2 bv,ob];rfl
def QT(h1:1<=g)(h2:g<=100)(hP:P<=7)(t:100<=N){b d:In}(q:b=true->d=false)(p:In){f e:Int}(x:0<=f)(y:f<=100000)(v:0<=e)(w:e<=100000):jw N (yi,g,[d],AK b P,p,f,e)=some true:=by
 obtain⟨N,rfl⟩:=sC N 1;have u:=D_ b P;have l:=lpv (F:=λm i (a:bh)=>jD N m ((((AK b P).length:Nat):Int),(i:Int),yi,g,[d],AK b P,p,f,e,a)) (n:=P+1) (b:=.inl ()) (I:=λi a=>a=[b && decide (0<i)]) (λm i a r j=>by
  have o:=Yk (b:=b) r;refine⟨_,rfl,?_⟩;subst j;obtain⟨M,rfl⟩:=sC N 2;rw[pv,dS bv,po,ba o,ob,cd];by_cases c:b=true/\i=0
  .obtain⟨rfl,rfl⟩:=c
   obtain rfl:=q rfl;simp only[and_self,ax0];rw[axn d5,ob,Yj,ob,cU d5,cU d5,Yj,ob,ob];simp only[az8,decide_false,aBL,axr];rw[alb,ob,xx d5,Iu h1 h2 bv,ob];simp only[ayf,axL];rw[ob,Yj,ob,axr,ob,ob,w01,po,ba o,ob,cU d5,ob];rfl
  .rw[axm c,axm d5,ob]
   simp only;rw[b9 bv];have:decide (0<i)=decide (0<i+1)\/b=false:=by
    by_cases k:b=true
    .have:i≠0:=λh=>c ⟨k,h⟩
     exact .inl (by rw[axQ bv,axQ bv])
    .exact .inr (by simpa using k)
   rcases this with h|h
   .rw[h]
   .rw[h];rfl) (λm a j=>by rw[pv,cU bv]) (m:=N) (i:=0) (s:=[false]) bv bv d5
 rw[zQ]at l;rw[Fy,QS h1 h2 bv,ob];simp only[axA,axr];rw[cU bv,cU bv,cU bv,cU bv,cU bv,cU bv,jH bv d5 d5,ob];rw[show(replicate ((((length yi):Nat):Int)).toNat false)=[false]from rfl,l,ob]
def ark(b d c:In)(e a:Int):∀P,P<8->sQ (N+10) (yi,g,[d],AK b P,c,e,a)=some (g,c,e,a,yi,[d],AK b P)
 |0,_=>by cases b<;>kernel_rfl
 |1,_=>by cases b<;>kernel_rfl
 |2,_=>by cases b<;>kernel_rfl
 |3,_=>by cases b<;>kernel_rfl
 |4,_=>by cases b<;>kernel_rfl
 |5,_=>by cases b<;>kernel_rfl
 |6,_=>by cases b<;>kernel_rfl
 |7,_=>by cases b<;>kernel_rfl
 |n+8,h=>absurd h bv
def alc(b d c:In)(e a:Int):∀P,P<8->na (N+10) (yi,g,[d],AK b P,c,e,a)=some (if b=true then 1 else 0)
 |0,_=>by cases b<;>kernel_rfl
 |1,_=>by cases b<;>kernel_rfl
 |2,_=>by cases b<;>kernel_rfl
 |3,_=>by cases b<;>kernel_rfl
 |4,_=>by cases b<;>kernel_rfl
 |5,_=>by cases b<;>kernel_rfl
 |6,_=>by cases b<;>kernel_rfl
 |7,_=>by cases b<;>kernel_rfl
 |n+8,h=>absurd h bv
def aoR(hP:P<=7)(i:1<=N)(p:Int):∃c:Nat,mf N (p,((P+1:Nat):Int))=some (c:Int)/\c<P+1/\(p=0->c=0):=by
 obtain⟨N,rfl⟩:=sC N 1;have d:=aBR p (b:=((P+1:Nat):Int)) bv;have f:=Int.lt_tmod_of_pos p (b:=((P+1:Nat):Int)) bv;have e:LS p ((P+1:Nat):Int)=some (p.tmod ((P+1:Nat):Int)):=by unfold LS;rw[axm bv]
 rw[Ll,e,ob,cd];have a:p=0->p.tmod ((P+1:Nat):Int)=0:=λh=>by rw[h,Int.zero_tmod]
 generalize p.tmod ((P+1:Nat):Int)=q at d f a;by_cases c:q<0
 .rw[axn c,fF bv bv]
  exact⟨(q+((P+1:Nat):Int)).toNat,by congr 1;omega,bv,λh=>by have:=a h;omega⟩
 .rw[axm c]
  exact⟨q.toNat,by congr 1;omega,bv,λh=>by have:=a h;omega⟩
def aoS(a:1<=N)(b:In)(i:Nat):xi N (if b=true/\i=0 then [0]else [])=some ([],0,if b=true/\i=0 then 0 else 4)/\qi N (if b=true/\i=0 then [0]else [])=some ([],0,if b=true/\i=0 then 0 else 4):=by
 obtain⟨N,rfl⟩:=sC N 1;by_cases c:b=true/\i=0
 .rw[axn c,axn c]
  exact⟨by kernel_rfl,by kernel_rfl⟩
 .rw[axm c,axm c]
  exact⟨by kernel_rfl,by kernel_rfl⟩
def ald(h1:1<=g)(h2:g<=100)(hP:P<=7)(x:110<=N){st idl:Int}(u:0<=st)(z:st<100000)(r:0<=idl)(y:idl<100000)(p v:Int):∃a:Ev1,(a.2.2.1= -1\/a.2.2.1=0)/\
 (iQ N (yi,g,[false],AK true P,false,st,idl,p,v)=some (0,yi,g,[true],AK false P,true,st+1,idl,a)\/
  p≠0/\iQ N (yi,g,[false],AK true P,false,st,idl,p,v)=some (0,yi,g,[false],AK true P,false,st+1,idl+1,a)):=by
 obtain⟨N,rfl⟩:∃M,N=M+10+1:=⟨N - 11,bv⟩;have m:=D_ true P;obtain⟨e,j,s,w⟩:=aoR (N:=N+10) hP bv p;obtain⟨f,l,t,A⟩:=aoR (N:=N+10) hP bv v;have n:=Yk (b:=true) s;have q:=Yk (b:=true) t;have i:∀k:Nat,k=0->List.set (AK true P) (Int.toNat (k:Int)) []=AK false P:=λk h=>by subst h;rfl
 rw[Ht,QT h1 h2 hP bv (λ_=>rfl) _ u bv r bv,ob];simp only[axA,axr];rw[cU bv,m,j,ob,l,ob,ark _ _ _ _ _ P bv,ob];simp only;rw[Fz,ba n,ob,(aoS (N:=N+10) bv true e).1,ob,cd];by_cases c:e=0
 .rw[axn (by simp[c]),ob,ob]
  simp only;rw[ob];simp only;rw[Iu h1 h2 bv,ob,axr,auD h1 h2 bv,ob];simp only;rw[xx trivial,axr,i e c,fF bv bv];exact⟨_,.inr rfl,.inl rfl⟩
 .have o:p≠0:=λh=>c (w h)
  rw[axm (by simp[c]),ba q,ob,(aoS (N:=N+10) bv true f).2,ob,cd];by_cases d:f=0
  .rw[axn (by simp[d]),ob,ob]
   simp only;rw[ob];simp only;rw[Iu h1 h2 bv,ob,axr,auD h1 h2 bv,ob];simp only;rw[xx trivial,axr,i f d,fF bv bv];exact⟨_,.inr rfl,.inl rfl⟩
  .rw[axm (by simp[d]),cU bv,ob]
   simp only;rw[fF bv bv,fF bv bv];exact⟨_,.inl rfl,.inr ⟨o,rfl⟩⟩
end
end
section
open Go Go.RowKit Go.Sort
abbrev Yl(l:Do Ev1):Prop:=∀e∈l,e.2.2.1= -1\/e.2.2.1=0
def Yl.snoc{l:Do Ev1}{e:Ev1}(h:Yl l)(b:e.2.2.1= -1\/e.2.2.1=0):Yl (l++[e]):=λx a=>by
 rcases axy.1 a with a|a
 .exact h x a
 .rw[axK.1 a];exact b
section
variable{N P:Nat}{g:Int}
def arl(h1:1<=g)(h2:g<=100)(hP:P<=7)(i:130<=N){b a:Int}(e:0<=b)(f:b<=100000)(c:0<=a)(d:a<=100000):jy N (yi,g,[true],AK false P,true,b,a)=some (0,yi,g,[true],AK false P,true,b,a,[]):=by
 obtain⟨N,rfl⟩:=sC N 2;have j:=D_ false P;rw[ri,pw,QT h1 h2 hP bv (λh=>by cases h) _ e f c d,ob];simp only[axA,axr];rw[ob];simp only;rw[kR,im,dS bv,axL,ob];simp only;rw[ob]
def anT(h1:1<=g)(h2:g<=100)(hP:P<=7)(o:130<=N){b a:Int}(f:0<=b)(n:b<100000)(e:0<=a)(m:a<100000):∃l:Do Ev1,l.length=1/\Yl l/\jy N (yi,g,[false],AK true P,false,b,a)=some (0,yi,g,[true],AK false P,true,b+1,a,l):=by
 obtain⟨N,rfl⟩:∃M,N=M+10+1:=⟨N - 11,bv⟩;have p:=D_ true P;have q:=D_ false P;obtain⟨i,j,d⟩:=ald h1 h2 hP (N:=N+10) bv f n e m 0 (wZ (wZ ((0:Int)+1)+0));have d:=d.resolve_right λh=>h.1 rfl;refine⟨[i],rfl,λx k=>by rw[axK.1 k];exact j,?_⟩;rw[ri,pw,QT h1 h2 hP bv (λ_=>rfl) _ f bv e bv,ob];simp only[axA,ayf,axr,axL];rw[alc _ _ _ _ _ P bv,ob,axn rfl,cU bv,ob];simp only;rw[kR,im,dS bv,axr,alc _ _ _ _ _ P bv,ob,axn rfl,cU bv,d,ob];simp only;rw[xx (by trivial),bW bv d5,ob,im,cd,w01];by_cases c:(1:Int)<(((AK false P).length:Nat):Int)
 .rw[axn c,axL,ob]
  simp only;rw[ob];rfl
 .rw[axm c,ob]
  simp only;rw[kR,im,dS bv,axL,ob];simp only;rw[ob];rfl
def anU(h1:1<=g)(h2:g<=100)(hP:P<=7)(E:200<=N)(pk:bj)(hp:pk.length<=60):∃(e a:Int) (l:Do Ev1),l.length<=61/\Yl l/\lJ N (1,g,((P+1:Nat):Int),pk)=some (0,yi,g,[true],AK false P,true,e,a,l):=by
 obtain⟨N,rfl⟩:=sC N 3;have A:lH (N+2) (1,g,((P+1:Nat):Int))=some (0,yi,g,[false],AK true P,false,0,0):=by
  rw[Fx,cU bv,cU bv,show qf (N+1) (1,g)=cond (decide (g<1)) (some (1,[],0,[])) (cond (decide (100<g)) (some (1,[],0,[])) (some (0,yi,g,[false]))) by kernel_rfl,cU bv,cU bv,ob];simp only;rw[xx (by trivial),jH bv bv bv,ob,axw,show replicate (P+1) ([]:aX)=[]::replicate P []from rfl,show aZ (([]:aX)::replicate P []) (0:Int)=some []from rfl,ob,ob];rfl
 obtain⟨b,w,d,e,a,c,rfl,z,K,y,J,H,v⟩:=lp (F:=λm i (s:In×Int×Do Ev1)=>jE (N+2) m (pk,(i:Int),0,false,0,0,yi,g,[s.1],AK (!s.1) P,s.1,(i:Int),s.2.1,s.2.2)) (n:=pk.length)
  (Q:=λb=>∃(d:In) (e a:Int) (c:Do Ev1),b=.inl (0,false,0,0,yi,g,[d],AK (!d) P,d,e,a,c)/\0<=e/\e<=60/\0<=a/\a<=60/\c.length<=60/\Yl c)
  (I:=λi s=>0<=s.2.1/\s.2.1<=(i:Int)/\s.2.2.length=i/\Yl s.2.2) (λm i s C q=>by
  obtain⟨d,a,c⟩:=s;obtain⟨j,r,p,k⟩:=q;simp only at j r p k;rw[py,dS bv];cases d with
  |true=>exact .inr ⟨_,rfl,true,(i:Int),a,c,rfl,bv,bv,j,bv,bv,k⟩
  |false=>
   obtain⟨x,f⟩:=get_at (xs:=pk) C;simp only[ayf,axL];rw[ba f,ob,ob];obtain⟨t,u,o⟩:=ald h1 h2 hP (N:=N+2) bv (st:=(i:Int)) (idl:=a) bv bv j bv x.1 x.2;refine .inl ?_;rcases o with o|⟨_,o⟩
   .rw[o,ob]
    simp only;rw[xx (by trivial),bW bv d7,ob,b9 bv];exact⟨(true,a,c++[t]),⟨j,by simp only;omega,by simp[p],k.snoc u⟩,d5⟩
   .rw[o,ob]
    simp only;rw[xx (by trivial),bW bv d7,ob,b9 bv];exact⟨(false,a+1,c++[t]),⟨by simp only;omega,by simp only;omega,by simp[p],k.snoc u⟩,d5⟩) (λm s q=>by
  obtain⟨d,a,c⟩:=s;obtain⟨j,r,p,k⟩:=q;simp only at j r p k;refine⟨_,by rw[py,cU bv],d,((pk.length:Nat):Int),a,c,rfl,bv,bv,j,bv,bv,k⟩) (m:=N+2) (i:=0) (s:=(false,0,[])) bv bv ⟨d5,d5,d5,λx h=>by cases h⟩
 simp only[ayf,zQ]at w;rw[FA,A,ob];simp only;rw[xx (by trivial),w,ob];simp only;cases d with
 |true=>
  rw[show AK (!true) P=AK false P from rfl,arl h1 h2 hP bv z bv y bv,ob];simp only;rw[bW bv d7,ob];exact⟨e,a,c++[],by simp;omega,by rw[ax6];exact v,rfl⟩
 |false=>
  obtain⟨l,G,D,B⟩:=anT h1 h2 hP (N:=N+2) bv z bv y bv;rw[show AK (!false) P=AK true P from rfl,B,ob];simp only;rw[bW bv bv,ob];refine⟨e+1,a,c++l,by rw[axG];omega,λx f=>?_,rfl⟩;rcases axy.1 f with f|f
  .exact v x f
  .exact D x f
def anV(h1:1<=g)(h2:g<=100)(hP:P<=7)(E:300<=N)(pk:bj)(hp:pk.length<=60):∃(t:Nat) (o:aX),t<=61/\gg N (1,g,((P+1:Nat):Int),pk)=some ((t:Int),0,o):=by
 obtain⟨N,rfl⟩:=sC N 2;obtain⟨C,B,l,q,u,z⟩:=anU h1 h2 hP (N:=N+1) bv pk hp;have v:jv (N+1) (g,((P+1:Nat):Int),pk)=some true:=by
  rw[rh,dS h1,dS h2,dS bv,dS bv,axQ bv]
 obtain⟨s,p,G,w⟩:=lp (F:=λm i (a:bj)=>eT N m (l,(i:Int),yi,g,[true],AK false P,true,C,B,a)) (n:=l.length) (Q:=λs=>s.length<=61/\∀x∈s,x=((0:Int),(1:Int)))
  (I:=λi a=>a.length<=i/\∀x∈a,x=((0:Int),(1:Int))) (λm i a f b=>by
  obtain⟨x,c⟩:=get_at (xs:=l) f;have A:=u x (axB c);refine .inl ?_;rw[om,dS bv,ba c,ob,cd,b9 bv];rcases A with e|e
  .rw[axm bv];exact⟨a,⟨bv,b.2⟩,rfl⟩
  .rw[axn bv,ob,dS (by rw[e];simp),ob]
   cases x.2.2.2 with
   |true=>exact⟨a,⟨bv,b.2⟩,rfl⟩
   |false=>
    simp only[ayf,axL];rw[ob,e,alb,ob,bW bv d7,ob];exact⟨a++[(0,1)],⟨by simp;omega,λy d=>by
     rcases axy.1 d with d|d
     .exact b.2 y d
     .exact axK.1 d⟩,rfl⟩) (λm a b=>⟨_,by rw[om,cU bv],bv,b.2⟩) (m:=N) (i:=0) (s:=[]) bv bv ⟨d5,λx h=>by cases h⟩
 rw[zQ]at p;obtain⟨o,k,j,rfl⟩:=lp (F:=λm i (a:aX)=>jF (N+1) m ((i:Int),l,a,s)) (n:=s.length) (Q:=λr=>∃j:aX,r=(l,j))
  (I:=λi a=>a.length=i) (λm i a f b=>by
  obtain⟨x,c⟩:=get_at (xs:=s) f;obtain rfl:=w x (axB c);refine .inl ⟨a++[0],by simp[b],?_⟩;rw[pA,dS bv,ba c,ob,ob];simp only;rw[pz,ba c,ob,ob];simp only;rw[dS bv,bW bv d7,ob,w01];obtain⟨D,rfl⟩:∃M,N=M+1:=⟨N - 1,bv⟩;rw[pz,ba c,ob,ob];simp only;rw[cU bv,ob,b9 bv]) (λm a b=>⟨_,by rw[pA,cU bv],a,rfl⟩) (m:=N+1) (i:=0) (s:=[]) bv bv d5
 rw[zQ]at k;refine⟨l.length,j,q,?_⟩;rw[rm,cU bv,cU bv,v,ob];simp only[axA,axr];rw[cU bv,z,ob];simp only;rw[xx (by trivial),D0,p,ob,ob,k,ob]
end
def afq(g P:Int):Prop:=(1<=g/\g<=100)/\1<=P/\P<=8
section
variable{N:Nat}{bi bl g P:Int}{pk:bj}
def aoT(hp:pk.length<=60)(f:300<=N):∃(t:Nat) (e:Int) (o:aX),t<=61/\gg N (1,g,P,pk)=some ((t:Int),e,o)/\(e=0\/e=1)/\(e=0↔afq g P):=by
 by_cases h:afq g P
 .obtain⟨⟨a,b⟩,c,d⟩:=h
  obtain⟨k,rfl⟩:∃k:Nat,P=((k+1:Nat):Int):=⟨(P - 1).toNat,bv⟩;obtain⟨t,o,j,h⟩:=anV a b (P:=k) bv f pk hp;exact⟨t,0,o,j,h,.inl rfl,λ_=>⟨⟨a,b⟩,c,d⟩,λ_=>rfl⟩
 .obtain⟨N,rfl⟩:=sC N 2
  have i:jv (N+1) (g,P,pk)=some false:=by
   unfold afq at h;rw[rh,cd];split
   .rw[cd]
    split
    .rw[cd]
     split
     .rw[cU bv]
     .rfl
    .rfl
   .rfl
  refine⟨0,1,[],bv,?_,.inr rfl,λh=>(by cases h),λh2=>absurd h2 h⟩;rw[rm,cU bv,cU bv,i,ob];rfl
def ale(hp:pk.length<=60)(s:310<=N)(x:Int):∃(a:Int) (t:Nat) (e:Int) (o:aX),t<=122/\kT N ([x],bl,g,P,pk)=some (a,(t:Int),e,o)/\(e=0\/e=1)/\(e=0↔(1<=bl/\bl<=100)/\afq g P):=by
 obtain⟨N,rfl⟩:=sC N 3;obtain⟨t,e,o,u,k,m,i⟩:=aoT (g:=g) (P:=P) hp (N:=N+1) bv;have q:∃(b:Nat) (c:Int),b<=122/\lL (N+2) (1,bl,g,P,pk)=some ((b:Int),c)/\(c=0\/c=1)/\(c=0↔(1<=bl/\bl<=100)/\afq g P):=by
  rw[FB,cd];by_cases d:bl<1
  .rw[axn d];exact⟨0,1,bv,rfl,.inr rfl,λh=>(by cases h),λh=>by omega⟩
  rw[axm d,cd];by_cases f:100<bl
  .rw[axn f];exact⟨0,1,bv,rfl,.inr rfl,λh=>(by cases h),λh=>by omega⟩
  rw[axm f,k,ob,Eb];rcases m with rfl|rfl
  .have l:kS (N+1) (1,bl)=some 1:=by
    rw[D1,cU bv,cU bv,cU bv,cU bv];rw[show wZ (wZ (1+bl) - 1)=bl by rw[fF bv bv (x:=1+bl),fF bv bv];omega];unfold IX;rw[axm bv,Int.tdiv_self bv,ob];rfl
   rw[axn rfl,l,ob,k,ob,show wZ (2*(t:Int))=((2*t:Nat):Int) by rw[fF bv bv];omega];exact⟨2*t,0,bv,rfl,.inl rfl,λ_=>⟨bv,i.1 rfl⟩,λ_=>rfl⟩
  .rw[axm d5]
   exact⟨0,1,bv,rfl,.inr rfl,λh=>(by cases h),λh=>absurd (i.2 h.2) bv⟩
 obtain⟨b,c,r,p,n,j⟩:=q;rw[Hu,show((([x]:aX).length:Nat):Int)=1 from rfl,p,ob,Eb];rcases n with rfl|rfl
 .rw[axn rfl,show xv (N+2) (N+2) ([x],(b:Int),0,0,[])=some ((b:Int),IntKind.wrap .u32 (0+x),[0]) by kernel_rfl,ob]
  exact⟨_,b,0,_,r,rfl,.inl rfl,j⟩
 .rw[axm d5]
  exact⟨0,0,1,[],bv,rfl,.inr rfl,j⟩
def anW(hp:pk.length<=60)(hN:330<=N):∃b,yg N (bi,bl,g,P,pk)=some b/\(Dd.wT bi bl g P->b=false):=by
 obtain⟨N,rfl⟩:=sC N 6;have F:Dd.wT bi bl g P↔¬((1<=bi/\bi<=16)/\(1<=bl/\bl<=100)/\afq g P):=azy;obtain⟨a,t,e,o,R,l,G,y⟩:=ale (bl:=bl) (g:=g) (P:=P) hp (N:=N+2) bv 1;have L:∃z:Nat,iJ (N+2) bi=some (z:Int)/\z<=32/\(z=0↔¬(1<=bi/\bi<=16)):=by
  rw[DO,cd];by_cases r:bi<1
  .rw[axn r];exact⟨0,rfl,bv,λ_=>by omega,λ_=>rfl⟩
  rw[axm r,cd];by_cases s:16<bi
  .rw[axn s];exact⟨0,rfl,bv,λ_=>by omega,λ_=>rfl⟩
  rw[axm s];obtain⟨k,rfl⟩:=nN bi;rw[show wZ (wZ (32+(k:Int)) - 1)=((31+k:Nat):Int) by rw[fF bv bv (x:=32+(k:Int)),fF bv bv];omega];unfold IX;have E:(31+k)/k<=32:=Nat.div_le_of_le_mul bv;have Z:1<=(31+k)/k:=(aAx bv).2 bv;rw[axm bv,ob,show Int.tdiv ((31+k:Nat):Int) (k:Int)=(((31+k)/k:Nat):Int)from rfl,fF bv bv];exact⟨_,rfl,E,λh=>by omega,λh=>by omega⟩
 obtain⟨z,V,a3,W⟩:=L;have Q:∃(x:Int) (f:Int) (m:aX),nc (N+3) ([1],bi,bl,g,P,pk)=some (x,f,m)/\(f=0->m=[0]/\¬Dd.wT bi bl g P):=by
  rw[show nc (N+3) ([1],bi,bl,g,P,pk)=aW (iJ (N+2) bi) λX=>cond (decide (X=0)) (some (0,1,[])) (aW (kT (N+2) ([1],bl,g,P,pk)) λn=>cond (!(decide (n.2.2.1=0))) (some (0,n.2.2.1,[])) (aW (iJ (N+2) bi) λY=>some (wZ (n.2.1*Y),0,[0]))) by kernel_rfl,V,ob,cd];by_cases c:z=0
  .rw[axn bv];exact⟨0,1,[],rfl,λh=>by cases h⟩
  rw[axm bv,l,ob];simp only;rw[Eb];by_cases d:e=0
  .rw[axn d,ob]
   exact⟨_,0,_,rfl,λ_=>⟨rfl,λh=>F.1 h ⟨aBU λq=>c (W.2 q),y.1 d⟩⟩⟩
  .rw[axm d];exact⟨0,e,[],rfl,λh=>absurd h d⟩
 obtain⟨x,f,m,M,O⟩:=Q;have U:∃(x:Int) (i:Int) (B:aX),lM (N+3) ([false],bl,g,P,pk)=some (x,i,B):=by
  obtain⟨a,t,e,o,R,l,G,y⟩:=ale (bl:=bl) (g:=g) (P:=P) hp (N:=N+2) bv 0;obtain⟨t',D,o',a2,K,a0,a1⟩:=aoT (g:=g) (P:=P) hp (N:=N+2) bv;rw[FF,jH bv d5 d5,ob,show replicate (((([false]:bh).length:Nat):Int)).toNat (0:Int)=[0]from rfl,l,ob];simp only;rw[Eb];by_cases c:e=0
  .rw[axn c,show((([false]:bh).length:Nat):Int)=1 from rfl,K,ob]
   simp only;rw[Eb];by_cases v:D=0
   .rw[axn v,show∀a b,uR (N+2) (N+2) ([false],a,b,0,[])=some (a,b,[])fromλa b=>by kernel_rfl,ob]
    exact⟨_,_,_,rfl⟩
   .rw[axm v];exact⟨_,_,_,rfl⟩
  .rw[axm c];exact⟨_,_,_,rfl⟩
 obtain⟨x4,i,B,S⟩:=U;have H:∃(C:Int) (j:Int) (p u:aX),kU (N+4) ([1],bi,bl,g,P,pk)=some (C,j,p,u)/\(Dd.wT bi bl g P->j≠0):=by
  rw[D6,M,ob];simp only;rw[Eb];by_cases c:f=0
  .rw[axn c,jH bv d5 d5,ob,show replicate (((([1]:aX).length:Nat):Int)).toNat false=[false]from rfl,S,ob]
   obtain⟨rfl,A⟩:=O c;simp only;rw[Eb];by_cases w:i=0
   .rw[axn w,show∀a b,ru (N+3) (N+3) ([1],a,b,0,[0],[],[])=some (a,b,[1],[1])fromλa b=>by kernel_rfl,ob]
    exact⟨_,_,_,_,rfl,λh=>absurd h A⟩
   .rw[axm w];exact⟨_,_,_,_,rfl,λh=>absurd h A⟩
  .rw[axm c];exact⟨_,_,_,_,rfl,λ_=>c⟩
 obtain⟨C,j,p,u,J,I⟩:=H;rw[QQ,Hv,J,ob,ob];exact⟨_,rfl,λh=>axU (I h)⟩
end
end
section
open Go Go.RowKit Go.Sort
def V1(g:Fu+3<=a)(n:Int)(c:Do bq)(j:c.length<=100000):Kh a (n,c,n,c)=some true:=by
 obtain⟨a,rfl⟩:=sC a 1;have f:=bP;have h:=lpv (F:=λm k (_:Unit)=>C0 a m ((k:Int),n,c,n,c)) (n:=c.length) (I:=λ_ _=>True) (b:=.inl ()) (λm k s d _=>by
  obtain⟨x,e⟩:=get_at (xs:=c) d;refine⟨(),trivial,?_⟩;rw[Ki,dS bv,ba e,ob,ob];simp only[ayD,aAP,aBK,axA,axr];rw[b9 bv]) (λm s _=>by rw[Ki,cU bv]) (m:=a) (i:=0) (s:=()) bv bv trivial
 rw[zQ]at h;rw[aeB,xx (by trivial),xx (by trivial),h,ob]
def alf{N:Nat}(e:Fu+4<=N)(n:Int)(a:Do bq)(b c:Int)(d:a.length<=100000):E1 N (n,a,b,c,n,a,b,c)=some true:=by
 obtain⟨N,rfl⟩:=sC N 1;rw[aeC,V1 bv n a d,ob,axL,dS (by trivial),axQ rfl]
def Hw(X:Fu+60<=a)(n:Int)(l:Do bq)(d o k:Int)(f:bj)(i:lP)(w:WV)(he:f.length<=reachBytes)(hq:i.length<=reachBytes):
 gU a (n,l,d,o,k,f,i,w.1,w.2.1,w.2.2.1,w.2.2.2.1,w.2.2.2.2)=some true:=by
 obtain⟨a,rfl⟩:=sC a 1;have W:=bP;have a0:reachBytes=140737488351232:=rfl;rw[u9,cd];by_cases x:(30:Int)<((l.length:Nat):Int)
 .rw[axn x]
 rw[axm x,cd];by_cases y:(12:Int)<n
 .rw[axn y]
 rw[axm y,fF bv bv,cd];by_cases z:(70:Int)<((f.length:Nat):Int)+((i.length:Nat):Int)
 .rw[axn z]
 rw[axm z,cd];by_cases A:(60:Int)<((w.2.2.2.2.length:Nat):Int)
 .rw[axn A]
 rw[axm A];obtain⟨e,v,B,E,I,F,U,p⟩:=anQ (N:=a) bv (w:=w) bv (n,l,d,o) (by simp only;omega) k f i bv bv;have V:sP a (n,l,d,o,k,f,i,w)=some (n,v,B,E,e,I,F):=by
  show Option.map _ (GM (a+1) (n,l,d,o) (k,f,i) w)=_;rw[U];rfl
 rw[V,ob];obtain⟨G,J,t⟩:=afn (N:=a) bv (n,l,d,o);rw[J,ob];obtain⟨H,C,u⟩:=arj (N:=a) bv k f i;simp only at p⊢;rcases p with⟨R,D,rfl,rfl,s⟩|⟨rfl,j,L,rfl,S,hl,K⟩
 .simp only[axI]at D
  obtain⟨_,rfl,rfl,rfl⟩:=D;have r:=alf (N:=a) bv n v B E bv;cases G with
  |false=>
   simp only[ayf,axL];rcases s with⟨rfl,_⟩|⟨h,_⟩
   .rw[dS (by trivial),r,ob]
   .have:=t.2 h;cases this
  |true=>
   simp only[axA,axr];rw[C,ob];cases H with
   |false=>
    simp only[ayf,axL];rcases s with⟨rfl,_⟩|⟨_,h,_⟩
    .rw[dS (by trivial),r,ob]
    .have:=u.2 h;cases this
   |true=>
    simp only[axA,axr];rw[cnF R,r,ob,axL,dS (by trivial),dS (by trivial),cd];rcases s with⟨_,h|h⟩|⟨j,_,h|⟨rfl,h⟩⟩
    .exact absurd (t.1 rfl) h
    .exact absurd (u.1 rfl) h
    .rw[axn h]
    .rw[axm bv,dS (by trivial)]
     obtain⟨b,M,N⟩:=anW (N:=a) (bi:=w.1) (bl:=w.2.1) (g:=w.2.2.1) (P:=w.2.2.2.1) (pk:=w.2.2.2.2) bv bv;rw[M,ob];cases b with
     |false=>rfl
     |true=>
      simp only[axA,axr];rcases h with h|⟨rfl,Q⟩
      .have:=N h;cases this
      .unfold StR at j
       simp only at j;obtain⟨m,rfl⟩:=nN n;obtain⟨c,p,O⟩:=afp (N:=a) bv (n:=m) (ts:=v) (by have:=j.1.2;rwa[axw]at this);rw[dS (by trivial),p,ob];cases c with
       |false=>rfl
       |true=>exact absurd (O.1 rfl) Q
 .obtain rfl:=t.2 j
  obtain rfl:=u.2 L;have Z:0<=d/\d<=1099511627776:=j.2.1;simp only[axA,axr];rw[C,ob];simp only[axA,axr];rw[xx (by trivial),fF bv bv,dS (by trivial),dS S,Eb];by_cases q:k=3
  .obtain⟨rfl,Y⟩:=K q
   rw[axn q,V1 bv _ _ bv,ob,axL,axQ bv]
  .rw[axm q]
