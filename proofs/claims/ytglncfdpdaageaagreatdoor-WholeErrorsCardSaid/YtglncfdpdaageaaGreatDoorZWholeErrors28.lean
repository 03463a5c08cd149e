/- part 28 -/
import Derived.Test.YtglncfdpdaageaaGreatDoorZWholeErrors27
set_option linter.all false
noncomputable section
open Go Go.RowKit
open IntKind (wrap)
set_option maxRecDepth 100000
open Go.Proofs.Tryz
open List (length)
namespace Go.Proofs.YtglncfdpdaageaaGreatDoor
def ahm{h:GE}(a:∀b o u,GT b o u->h.cell? ⟨b,o,none⟩=some u):∃f g,FC Tryz.prog h 4 [] .lf 0 (.v (.bool true)) f g:=by
 have d:=ahc a;have j:MOk Tryz.prog h (jG []):=MOk.nil;have k:=j.cons (e:=G9) (ey mixed xg a d j wr0);have t:=k.cons (e:=Hu) (ey mixed xg a d k wr1);have v:=t.cons (e:=HI) (ey mixed xg a d t wr2);have w:=v.cons (e:=JR) (ey mixed xg a d v wr3);have x:=w.cons (e:=L7) (ey mixed xg a d w wr4);have y:=x.cons (e:=Mh) (ey mixed xg a d x wr5);have z:=y.cons (e:=Q5) (ey mixed xg a d y wr6);have A:=z.cons (e:=Rn) (ey mixed xg a d z wr7);have B:=A.cons (e:=TZ) (ey mixed xg a d A wr8);have l:=B.cons (e:=YK) (ey mixed xg a d B wr9);have m:=l.cons (e:=By) (ey mixed xg a d l as8);have n:=m.cons (e:=C5) (ey mixed xg a d m as9);have p:=n.cons (e:=G_) (ey mixed xg a d n as_);have q:=p.cons (e:=HJ) (ey mixed xg a d p ata);have r:=q.cons (e:=L8) (ey mixed xg a d q atb);have s:=r.cons (e:=Q6) (ey mixed xg a d r atc);have D:=s.cons (e:=T0) (ey mixed xg a d s atd);obtain⟨c,f,g,C,i⟩:=t_ mixed xg a d D 3000 4 [] .lf 0 _ 0 wr;split at i
 ·exact⟨f,g,C⟩
 ·cases i
noncomputable def Q9(N:Nat):Unit->At In:=λ_=>some true
noncomputable def Q_:CO:=⟨λN=>⟨4,[],[],[],In,Q9 N,λy _ k=>k (.sc .b y) [],false,true⟩,λN=>by
 refine⟨λ_=>rfl,λx y q=>⟨.sc .b true,[],λR k=>?_,λ_=>rfl,λ_=>⟨rfl,rfl⟩,?_⟩⟩
 ·cases q;rfl
 refine⟨kW Ai Aj 4 d6,λB Rd e w c l m=>?_⟩;have a:SR B Rd e [] w:=l;have n:LR (VR (bN B Rd e [] w) (some e)) [] c:=m;have j:c=[]:=avq n.1;subst j;have d:∀b o u,GT b o u->w.cell? ⟨b,o,none⟩=some u:=λb o u h=>(a.CM h).1;obtain⟨r,s,f⟩:=ahm d;refine(f.2 (λ_=>none) w [] (ag9 w) ⟨rfl,d5⟩).mono λx t p=>?_;obtain⟨v,z,rfl,g,i⟩:=p;rw[i.bL];exact⟨_,e,rfl,(a.later g.hr.ext).1,.v⟩⟩
noncomputable def Bz(N:Nat):iS:=⟨8,[.h jb],[],[jb],Do BX×Int×Int,jc N,λy _ k=>k (rSt y.1 y.2.1 y.2.2) [],false,false⟩
def Ma(N:Nat):(Bz N).ok PG:=by
 refine⟨?_,?_⟩
 ·exactλ_=>rfl
 ·intro(x:aX) (y:Do BX×Int×Int) a
  dsimp only[Bz]at a;have h:=ake (Q7 a);refine⟨rSt y.1 y.2.1 y.2.2,[],?_,?_,?_,?_⟩
  ·exactλR k=>rfl
  ·exactλ_=>rfl
  ·exactλh=>by cases h
  ·exact h
noncomputable def wc:CO:=⟨Bz,Ma⟩
abbrev lZ:Sc:=.i .i64
abbrev je2:Sc:=.i .u8
abbrev je3:Sc:=.sl lZ
abbrev je4:Sc:=.pr lZ lZ
abbrev je5:Sc:=.pr lZ .b
abbrev je6:Sc:=.sl je2
abbrev je7:Sc:=.pr lZ je3
abbrev je8:Sc:=.pr lZ je5
abbrev je9:Sc:=.sl je4
abbrev akf:Sc:=.pr lZ je7
abbrev ath:Sc:=.pr lZ je8
abbrev akg:Sc:=.sl akf
abbrev akh:Sc:=.sl ath
abbrev Ae1:Type:=Int×aX
abbrev Ae2:Type:=bh
abbrev Ae3:Type:=Int×(Int×In)
abbrev Ae4:Type:=Do (Int×Ae1)
abbrev Ae5:Type:=Do (Int×Ae3)
noncomputable def CF:Do CO:=[]
noncomputable def CG:FD:=cQ 6 Tryz.f6 .z [.h je2] [] (bm [(2,.k (.pt 900 0))] [(900,.box 28 [.h lZ,.k .nil,.h lZ,.h lZ])]) false true []
noncomputable def lB:Nat->Int->At (Int×Int×Int):=mF CF CG
noncomputable def Ra:CO:=cF CF CG lB func6
def Ha N n:lB (N+1) n=some ((wrap .i64 (1+(Int.tmod (wrap .i64 n) 12))),0,0):=ci
noncomputable def ua:Do CO:=[akJ,wc,L_]
def we:PS:=bm [(3,.k (.pt 900 0)),(5,.k (.pt 901 0)),(6,.k (.pt 902 0)),(11,.h lZ),(12,.k (.ow 903)),(27,.h (.sl (.pr lZ (.pr je9 (.sl (.pr lZ je4)))))),(28,.h lZ),(29,.h lZ)] [(900,.box 28 [.h lZ,.h akh,.h lZ,.h lZ]),(901,.box 38 [.h lZ,.h lZ,.h lZ,.h lZ,.h je9]),(902,.box 28 [.h lZ,.k .nil,.h lZ,.h lZ]),(903,.arr 49 akf true)]
def wg:Do (IO×PS):=[((.exit 0),bm [(3,.k (.pt 900 0)),(6,.k (.pt 901 0)),(11,.h lZ),(12,.k (.ow 902))] [(900,.box 28 [.h lZ,.h akh,.h lZ,.h lZ]),(901,.box 28 [.h lZ,.k .nil,.h lZ,.h lZ]),(902,.arr 49 akf true)])]
def wh:Pl:=.z
noncomputable def kX:Nat->Nat->Int×(Do (Int×(Ae2×(Do (Int×(Int×Int))))))×Int×Int×Int×Ae5×Int×Int×Int×Int×Int×Int×Ae2×Int×Int×Int×Ae4->At (Int×Int×Ae5×Int×Int×Int×Int×Int×Ae4):=ga ua Tryz.f5 [1,1,1,1,0,1,0,0] we wg wh
noncomputable def CH:FD:=cQ 5 Tryz.f5 (.n .z (.n .z (.n .z (.n .z (.n (.n .z (.n (.loop we wg wh) .z)) .z))))) [.ag [.h lZ,.h akh,.h lZ,.h lZ],.h je6,.ag [.h lZ,.h lZ,.h lZ,.h lZ,.h je9]] [] (bm [(6,.k (.pt 900 0)),(7,.k (.ow 901)),(8,.h lZ)] [(900,.box 28 [.h lZ,.h akh,.h lZ,.h lZ]),(901,.arr 49 akf true)]) true false [901]
noncomputable def lC:Nat->Int×Ae5×Int×Int×aX×Int×Int×Int×Int×Ae2->At (Int×Int×Ae5×Int×Int×Ae4):=mF ua CH
noncomputable def Rc:CO:=cF ua CH lC func5
def C6(N m:Nat)(e:Int)(g:(Do (Int×(Ae2×(Do (Int×(Int×Int)))))))(h:Int)(b:Int)(s:Int)(c:Ae5)(d:Int)(f:Int)(w:Int)(n:Int)(o:Int)(p:Int)(q:Ae2)(i:Int)(j:Int)(k:Int)(l:Ae4):kX N (m+1) (e,g,h,b,s,c,d,f,w,n,o,p,q,i,j,k,l)=cond (decide (b<h))
 (aW (ba g b) λr=>
  aW (me N (s,(c,(d,(f,(r.1,(r.2.1,(r.2.2,(w,(n,(o,(p,q)))))))))))) λa=>
  aW (eo (40:Nat) l [(a.2.2.2.2.1,(a.2.2.2.2.2.1,a.2.2.2.2.2.2))]) λt=>
  (kX N m (e,(g,(h,((wrap .i64 (b+(1:Int))),(a.1,(a.2.1,(a.2.2.1,(a.2.2.2.1,(w,(n,(o,(p,(q,(i,(j,(k,t))))))))))))))))))
 (some (e,(s,(c,(d,(f,(i,(j,(k,l))))))))):=ci
def Hb N s c d e b w g h i j:lC (N+1) (s,c,d,e,b,w,g,h,i,j)=aW (nO N (s,c,d,e)) λk=>
 cond (!k)
  (some (1,s,c,d,e,[]))
  (aW (jc N b) λf=>
   aW (kX N N (f.2.2,f.1,(length f.1:Int),0,s,c,d,e,w,g,h,i,j,0,0,0,[])) λa=>
   cond (!(a.1=0))
    (aW (eo 40 a.2.2.2.2.2.2.2.2 [(a.1,0,[])]) λl=>
     some (a.1,a.2.1,a.2.2.1,a.2.2.2.1,a.2.2.2.2.1,l))
    (some (a.1,a.2.1,a.2.2.1,a.2.2.2.1,a.2.2.2.2.1,a.2.2.2.2.2.2.2.2))):=ci
noncomputable def CI:Do CO:=[]
noncomputable def CJ:FD:=cQ 9 f9 .z [.h .b] [] (bm [(2,.h lZ)] []) false true []
noncomputable def nX:Nat->In->eQ:=mF CI CJ
noncomputable def Re:CO:=cF CI CJ nX func9
def Hc N a:nX (N+1) a=cond a
 (some 1)
 (some 0):=ci
noncomputable def Ak:Do CO:=[amR]
noncomputable def Al:FD:=cQ 12 f12 .z [.ag [.h lZ,.h lZ,.h je3],.ag [.h lZ,.h lZ,.h je3]] [] (bm [(4,.h .b)] []) false true []
noncomputable def j_:Nat->Int×Int×aX×Int×Int×aX->eh:=mF Ak Al
noncomputable def Am:CO:=cF Ak Al j_ func12
def C7 N a c d b e f:j_ (N+1) (a,c,d,b,e,f)=cond (a=b)
 (cond (c=e)
  (aW (Lf N (d,f)) λg=>
   some g)
  (some false))
 (some false):=ci
noncomputable def ub:Do CO:=[Am]
def wi:PS:=bm [(0,.h akg),(1,.h akg),(5,.h lZ)] []
def wj:Do (IO×PS):=[((.exit 0),bm [] []),(.ret,bm [(4,.h .b)] [])]
def wm:Pl:=.z
noncomputable def kY:Nat->Nat->Ae4×Ae4×Int->At ((Unit)⊕(In)):=ga ub f11 [1,1,0,1,0,0] wi wj wm
noncomputable def CL:FD:=cQ 11 f11 (.n .z (.n .z (.n (.n .z (.n (.loop wi wj wm) .z)) .z))) [.h akg,.h akg] [] (bm [(4,.h .b)] []) false true []
noncomputable def lD:Nat->Ae4×Ae4->eh:=mF ub CL
noncomputable def Rf:CO:=cF ub CL lD func11
def rF N m a b i:kY N (m+1) (a,b,i)=cond (i<(length a:Int))
 (aW (ba a i) λc=>
  aW (ba b i) λd=>
  aW (j_ N (c.1,c.2.1,c.2.2,d.1,d.2.1,d.2.2)) λe=>
  cond (!e)
   (some (.inr false))
   ((kY N m (a,b,(wrap .i64 (i+1))))))
 (some (.inl ())):=ci
def Hd N a b:lD (N+1) (a,b)=cond (!((length a:Int)=(length b:Int)))
 (some false)
 (aW (kY N N (a,b,0)) λc=>
  (match c with
  |.inl e=>some true
  |.inr d=>some d)):=ci
noncomputable def nY:Do CO:=[Q_,Ra,amO,Rc,wc,Re,amQ,Rf,Am]
noncomputable def nZ:FD:=cQ 3 Tryz.f3 .z [.h je2,.h je6] [] (bm [(4,.h .b)] []) false true []
noncomputable def hU:Nat->Int×aX->eh:=mF nY nZ
noncomputable def ke:CO:=cF nY nZ hU ax_
def uc N n b:hU (N+1) (n,b)=cond (250<(length b:Int))
 (some true)
 (aW (lB N n) λg=>
  aW (F_ N ()) λe=>
  aW (lC N (g.1,[],g.2.1,g.2.2,b,e.1,e.2.1,e.2.2.1,e.2.2.2.1,e.2.2.2.2)) λa=>
  aW (jc N b) λc=>
  cond (!(a.1=c.2.2))
   (some false)
   (cond (c.2.1<0)
    (some false)
    (cond ((length b:Int)<c.2.1)
     (some false)
     (aW (nX N (!(c.2.2=0))) λz5=>
      cond (!((length a.2.2.2.2.2:Int)=(wrap .i64 ((length c.1:Int)+z5))))
       (some false)
       (aW (lB N n) λi=>
        aW (iR b 0 c.2.1) λr=>
        aW (F_ N ()) λf=>
        aW (lC N (i.1,[],i.2.1,i.2.2,r,f.1,f.2.1,f.2.2.1,f.2.2.2.1,f.2.2.2.2)) λd=>
        cond (c.2.2=0)
         (cond (c.2.1=(length b:Int))
          (aW (Gc N (a.2.1,a.2.2.1,a.2.2.2.1,a.2.2.2.2.1,d.2.1,d.2.2.1,d.2.2.2.1,d.2.2.2.2.1)) λj=>
           cond j
            (aW (lD N (a.2.2.2.2.2,d.2.2.2.2.2)) λk=>
             cond k
              (some (decide (d.1=0)))
              (some false))
            (some false))
          (some false))
         (aW (ba a.2.2.2.2.2 (length c.1:Int)) λs=>
          aW (ba a.2.2.2.2.2 (length c.1:Int)) λh=>
          aW (j_ N (h.1,h.2.1,h.2.2,c.2.2,0,[])) λl=>
          cond l
           (aW (Gc N (a.2.1,a.2.2.1,a.2.2.2.1,a.2.2.2.2.1,d.2.1,d.2.2.1,d.2.2.2.1,d.2.2.2.2.1)) λm=>
            cond m
             (cond ((length c.1:Int)<=(length d.2.2.2.2.2:Int))
              (aW (iR a.2.2.2.2.2 0 (length c.1:Int)) λo=>
               aW (iR d.2.2.2.2.2 0 (length c.1:Int)) λp=>
               aW (lD N (o,p)) λq=>
               some q)
              (some false))
             (some false))
           (some false))))))):=ci
variable{e:Int}{g:Int×Nat}{a d:Nat}{c:Nat×Int}{h i:Type}{b:aX}
abbrev RO(γ:Type):Type:=Sum (Nat×Int) (γ×Nat)
def BA(o:RO h)(f:h->Nat->RO i):RO i:=match o with
 |.inl e=>.inl e
 |.inr c=>f c.1 c.2
def nv(x y:Int):Int:=Ez .or .i64 (wrap .i64 ((wrap .i64 x)*((2:Int)^(min (Int.toNat (8:Int)) (64:Nat))))) (wrap .i64 y)
def Rg(a:Int)(r:aX)(k:Nat):RO Int:=match r[k]? with
 |none=>.inl (k,7)
 |some x=>if 1<=wrap .i64 x/\wrap .i64 x<=a then .inr (wrap .i64 x,k+1)else .inl (k,8)
def D2(r:aX)(k:Nat):RO Int:=match r[k]? with
 |none=>.inl (r.length,7)
 |some x=>match r[k+1]? with
  |none=>.inl (r.length,7)
  |some y=>.inr (nv x y,k+2)
def Ro(r:aX)(c:Int):Nat->Nat->bh->fU->RO (bh×fU)
 |0,k,a,b=>.inr ((a,b),k)
 |m+1,k,a,b=>if c=3 then BA (Rg 4 r k) λx k=>BA (D2 r k) λu k=>BA (D2 r k) λv k=>Ro r c m k a (b++[(x,u,v)])
  else BA (D2 r k) λu k=>BA (D2 r k) λv k=>Ro r c m k (a++[(u,v)]) b
def T4(r:aX)(k:Nat):RO BX:=BA (Rg 3 r k) λx k=>BA (D2 r k) λn a=>if 60<n then .inl (k,9)else BA (Ro r x n.toNat a [] []) λc k=>.inr ((x,c.1,c.2),k)
def oO(r:aX):Nat->Nat->Do BX->Do BX×Nat×Int
 |0,k,l=>(l,k,0)
 |m+1,k,l=>if k<r.length then(match T4 r k with
  |.inl p=>(l,p.1,p.2)
  |.inr c=>oO r m c.2 (l++[c.1]))else(l,k,0)
def abe(q:D7)(m:At i)(o:RO h)(f:h->Nat->i):Prop:=match o with
 |.inl p=>q=some (S2 p.1 p.2)
 |.inr c=>q=none/\m=some (f c.1 c.2)
def ahn(p:a<=b.length){q:D7}{m:At (Int×aX×Int)}{F G:Int->At In}
 (j:∀z,F z=some (decide (1<=z/\z<=e))) (k:∀z,G z=some (decide (1<=z/\z<=e))) (r:b.length<=1000)
 (n:q=cond (decide ((a:Int)=(((length b):Nat):Int))) (some (S2 a 7)) (aW (ba b a) λz=>aW (F (wrap .i64 z)) λc=>cond (!c) (some (S2 a 8)) none))
 (l:m=cond (decide ((a:Int)=(((length b):Nat):Int))) none (aW (ba b a) λg=>aW (G (wrap .i64 g)) λo=>cond (!o) none (some ((wrap .i64 g),(b,(wrap .i64 ((a:Int)+(1:Int)))))))):
 abe q m (Rg e b a) λx a=>(x,b,(a:Int)):=by
 subst n;subst l;unfold Rg;by_cases h:a=b.length
 ·rw[au5 bv]
  show cond _ _ _=_;rw[eC bv]
 ·obtain⟨x,f⟩:=get_at (xs:=b) (i:=a) bv
  rw[f,dT bv,dT bv,bd f,ob,ob,j,ob,k,ob];simp only;by_cases d:1<=wrap .i64 x/\wrap .i64 x<=e
  ·rw[auo d,auU d,cG bv]
   exact⟨rfl,rfl⟩
  ·rw[aun d,auW d]
   rfl
def YL{N:Nat}(e:2<=N)(c:a<=b.length)(d:b.length<=1000):abe (XP N (b,(a:Int))) (P0 N (b,(a:Int))) (Rg 3 b a) λx a=>(x,b,(a:Int)):=by
 obtain⟨N,rfl⟩:∃M,N=M+2:=⟨N - 2,bv⟩;have h:∀N z,afj (N+1) z=some (decide (1<=z/\z<=3)):=λN z=>by
  rw[aiU,cd];split
  ·rename_i h;simp[h]
  ·rename_i h;simp[h]
 exact ahn c (h (N+1)) (h N) d (afz _ _ _) (afm _ _ _)
def aki(f:2<=a)(c:d<=b.length)(e:b.length<=1000):abe (XQ a (b,(d:Int))) (Jh a (b,(d:Int))) (Rg 4 b d) λx d=>(x,b,(d:Int)):=by
 obtain⟨a,rfl⟩:∃M,a=M+2:=⟨a - 2,bv⟩;have h:∀a z,wR (a+1) z=some (decide (1<=z/\z<=4)):=λa z=>by
  rw[IE,cd];split
  ·rename_i h;simp[h]
  ·rename_i h;simp[h]
 exact ahn c (h (a+1)) (h a) e (afB _ _ _) (afp _ _ _)
def aho(j:b.length<=1000)(g:d<=b.length):ja (a+1) (b,(d:Int))=(match b[d]? with
 |none=>some (0,false)
 |some x=>match b[d+1]? with
  |none=>some (0,false)
  |some y=>some (nv x y,true)):=by
 rw[Bb,dT bv,gZ bv bv,cd];by_cases h:d+2<=b.length
 ·obtain⟨x,c⟩:=get_at (xs:=b) (i:=d) bv
  obtain⟨y,e⟩:=get_at (xs:=b) (i:=d+1) bv;rw[aun bv,bd c,ob,cG bv,bd e,ob,c,e];rfl
 ·rw[auo bv]
  by_cases f:d=b.length
  ·rw[au5 bv]
  ·obtain⟨x,c⟩:=get_at (xs:=b) (i:=d) bv
   rw[c];simp only;rw[au5 bv]
def BB{N:Nat}(d:2<=N){k:Nat}(a:k<=b.length)(c:b.length<=1000):abe (CY N (b,(k:Int))) (tp N (b,(k:Int))) (D2 b k) λx k=>(x,b,(k:Int)):=by
 obtain⟨N,rfl⟩:∃M,N=M+2:=⟨N - 2,bv⟩;rw[ai5,aiV,aho c a,aho c a];unfold D2;cases b[k]? with
 |none=>rfl
 |some x=>
  cases b[k+1]? with
  |none=>rfl
  |some y=>exact⟨rfl,by simp only[ob];rw[gZ bv bv];rfl⟩
def oN(h:Rg e b a=.inr g):g.2=a+1/\a<b.length:=by
 unfold Rg at h;split at h
 ·cases h
 ·rename_i x c
  split at h
  ·cases h;exact⟨rfl,(aus.1 c).1⟩
  ·cases h
def eV(h:D2 b a=.inr g):g.2=a+2/\a+1<b.length:=by
 unfold D2 at h;split at h
 ·cases h
 ·split at h
  ·cases h
  ·rename_i y c
   cases h;exact⟨rfl,(aus.1 c).1⟩
def gn{o:RO h}{f:h->Nat->RO i}{d:i×Nat}(a:BA o f=.inr d):∃c,o=.inr c/\f c.1 c.2=.inr d:=by
 unfold BA at a;split at a
 ·cases a
 ·exact⟨_,rfl,a⟩
def iA{o:RO h}{f:h->Nat->RO i}(a:BA o f=.inl c):o=.inl c\/∃b,o=.inr b/\f b.1 b.2=.inl c:=by
 unfold BA at a;split at a
 ·cases a;exact .inl rfl
 ·exact .inr ⟨_,rfl,a⟩
def BC{r:aX}{p:Int}:∀{m k:Nat} {e:bh} {f:fU} {c:(bh×fU)×Nat},k<=r.length->Ro r p m k e f=.inr c->k<=c.2/\c.2<=r.length/\c.1.1.length<=e.length+m/\c.1.2.length<=f.length+m
 |0,k,e,f,c,j,h=>by cases h;exact⟨auq _,j,auq _,auq _⟩
 |m+1,k,e,f,c,j,h=>by
  simp only[Ro]at h;split at h
  ·obtain⟨a,o,h⟩:=gn h
   obtain⟨b,g,h⟩:=gn h;obtain⟨d,i,h⟩:=gn h;have q:=oN o;have l:=eV g;have n:=eV i;have:=BC bv h;simp only[auE,avp]at this;omega
  ·obtain⟨b,g,h⟩:=gn h
   obtain⟨d,i,h⟩:=gn h;have l:=eV g;have n:=eV i;have:=BC bv h;simp only[auE,avp]at this;omega
def ahp{c:BX×Nat}(h:T4 b a=.inr c):a<c.2/\c.2<=b.length/\c.1.2.1.length<=60/\c.1.2.2.length<=60:=by
 unfold T4 at h;obtain⟨e,g,h⟩:=gn h;obtain⟨f,i,h⟩:=gn h;split at h
 ·cases h
 ·rename_i m
  obtain⟨d,j,h⟩:=gn h;cases h;have k:=oN g;have l:=eV i;have:=BC bv j;simp only[avg]at this;simp only;omega
def D3(d:a<=b.length)(h:Rg e b a=.inl c):c.1=a/\c.2≠0:=by
 unfold Rg at h;split at h
 ·cases h;exact⟨rfl,d5⟩
 ·split at h
  ·cases h
  ·cases h;exact⟨rfl,d5⟩
def D4(h:D2 b a=.inl c):c=(b.length,7):=by
 unfold D2 at h;split at h
 ·cases h;rfl
 ·split at h
  ·cases h;rfl
  ·cases h
def uU{r:aX}{u:Int}:∀{m k:Nat} {i:bh} {o:fU} {p:Nat×Int},k<=r.length->Ro r u m k i o=.inl p->k<=p.1/\p.1<=r.length/\p.2≠0
 |0,k,i,o,p,e,h=>by cases h
 |m+1,k,i,o,p,e,h=>by
  simp only[Ro]at h;have g:∀{k:Nat} {f:Int->Nat->RO (bh×fU)},k<=r.length->BA (D2 r k) f=.inl p->(∀c,D2 r k=.inr c->f c.1 c.2=.inl p->k<=p.1/\p.1<=r.length/\p.2≠0)->k<=p.1/\p.1<=r.length/\p.2≠0:=λe h t=>by
   rcases iA h with h|⟨c,j,h⟩
   ·rw[D4 h];exact⟨e,auq _,d5⟩
   ·exact t c j h
  split at h
  ·rcases iA h with h|⟨a,j,h⟩
   ·have:=D3 e h;omega
   have v:=oN j;have:=g bv h λb l h=>by
    have q:=eV l;have:=g bv h λd n h=>by
     have s:=eV n;have:=uU bv h;omega
    omega
   omega
  ·exact g e h λb l h=>by
    have q:=eV l;have:=g bv h λd n h=>by
     have s:=eV n;have:=uU bv h;omega
    omega
def YM(g:a<=b.length)(h:T4 b a=.inl c):a<=c.1/\c.1<=b.length/\c.2≠0:=by
 unfold T4 at h;rcases iA h with h|⟨d,i,h⟩
 ·have:=D3 g h;omega
 have k:=oN i;rcases iA h with h|⟨e,j,h⟩
 ·rw[D4 h];exact⟨g,auq _,d5⟩
 have l:=eV j;split at h
 ·cases h;exact⟨by simp only;omega,by simp only;omega,d5⟩
 ·rcases iA h with h|⟨f,m,h⟩
  ·have:=uU bv h;omega
  ·cases h
def He(h:d<a):(b.take a)[d]? =b[d]? :=by rw[au3,auo h]
def An(h:d<a):Rg e (b.take a) d=Rg e b d:=by
 unfold Rg;rw[He h]
def kZ(h:d+1<a)(c:D2 b d=.inr g):D2 (b.take a) d=.inr g:=by
 unfold D2 at c⊢;rw[He bv,He h];split at c
 ·cases c
 ·split at c
  ·cases c
  ·exact c
def Mb{r:aX}{o:Int}{p:Nat}:∀{m k:Nat} {g:bh} {i:fU} {c:(bh×fU)×Nat},k<=r.length->c.2<=p->Ro r o m k g i=.inr c->Ro (r.take p) o m k g i=.inr c
 |0,k,g,i,c,u,l,h=>h
 |m+1,k,g,i,c,u,l,h=>by
  simp only[Ro]at h⊢;split at h
  ·rename_i j
   obtain⟨a,n,h⟩:=gn h;obtain⟨b,e,h⟩:=gn h;obtain⟨d,f,h⟩:=gn h;have v:=oN n;have q:=eV e;have s:=eV f;have t:=BC bv h;rw[auo j,An bv,n];simp only[BA];rw[kZ bv e];simp only;rw[kZ bv f];exact Mb bv l h
  ·rename_i j
   obtain⟨b,e,h⟩:=gn h;obtain⟨d,f,h⟩:=gn h;have q:=eV e;have s:=eV f;have t:=BC bv h;rw[aun j,kZ bv e];simp only[BA];rw[kZ bv f];exact Mb bv l h
def akj{c:BX×Nat}(l:c.2<=a)(h:T4 b d=.inr c):T4 (b.take a) d=.inr c:=by
 unfold T4 at h⊢;obtain⟨e,i,h⟩:=gn h;obtain⟨f,j,h⟩:=gn h;have n:=oN i;have o:=eV j;split at h
 ·cases h
 ·rename_i m
  obtain⟨g,k,h⟩:=gn h;cases h;have p:=BC bv k;simp only at l;rw[An bv,i];simp only[BA];rw[kZ bv j];simp only;rw[aun m,Mb bv l k]
def akk:Rg e (b.take a) a=.inl (a,7):=by
 unfold Rg;rw[au3,aun (axy _)]
def Mc{r:aX}{s:Int}:∀{m k:Nat} {g:bh} {j:fU} {p:Nat×Int},k<=r.length->p.1<r.length->Ro r s m k g j=.inl p->∃q,Ro (r.take p.1) s m k g j=.inl q
 |0,k,g,j,p,o,f,h=>by cases h
 |m+1,k,g,j,p,o,f,h=>by
  simp only[Ro]at h⊢;have i:∀{k:Nat},D2 r k≠.inl p:=λ{k} h=>by rw[D4 h]at f;simp only at f;omega
  split at h
  ·rename_i l
   rw[auo l];rcases iA h with h|⟨a,n,h⟩
   ·have:=D3 o h
    rw[this.1,akk];exact⟨_,rfl⟩
   rcases iA h with h|⟨b,c,h⟩
   ·exact absurd h i
   rcases iA h with h|⟨d,e,h⟩
   ·exact absurd h i
   have w:=oN n;have t:=eV c;have u:=eV e;have v:=uU bv h;rw[An bv,n];simp only[BA];rw[kZ bv c];simp only;rw[kZ bv e];exact Mc bv f h
  ·rename_i l
   rw[aun l];rcases iA h with h|⟨b,c,h⟩
   ·exact absurd h i
   rcases iA h with h|⟨d,e,h⟩
   ·exact absurd h i
   have t:=eV c;have u:=eV e;have v:=uU bv h;rw[kZ bv c];simp only[BA];rw[kZ bv e];exact Mc bv f h
def akl(r:a<b.length)(i:c.1<b.length)(h:T4 b a=.inl c):c.1=a\/a<c.1/\∃q,T4 (b.take c.1) a=.inl q:=by
 unfold T4 at h⊢;rcases iA h with h|⟨d,g,h⟩
 ·exact .inl (D3 bv h).1
 have m:=oN g;rcases iA h with h|⟨e,j,h⟩
 ·rw[D4 h]at i;simp only at i;omega
 have n:=eV j;split at h
 ·cases h
  refine .inr ⟨by simp only;omega,?_⟩;simp only;rw[An bv,g];simp only[BA];have:D2 (b.take d.2) d.2=.inl ((b.take d.2).length,7):=by
   unfold D2;rw[au3,aun (axy _)]
  rw[this];exact⟨_,rfl⟩
 ·rename_i k
  rcases iA h with h|⟨f,p,h⟩
  ·have o:=uU bv h
   refine .inr ⟨bv,?_⟩;rw[An bv,g];simp only[BA];rw[kZ bv j];simp only;obtain⟨q,l⟩:=Mc bv i h;rw[aun k,l];exact⟨_,rfl⟩
  ·cases h
def T5(r:aX):∀(m k:Nat) (l:Do BX),k<=r.length->r.length<k+m->(∀x∈l,x.2.1.length<=60/\x.2.2.length<=60)->
 k<=(oO r m k l).2.1/\(oO r m k l).2.1<=r.length/\((oO r m k l).2.2=0->(oO r m k l).2.1=r.length)/\(oO r m k l).1.length<=l.length+m/\(∀x∈(oO r m k l).1,x.2.1.length<=60/\x.2.2.length<=60)/\
 ((oO r m k l).2.1<r.length->∃e,oO (r.take (oO r m k l).2.1) m k l=((oO r m k l).1,(oO (r.take (oO r m k l).2.1) m k l).2.1,e))
 |0,k,l,n,s,g=>by omega
 |m+1,k,l,n,s,g=>by
  simp only[oO];by_cases h:k<r.length
  ·simp only[auo h]
   cases f:T4 r k with
   |inl p=>
    simp only;have a:=YM (Nat.le_of_lt h) f;refine⟨a.1,a.2.1,λe=>absurd e a.2.2,bv,g,λb=>?_⟩;have i:(r.take p.1).length=p.1:=by rw[au8];omega
    rcases akl h b f with j|⟨j,q,t⟩
    ·rw[aun (by rw[i];omega)]
     exact⟨0,rfl⟩
    ·rw[auo (by rw[i];exact j),t]
     exact⟨q.2,rfl⟩
   |inr c=>
    simp only;have a:=ahp f;obtain⟨u,v,w,o,y,z⟩:=T5 r m c.2 (l++[c.1]) a.2.1 bv (λx d=>by
     rcases auC.1 d with d|d
     ·exact g x d
     ·rw[auN.1 d];exact a.2.2)
    refine⟨bv,v,w,by rw[auE]at o;simp only[avp]at o;omega,y,λb=>?_⟩;have i:(r.take (oO r m c.2 (l++[c.1])).2.1).length=(oO r m c.2 (l++[c.1])).2.1:=by rw[au8];omega
    rw[auo (by rw[i];omega),akj u f];exact z b
  ·simp only[aun h]
   exact⟨auq _,n,λ_=>by omega,bv,g,λb=>absurd b h⟩
def D5{N:Nat}(f:2<=N){r:aX}(g:r.length<=1000){kd:Int}:∀(m:Nat) {k M:Nat} {es:bh} {qs:fU} {i n:Int},k<=r.length->m<M->n - i<=m->(0<m->n - i=m)->0<=i->i<=1000->n<=1000->es.length+m<=1000->qs.length+m<=1000->
 abe (P3 N M (n,i,r,(k:Int),kd,es,qs)) (Gf N M (n,i,r,(k:Int),kd,es,qs)) (Ro r kd m k es qs) λc k=>(kd,r,(k:Int),c.1,c.2)
 |0,k,M,es,qs,i,n,u,K,F,s,G,H,t,I,J=>by
  obtain⟨M,rfl⟩:∃o,M=o+1:=⟨M - 1,bv⟩;rw[XR,P1,dT bv,dT bv];exact⟨rfl,rfl⟩
 |m+1,k,M,es,qs,i,n,u,K,F,s,G,H,t,I,J=>by
  obtain⟨M,rfl⟩:∃o,M=o+1:=⟨M - 1,bv⟩;have s:=s bv;rw[XR,P1,eC bv,cd (p:=i<n),auo bv,cd,cd,gZ bv bv];simp only[Ro];by_cases C:kd=3
  ·simp only[auo C]
   have h:=aki f u g;cases q:Rg 4 r k with
   |inl p=>
    rw[q]at h;have h:XQ N (r,(k:Int))=_:=h;rw[h];rfl
   |inr x=>
    rw[q]at h;obtain⟨A,v⟩:=h;have L:=oN q;have a:=BB f (k:=x.2) bv g;cases e:D2 r x.2 with
    |inl p=>
     rw[e]at a;have a:CY N (r,(x.2:Int))=_:=a;rw[A,v];simp only[mR,ob,BA,e];rw[a];rfl
    |inr y=>
     rw[e]at a;obtain⟨l,j⟩:=a;have D:=eV e;have b:=BB f (k:=y.2) bv g;cases d:D2 r y.2 with
     |inl p=>
      rw[d]at b;have b:CY N (r,(y.2:Int))=_:=b;rw[A,v];simp only[mR,ob,BA,e,d];rw[l,j];simp only[mR,ob];rw[b];rfl
     |inr z=>
      rw[d]at b;obtain⟨B,w⟩:=b;have E:=eV d;rw[A,v];simp only[mR,ob,BA,e,d];rw[l,j];simp only[mR,ob];rw[B,w];simp only[mR,ob];rw[cw bv (by simp only[avp];omega)];simp only[ob];exact D5 f g m (k:=z.2) bv bv bv (λ_=>by omega) bv bv t bv (by rw[auE,avp];omega)
  ·simp only[aun C]
   have a:=BB f u g;cases e:D2 r k with
   |inl p=>
    rw[e]at a;have a:CY N (r,(k:Int))=_:=a;rw[a];rfl
   |inr y=>
    rw[e]at a;obtain⟨l,j⟩:=a;have D:=eV e;have b:=BB f (k:=y.2) bv g;cases d:D2 r y.2 with
    |inl p=>
     rw[d]at b;have b:CY N (r,(y.2:Int))=_:=b;rw[l,j];simp only[mR,ob,BA,d];rw[b];rfl
    |inr z=>
     rw[d]at b;obtain⟨B,w⟩:=b;have E:=eV d;rw[l,j];simp only[mR,ob,BA,d];rw[B,w];simp only[mR,ob];rw[cw bv (by simp only[avp];omega)];simp only[ob];exact D5 f g m (k:=z.2) bv bv bv (λ_=>by omega) bv bv t (by rw[auE,avp];omega) bv
def anW{N:Nat}(C:100<=N)(q:a<=b.length)(e:b.length<=1000):abe (ai6 (N+1) (b,(a:Int))) (aiW (N+1) (b,(a:Int))) (T4 b a) λx a=>(x.1,x.2.1,x.2.2,b,(a:Int)):=by
 rw[ai7,aiX];unfold T4;have c:=YL (N:=N+1) bv q e;have l:=YL (N:=N) bv q e;cases j:Rg 3 b a with
 |inl p=>
  rw[j]at c;have c:XP (N+1) (b,(a:Int))=_:=c;rw[c];rfl
 |inr x=>
  rw[j]at c l;obtain⟨s,r⟩:=c;have t:=l.2;have A:=oN j;have d:=BB (N:=N+1) bv (k:=x.2) bv e;have m:=BB (N:=N) bv (k:=x.2) bv e;cases f:D2 b x.2 with
  |inl p=>
   rw[f]at d;have d:CY (N+1) (b,(x.2:Int))=_:=d;rw[s,r];simp only[mR,ob,BA,f];rw[d];rfl
  |inr y=>
   rw[f]at d m;obtain⟨w,u⟩:=d;have v:=m.2;have B:=eV f;rw[s,r,t];simp only[mR,ob,BA,f];rw[w,u,v];simp only[mR,ob,cd];by_cases h:60<y.1
   ·simp only[auo h]
    rfl
   ·simp only[aun h]
    have g:=D5 (N:=N+1) bv e (kd:=x.1) y.1.toNat (k:=y.2) (M:=N+1) (es:=[]) (qs:=[]) (i:=0) (n:=y.1) bv bv bv (λ_=>by omega) bv bv bv d7 d7;have o:=D5 (N:=N) bv e (kd:=x.1) y.1.toNat (k:=y.2) (M:=N) (es:=[]) (qs:=[]) (i:=0) (n:=y.1) bv bv bv (λ_=>by omega) bv bv bv d7 d7;cases k:Ro b x.1 y.1.toNat y.2 [] []with
    |inl p=>
     rw[k]at g;exact g
    |inr z=>
     rw[k]at g o;refine⟨g.1,?_⟩;rw[o.2];rfl
def YN{N:Nat}(j:101<=N){r:aX}(d:r.length<=1000):∀(m:Nat) {k M:Nat} {l:Do BX},k<=r.length->r.length<k+m->m<=M->l.length+m<=2000->
 afE N M (r,l,0,0,r,(k:Int))=some (.inr ((oO r m k l).1,((oO r m k l).2.1:Int),0))/\(oO r m k l).2.2=0\/afE N M (r,l,0,0,r,(k:Int))=some (.inl (S2 (oO r m k l).2.1 (oO r m k l).2.2,(oO r m k l).1,0,0))/\(oO r m k l).2.2≠0
 |0,k,M,l,a,o,i,n=>by omega
 |m+1,k,M,l,a,o,i,n=>by
  obtain⟨M,rfl⟩:∃f,M=f+1:=⟨M - 1,bv⟩;obtain⟨N,rfl⟩:∃g,N=g+1:=⟨N - 1,bv⟩;rw[am9,cd];simp only[oO];by_cases h:k<r.length
  ·rw[auo bv]
   simp only[auo h];have e:=anW (N:=N) bv a d;cases c:T4 r k with
   |inl p=>
    rw[c]at e;have e:ai6 (N+1) (r,(k:Int))=_:=e;rw[e];exact .inr ⟨rfl,(YM a c).2.2⟩
   |inr x=>
    rw[c]at e;rw[e.1,e.2];simp only[mR,ob];have b:=ahp c;rw[cw bv (by simp only[avp];omega),ob];exact YN j d m (k:=x.2) b.2.1 bv bv (by rw[auE,avp];omega)
  ·rw[aun bv]
   simp only[aun h];exact .inl ⟨trivial,trivial⟩
def YO{N:Nat}(d:1100<=N){r:aX}(c:r.length<=1000):jc N r=some ((oO r 1001 0 []).1,((oO r 1001 0 []).2.1:Int),(oO r 1001 0 []).2.2):=by
 obtain⟨N,rfl⟩:∃M,N=M+1:=⟨N - 1,bv⟩;show sGo (N+1) r=_;unfold sGo;rw[ai_];have h:=YN (N:=N+1) bv c 1001 (k:=0) (M:=N+1) (l:=[]) bv bv bv d5;rw[show((0:Nat):Int)=(0:Int)from rfl]at h;rcases h with⟨a,b⟩|⟨a,b⟩
 ·rw[a,ob]
  simp only;rw[b]
 ·rw[a,ob]
  simp only;rw[aj9,ob,auW b];rfl
section
open Go Go.RowKit Go.Sort
def ahq(m:Fu+45<=a){w:WV}(p:Dd.Aa w.1 w.2.1 w.2.2.1 w.2.2.2.1 w.2.2.2.2)(s:SV)(b:s.2.1.length<=100000)(k:Int)(d:bh)(c:fU)(u:d.length<=60)(x:c.length<=60):
 ∃y:SV×RV,rE (a+1) s (k,d,c) w=some y/\y.1.2.1.length<=100000/\y.2.2.2.length<=100000:=by
 obtain⟨e,h⟩:=ajF m p s b k d c bv bv;rcases h with⟨f,_,_,_⟩|⟨t,n,B,q,A,j,v,l,f,i⟩
 ·exact⟨_,f,b,d5⟩
 ·have z:=i.len
  refine⟨_,f,by simp only;omega,?_⟩;rcases i.res with⟨_,_,_,g⟩|⟨_,_,_,_,_,_,rfl,_⟩
  ·obtain⟨r,o,b⟩:=GV (N:=a+1) bv l c bv
   rw[o]at g;cases g;have b:j.length<=1000:=b;simp only;omega
  ·simp
noncomputable def abf(N:Nat)(w:WV):Do (Int×bh×fU)->SV->At (SV×Do RV)
 |[],s=>some (s,[])
 |x::l,s=>aW (rE (N+1) s x w) λy=>aW (abf N w l y.1) λz=>some (z.1,y.2::z.2)
def Rh{N:Nat}(d:Fu+45<=N){w:WV}(e:Dd.Aa w.1 w.2.1 w.2.2.1 w.2.2.2.1 w.2.2.2.2):∀(l:Do (Int×bh×fU)) (s:SV),s.2.1.length<=100000->(∀x∈l,x.2.1.length<=60/\x.2.2.length<=60)->
 ∃z,abf N w l s=some z/\z.1.2.1.length<=100000/\z.2.length=l.length/\∀r∈z.2,r.2.2.length<=100000
 |[],s,c,b=>⟨_,rfl,c,rfl,λr a=>by cases a⟩
 |x::l,s,c,b=>by
  obtain⟨y,j,k,m⟩:=ahq d e s c x.1 x.2.1 x.2.2 (b x d5).1 (b x d5).2;obtain⟨z,f,g,h,i⟩:=Rh d e l y.1 k (λx n=>b x (by simp[n]));refine⟨(z.1,y.2::z.2),?_,g,by simp[h],λr a=>?_⟩
  ·simp only[abf,j,ob,f]
  ·rcases auT.1 a with rfl|a
   ·exact m
   ·exact i r a
end
section
open Go Go.RowKit Go.Sort
def ahr(g:Fu+3<=a)(n:Int)(c:Do cA)(j:c.length<=100000):Le a (n,c,n,c)=some true:=by
 obtain⟨a,rfl⟩:∃M,a=M+1:=⟨a - 1,bv⟩;have f:=bR;have h:=lpv (F:=λm k (_:Unit)=>zt a m ((k:Int),n,c,n,c)) (n:=c.length) (I:=λ_ _=>True) (b:=.inl ()) (λm k s d _=>by
  obtain⟨x,e⟩:=get_at (xs:=c) d;refine⟨(),trivial,?_⟩;rw[Gb,eC bv,bd e,ob,ob];simp only[avF,axP,ayQ,auH,auv];rw[cG bv]) (λm s _=>by rw[Gb,dT bv]) (m:=a) (i:=0) (s:=()) bv bv trivial
 rw[show((0:Nat):Int)=(0:Int)from rfl]at h;rw[aat,BE rfl,BE rfl,h,ob]
def Ri(f:Fu+4<=a)(n:Int)(b:Do cA)(c d:Int)(e:b.length<=100000):Gc a (n,b,c,d,n,b,c,d)=some true:=by
 obtain⟨a,rfl⟩:∃M,a=M+1:=⟨a - 1,bv⟩;rw[aau,ahr bv n b e,ob,auQ,eC rfl,auU rfl]
def Rj(c:Fu+4<=a)(r:RV)(d:r.2.2.length<=100000):j_ a (r.1,r.2.1,r.2.2,r.1,r.2.1,r.2.2)=some true:=by
 obtain⟨a,rfl⟩:∃M,a=M+1:=⟨a - 1,bv⟩;have b:=bR;rw[C7,eC rfl,eC rfl,ajb a bv _ _ bv,ob,auU rfl]
def all_eq(g:Fu+6<=a)(l:Do RV)(j:l.length<=100000)(d:∀r∈l,r.2.2.length<=100000):lD a (l,l)=some true:=by
 obtain⟨a,rfl⟩:∃M,a=M+1:=⟨a - 1,bv⟩;have f:=bR;have h:=lpv (F:=λm k (_:Unit)=>kY a m (l,l,(k:Int))) (n:=l.length) (I:=λ_ _=>True) (b:=.inl ()) (λm k s e _=>by
  obtain⟨x,c⟩:=get_at (xs:=l) e;refine⟨(),trivial,?_⟩;rw[rF,eC bv,bd c,ob,ob,Rj bv x (d x (auI c)),ob];simp only[auH,auv];rw[cG bv]) (λm s _=>by rw[rF,dT bv]) (m:=a) (i:=0) (s:=()) bv bv trivial
 rw[show((0:Nat):Int)=(0:Int)from rfl]at h;rw[Hd,BE rfl,h,ob]
def arb{s:SV}{x:XV}{w:WV}{y:SV×RV}(h:rE (a+1) s x w=some y):
 me a (s.1,s.2.1,s.2.2.1,s.2.2.2,x.1,x.2.1,x.2.2,w)=some (y.1.1,y.1.2.1,y.1.2.2.1,y.1.2.2.2,y.2.1,y.2.2.1,y.2.2.2):=by
 show Option.map _ (rE (a+1) s x w)=_;rw[h];rfl
def ahs:Dd.Aa 8 3 2 3 [(0,1),(1,0),(2,0)]:=⟨d6,d6,Dd.aqv (g:=2) (P:=3) d6 d6 d6 d6 d6⟩
def YP{N:Nat}{w:WV}{e a b c:Int}{L:Do BX}(p:L.length<=100000):∀(m:Nat) {i:Nat} {s:SV} {acc:Do RV} {z:SV×Do RV},L.length<i+m->i<=L.length->acc.length+(L.length - i)<=100000->abf N w (L.drop i) s=some z->
 kX N m (e,L,(L.length:Int),(i:Int),s.1,s.2.1,s.2.2.1,s.2.2.2,w.1,w.2.1,w.2.2.1,w.2.2.2.1,w.2.2.2.2,a,b,c,acc)=some (e,z.1.1,z.1.2.1,z.1.2.2.1,z.1.2.2.2,a,b,c,acc++z.2)
 |0,i,s,acc,z,k,l,n,d=>by omega
 |m+1,i,s,acc,z,k,l,n,d=>by
  rw[C6,cd];by_cases f:i<L.length
  ·obtain⟨x,g⟩:=get_at (xs:=L) f
   rw[auo bv,bd g,ob];have q:L.drop i=x::L.drop (i+1):=by
    have o:=aze f;rw[auy f]at g;rw[o,aut g]
   rw[q]at d;simp only[abf]at d;obtain⟨y,t,d⟩:=bq d;obtain⟨z',u,d⟩:=bq d;cases d;have r:me N (s.1,(s.2.1,(s.2.2.1,(s.2.2.2,(x.1,(x.2.1,(x.2.2,(w.1,(w.2.1,(w.2.2.1,(w.2.2.2.1,w.2.2.2.2)))))))))))=_:=arb (s:=s) (x:=x) (w:=w) t;rw[r,ob];simp only;rw[cw bv (by simp only[avp];omega),ob,cG bv];have h:=YP (N:=N) (w:=w) (e:=e) (a:=a) (b:=b) (c:=c) p m (i:=i+1) (s:=y.1) (acc:=acc++[y.2]) (z:=z') bv bv (by rw[auE,avp];omega) u;have j:acc++[y.2]++z'.2=acc++y.2::z'.2:=d5
   rw[j]at h;exact h
  ·rw[aun bv]
   rw[avj bv]at d;cases d;rw[au_]
def run_eq{N:Nat}(B:Fu+50<=N){s:SV}(g:StR s)(l:s.2.1.length<=100000){b:aX}(j:b.length<=1000){w:WV}{z:SV×Do RV}(p:abf N w (oO b 1001 0 []).1 s=some z)(C:z.2.length<=2000):
 lC (N+1) (s.1,s.2.1,s.2.2.1,s.2.2.2,b,w)=some ((oO b 1001 0 []).2.2,z.1.1,z.1.2.1,z.1.2.2.1,z.1.2.2.2,if(oO b 1001 0 []).2.2=0 then z.2 else z.2++[((oO b 1001 0 []).2.2,0,[])]):=by
 have A:=bR;obtain⟨v,m,k⟩:=JH (N:=N) bv s l;have d:=T5 b 1001 0 [] (auS _) bv (λx o=>by cases o);obtain⟨q,r,t,u,y⟩:=w;rw[Hb];have n:nO N (s.1,(s.2.1,(s.2.2.1,s.2.2.2)))=some v:=m;rw[n,ob,k.2 g,YO bv j,ob];simp only[auH,auv];have f:=YP (N:=N) (w:=(q,r,t,u,y)) (e:=(oO b 1001 0 []).2.2) (a:=0) (b:=0) (c:=0) (L:=(oO b 1001 0 []).1) (by have:=d.2.2.2.1;simp only[avg]at this;omega) N (i:=0) (s:=s) (acc:=[]) (z:=z) (by have:=d.2.2.2.1;simp only[avg]at this;omega) bv (by have:=d.2.2.2.1;simp only[avg]at this⊢;omega) p;rw[show((0:Nat):Int)=(0:Int)from rfl,avd]at f;rw[f,ob];simp only;rw[Hq];by_cases h:(oO b 1001 0 []).2.2=0
 ·rw[auo h,auo h]
 ·rw[aun h,aun h,cw bv (by simp only[avp];omega),ob]
def aht(c:1<=a)(d:a<=12):StR ((a:Int),[],0,0):=by
 have this:∀a,a<=12->(C2 a (fY [] 0)).length+(fY [] 0).length=a:=d6
 have e:GR a []:=⟨c,bv,d5,(λt f=>by cases f),List.Pairwise.nil,this a d⟩;have b:(0:Int)<=0/\(0:Int)<=1099511627776:=d6
 exact⟨⟨Int.natCast_nonneg a,e⟩,b,b⟩
def Hf(Z:Fu+60<=a)(n:Int)(b:aX)(m:0<=n)(X:n<=255):hU a (n,b)=some true:=by
 obtain⟨a,rfl⟩:∃M,a=M+2:=⟨a - 2,bv⟩;have Y:=bR;rw[uc,cd];by_cases t:(250:Int)<((b.length:Nat):Int)
 ·rw[auo t]
 have I:F_ (a+1) ()=some (8,3,2,3,[(0,1),(1,0),(2,0)]):=aas a;obtain⟨k,J,K,G⟩:∃k:Nat,1<=k/\k<=12/\lB (a+1) n=some ((k:Int),0,0):=by
  refine⟨1+(n.tmod 12).toNat,bv,?_,?_⟩
  ·have:=ax5 n (show(0:Int)<12 by decide)
   have:=ayU 12 m;omega
  ·have F:wrap .i64 n=n:=gZ bv bv
   rw[Ha,F];have:=ax5 n (show(0:Int)<12 by decide);have:=ayU 12 m;rw[gZ bv bv];congr 2;omega
 have s:=aht J K;have o:=T5 b 1001 0 [] (auS _) bv (λx V=>by cases V);simp only[avg,auZ]at o;obtain⟨p0,p1,p2,p3,p4,W⟩:=o;obtain⟨z,A,D,f,E⟩:=Rh (N:=a) bv (w:=(8,3,2,3,[(0,1),(1,0),(2,0)])) ahs (oO b 1001 0 []).1 ((k:Int),[],0,0) d5 p4;have P:=run_eq (N:=a) bv s d5 (b:=b) bv A bv;have Q:=YO (N:=a+1) bv (r:=b) bv;obtain⟨q,c,u,H⟩:∃(q:Nat) (c:Int),oO (b.take (oO b 1001 0 []).2.1) 1001 0 []=((oO b 1001 0 []).1,q,c)/\((oO b 1001 0 []).2.2=0->c=0):=by
  by_cases v:(oO b 1001 0 []).2.1<b.length
  ·obtain⟨c,j⟩:=W v
   exact⟨_,c,j,λh=>by have:=p2 h;omega⟩
  ·rw[au0 bv]
   exact⟨_,_,rfl,λh=>h⟩
 have y:=run_eq (N:=a) bv s d5 (b:=b.take (oO b 1001 0 []).2.1) (by rw[au8];omega) (w:=(8,3,2,3,[(0,1),(1,0),(2,0)])) (z:=z) (by rw[u];exact A) bv;rw[u]at y;generalize oO b 1001 0 []=S at*;obtain⟨L,p,e⟩:=S;simp only at*;obtain⟨⟨g,C,l,B⟩,d⟩:=z;simp only at*;have R:nX (a+1) (!(decide (e=0)))=some (if e=0 then 0 else 1):=by
  rw[Hc];by_cases h:e=0<;>simp[h]
 rw[aun t,G,ob,I,ob];simp only;rw[P,ob,Q,ob];simp only;rw[BE trivial,dT bv,dT bv,R,ob];have N:((length (if e=0 then d else d++[(e,(0:Int),([]:aX))]):Nat):Int)=wrap .i64 (((length L:Nat):Int)+(if e=0 then 0 else 1)):=by
  by_cases h:e=0
  ·rw[auo h,auo h,gZ bv bv,f];omega
  ·rw[aun h,aun h,gZ bv bv,auE,avp,f];omega
 rw[BE N,ob];simp only;rw[Bc bv bv bv,ob,ob];simp only[auB,Int.toNat_zero,ave];rw[y,ob];simp only;rw[cd];by_cases h:e=0
 ·subst h
  have v:=p2 rfl;have j:=H rfl;subst j;rw[auo rfl,eC bv,Ri bv g C l B D,ob];simp only[↓reduceIte,auQ];rw[all_eq bv d bv E,ob];rfl
 ·rw[aun h]
  simp only[aun h];have O:ba (d++[(e,(0:Int),([]:aX))]) ((L.length:Nat):Int)=some (e,0,[]):=bd (by rw[<-f];simp);rw[O,ob,ob,Rj bv (e,0,[]) d5,ob,auQ,Ri bv g C l B D,ob,auQ,cd];have a0:L.length<=(if c=0 then d else d++[(c,(0:Int),([]:aX))]).length:=by
   by_cases i:c=0
   ·rw[auo i,f];exact auq _
   ·rw[aun i,auE,f];omega
  have U:(if c=0 then d else d++[(c,(0:Int),([]:aX))]).take L.length=d:=by
   by_cases i:c=0
   ·rw[auo i,au0 bv]
   ·rw[aun i,<-f,awr]
  rw[auo bv,Bc bv bv (by rw[auE,f];omega),ob,Bc bv bv bv,ob];simp only[auB,Int.toNat_zero,ave];rw[U,<-f,awr,all_eq bv d bv E,ob]
