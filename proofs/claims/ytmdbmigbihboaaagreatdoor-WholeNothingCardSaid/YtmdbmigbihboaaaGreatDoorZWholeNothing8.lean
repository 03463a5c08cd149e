/- part 8 -/
import Derived.Test.YtmdbmigbihboaaaGreatDoorZWholeNothing7
set_option linter.all false
noncomputable section
open Go Go.RowKit
set_option maxRecDepth 100000
namespace Go.Proofs.YtmdbmigbihboaaaGreatDoor
variable{F:Act}{I:BinOp}{v:CV}{J:IntKind}{b e:Nat}{m:Nm}{j:Value}{E:iM}
section
variable{P:Program}{Dk:Deferred->Prop}{w0:World}{T:TypeId->bs}
def FY(k:IntKind):Nat:=IntKind.rec (motive:=λ_=>Nat) 128 32768 2147483648 9223372036854775808 256 65536 4294967296 18446744073709551616 k
def sgK(k:IntKind):Bool:=IntKind.rec (motive:=λ_=>Bool) true true true true false false false false k
def wrI{R:Type}(k:IntKind)(z:Int)(f:Int->R):R:=Int.rec (motive:=λ_=>R)
 (λn=>bB (Nat.blt n (FY k)) (kN n λn=>f (Int.ofNat n)) (kI (k.wrap (Int.ofNat n)) f))
 (λm=>bB (sgK k) (bB (Nat.blt m (FY k)) (kN m λm=>f (Int.negSucc m)) (kI (k.wrap (Int.negSucc m)) f)) (kI (k.wrap (Int.negSucc m)) f)) z
def aeg{n:Nat}(h:n<FY J):J.wrap (Int.ofNat n)=Int.ofNat n:=by
 have e:(Int.ofNat n)=(n:Int):=rfl;rw[e];cases J<;>simp only[FY]at h<;>simp only[IntKind.wrap,IntKind.bits,IntKind.signed]<;>simp<;>omega
def aeh{n:Nat}(a:sgK J=true)(h:n<FY J):J.wrap (Int.negSucc n)=Int.negSucc n:=by
 have e:(Int.negSucc n)= -(n:Int) - 1:=by omega
 rw[e];cases J<;>simp only[FY]at h<;>simp only[sgK,aru]at a<;>simp only[IntKind.wrap,IntKind.bits,IntKind.signed]<;>simp<;>omega
def vM{R:Type}(k:IntKind)(z:Int)(f:Int->R):wrI k z f=f (k.wrap z):=by
 cases z with
 |ofNat n=>
  show bB (Nat.blt n (FY k)) (kN n λn=>f (Int.ofNat n)) (kI (k.wrap (Int.ofNat n)) f)=_;rw[fC,yS];cases h:Nat.blt n (FY k)with
  |false=>rfl
  |true=>rw[aeg (apY h)];rfl
 |negSucc m=>
  show bB (sgK k) (bB (Nat.blt m (FY k)) (kN m λm=>f (Int.negSucc m)) (kI (k.wrap (Int.negSucc m)) f)) (kI (k.wrap (Int.negSucc m)) f)=_;rw[fC,yS];cases a:sgK k with
  |false=>rfl
  |true=>
   cases h:Nat.blt m (FY k)with
   |false=>rfl
   |true=>rw[aeh a (apY h)];rfl
def ltK(a b:Int):Bool:=Int.rec (motive:=λ_=>Bool) (λm=>Int.rec (motive:=λ_=>Bool) (λn=>Nat.blt m n) (λ_=>false) b) (λm=>Int.rec (motive:=λ_=>Bool) (λ_=>true) (λn=>Nat.blt n m) b) a
def eqK(a b:Int):Bool:=Int.rec (motive:=λ_=>Bool) (λm=>Int.rec (motive:=λ_=>Bool) (λn=>Nat.beq m n) (λ_=>false) b) (λm=>Int.rec (motive:=λ_=>Bool) (λ_=>false) (λn=>Nat.beq n m) b) a
def Wb(m n:Nat):Nat.blt m n=decide (m<n):=by
 by_cases h:m<n
 ·rw[aqk h];exact aub h
 ·rw[aqn h]
  cases a:Nat.blt m n with
  |false=>rfl
  |true=>exact absurd (apY a) h
def OU(m n:Nat):Nat.beq m n=decide (m=n):=by
 by_cases h:m=n
 ·rw[aqk h,h,aqp]
 ·rw[aqn h]
  cases a:Nat.beq m n with
  |false=>rfl
  |true=>exact absurd (ei a) h
def sA(a b:Int):ltK a b=decide (a<b):=by
 cases a with
 |ofNat m=>cases b with
  |ofNat n=>
   show Nat.blt m n=decide ((m:Int)<(n:Int));rw[Wb];exact arq.2 (by constructor<;>intro h<;>omega)
  |negSucc n=>
   show false=decide ((m:Int)<Int.negSucc n);exact(aqn (by omega)).symm
 |negSucc m=>cases b with
  |ofNat n=>
   show true=decide (Int.negSucc m<(n:Int));exact(aqk (by omega)).symm
  |negSucc n=>
   show Nat.blt n m=_;rw[Wb];exact arq.2 (by constructor<;>intro h<;>omega)
def sB(a b:Int):eqK a b=decide (a=b):=by
 cases a with
 |ofNat m=>cases b with
  |ofNat n=>
   show Nat.beq m n=decide ((m:Int)=(n:Int));rw[OU];exact arq.2 (by constructor<;>intro h<;>omega)
  |negSucc n=>
   show false=decide ((m:Int)=Int.negSucc n);exact(aqn (by omega)).symm
 |negSucc m=>cases b with
  |ofNat n=>
   show false=decide (Int.negSucc m=(n:Int));exact(aqn (by omega)).symm
  |negSucc n=>
   show Nat.beq n m=_;rw[OU];exact arq.2 (by constructor<;>intro h<;>omega)
def bK{R:Type}(b:Bool)(k:CV->R):R:=Bool.rec (motive:=λ_=>R) (k (.v (.bool false))) (k (.v (.bool true))) b
def sC{R:Type}(b:Bool)(k:CV->R):bK b k=k (.v (.bool b)):=by cases b<;>rfl
def sD{R:Type}(c:BinOp)(k:IntKind)(a b:Int)(f:CV->Option R):Option R:=match c with
 |.add=>wrI k (Int.add a b) λz=>f (.v (.int k z))
 |.sub=>wrI k (Int.sub a b) λz=>f (.v (.int k z))
 |.mul=>wrI k (Int.mul a b) λz=>f (.v (.int k z))
 |.quo=>bB (eqK b 0) none (wrI k (a.tdiv b) λz=>f (.v (.int k z)))
 |.rem=>bB (eqK b 0) none (kI (a.tmod b) λz=>f (.v (.int k z)))
 |.lss=>bK (ltK a b) f
 |.gtr=>bK (ltK b a) f
 |.leq=>bK (!ltK b a) f
 |.geq=>bK (!ltK a b) f
 |.eql=>bK (eqK a b) f
 |.neq=>bK (!eqK a b) f
 |.and=>kI (bits .and k a b) λz=>f (.v (.int k z))
 |.or=>kI (bits .or k a b) λz=>f (.v (.int k z))
 |.xor=>kI (bits .xor k a b) λz=>f (.v (.int k z))
 |.andNot=>kI (bits .andNot k a b) λz=>f (.v (.int k z))
 |_=>none
def shK{R:Type}(b:BinOp)(k:IntKind)(a:Int)(m:Nat)(f:CV->Option R):Option R:=match b with
 |.shl=>wrI k (a*2^(min m k.bits)) λz=>f (.v (.int k z))
 |.shr=>kI (a.fdiv (2^(min m k.bits))) λz=>f (.v (.int k z))
 |_=>none
def aoM:BinOp->Bool
 |.shl=>true
 |.shr=>true
 |_=>false
def asW:(s:Sc)->List CV->Option (s.cZ×List CV)
 |.pr x y,b=>match asW x b with
  |some (a,e)=>match asW y e with
   |some (c,f)=>some ((a,c),f)
   |none=>none
  |none=>none
 |.u,b=>some ((),b)
 |.i k,.v (.int g z)::b=>if g=k then some (z,b)else none
 |.b,.v (.bool z)::b=>some (z,b)
 |_,_=>none
def JV:∀(s:Sc) {b cs':List CV} {x:s.cZ},asW s b=some (x,cs')->s.key=true->b=(c_ s x).map .v++cs'
 |.pr a c,b,cs',x,h,f=>by
  simp only[Sc.key,apS]at f;simp only[asW]at h;split at h
  ·rename_i p j g
   split at h
   ·rename_i q l i
    cases h;rw[JV a g f.1,JV c i f.2];simp[c_]
   ·cases h
  ·cases h
 |.u,b,cs',x,h,f=>by
  simp only[asW]at h;cases h;rfl
 |.i k,b,cs',x,h,f=>by
  cases b with
  |nil=>cases h
  |cons c b=>
   cases c with
   |v u=>cases u with
    |int m z=>
     simp only[asW]at h;split at h
     ·rename_i e
      cases h;subst e;rfl
     ·cases h
    |_=>cases h
   |_=>cases h
 |.b,b,cs',x,h,f=>by
  cases b with
  |nil=>cases h
  |cons c b=>
   cases c with
   |v u=>cases u with
    |bool z=>
     simp only[asW]at h;cases h;rfl
    |_=>cases h
   |_=>cases h
 |.sl r,b,cs',x,h,f=>by simp[Sc.key]at f
def amS{R:Type}(T:TypeId->bs)(c:BinOp)(t1:TypeId)(a b:List CV)(f:CV->Option R):Option R:=oB (T t1).eq λs=>oB (asW s a) λp=>oB (asW s b) λq=>match p.2,q.2 with
 |[],[]=>(match c with
  |.eql=>bK (iF s p.1 q.1) f
  |.neq=>bK (!iF s p.1 q.1) f
  |_=>none)
 |_,_=>none
def isC:Operand->Bool
 |.const _=>true
 |_=>false
def aej{R:Type}(T:TypeId->bs)(c:BinOp)(t1:TypeId)(j:Bool)(a b:CV)(f:CV->Option R):Option R:=match a with
 |.v (.int k x)=>(match b with
  |.v (.int i y)=>bB (aoM c) (tX b λm=>shK c k x m f) (bB (decide (k=i)) (sD c k x y f) none)
  |_=>none)
 |.v (.bool x)=>(match b with
  |.v (.bool y)=>bB (T t1).bo (match c with
   |.eql=>bK (x==y) f
   |.neq=>bK (!(x==y)) f
   |_=>none) none
  |_=>none)
 |.v (.slice none 0 0)=>(match b with
  |.v (.slice none 0 0)=>bB (T t1).jW (match c with
   |.eql=>f (.v (.bool true))
   |.neq=>f (.v (.bool false))
   |_=>none) none
  |_=>none)
 |.sl _ _ _ _=>(match b with
  |.v (.slice none 0 0)=>bB (T t1).jW (match c with
   |.eql=>f (.v (.bool false))
   |.neq=>f (.v (.bool true))
   |_=>none) none
  |_=>none)
 |.v .nilIface=>(match b with
  |.v .nilIface=>bB j (bB (T t1).nf (match c with
   |.eql=>f (.v (.bool true))
   |.neq=>f (.v (.bool false))
   |_=>none) none) none
  |_=>none)
 |.ag e=>agK b λg=>amS T c t1 e g f
 |_=>none
section
variable{t:Tr CV}{h:Tr cX}{n:Nat}{d:iN}{ty t1 t2:TypeId}{pos:String}{af:dI}{gd:fE}{x y z:Operand}{R:Type}{r:R}
def FK.bin{u v z:Value}(f:jT t x (.v u))(g:jT t y (.v v))(c:∀w,(eqGuard I t1 x y u v).run P w=.ok () w)(e:∀w,(binOp I t1 u v).run P w=.ok z w):QK P ⟨d,.binOp I t1 x y t2,ty,pos,af,gd⟩ t (.v z):=λρ a w b=>by
 refine⟨z,?_,.v⟩;simp only[execOp,(f ρ a b).bN,(g ρ a b).bN,ap6,c,e,ap7,ap8]
def FK.mE{k c:IntKind}{a b:Int}(f:jT t x (.v (.int k a)))(g:jT t y (.v (.int c b)))(e:∀w,(binOp I t1 (.int k a) (.int c b)).run P w=.ok j w):QK P ⟨d,.binOp I t1 x y t2,ty,pos,af,gd⟩ t (.v j):=
 FK.bin f g (eJ _ _ _ _ _ _ _ _) e
def amT(a b:Int):(!decide (b<a))=decide (a<=b):=by
 by_cases h:b<a
 ·rw[aqk h,aqn (by omega)];rfl
 ·rw[aqn h,aqk (by omega)];rfl
def agP{a b:Int}{f:CV->Option R}(g:jT t x (.v (.int J a)))(i:jT t y (.v (.int J b)))(e:sD I J a b f=some r):∃c,QK P ⟨d,.binOp I t1 x y t2,ty,pos,af,gd⟩ t c/\f c=some r:=by
 cases I with
 |add=>simp only[sD,vM]at e;exact⟨_,FK.mE g i λw=>by simp only[binOp_add,Op.intArith,ap8];rfl,e⟩
 |sub=>simp only[sD,vM]at e;exact⟨_,FK.mE g i λw=>by simp only[binOp_sub,Op.intArith,ap8];rfl,e⟩
 |mul=>simp only[sD,vM]at e;exact⟨_,FK.mE g i λw=>by simp only[binOp_mul,Op.intArith,ap8];rfl,e⟩
 |quo=>
  simp only[sD,vM]at e;rcases dC e with⟨_,j⟩|⟨j,e⟩
  ·cases j
  have j:¬b=0:=by rw[sB]at j;simpa using j
  exact⟨_,FK.mE g i λw=>by simp[binOp_quo,Op.intDiv,j],e⟩
 |rem=>
  simp only[sD,yS]at e;rcases dC e with⟨_,j⟩|⟨j,e⟩
  ·cases j
  have j:¬b=0:=by rw[sB]at j;simpa using j
  exact⟨_,FK.mE g i λw=>by simp[binOp_rem,Op.intDiv,j],e⟩
 |lss=>simp only[sD,sC,sA]at e;exact⟨_,FK.mE g i λw=>by simp[binOp_lss],e⟩
 |gtr=>simp only[sD,sC,sA]at e;exact⟨_,FK.mE g i λw=>by simp[binOp_gtr],e⟩
 |leq=>simp only[sD,sC,sA,amT]at e;exact⟨_,FK.mE g i λw=>by simp[binOp_leq],e⟩
 |geq=>simp only[sD,sC,sA,amT]at e;exact⟨_,FK.mE g i λw=>by simp[binOp_geq],e⟩
 |eql=>simp only[sD,sC,sB]at e;exact⟨_,FK.mE g i λw=>by simp only[binOp_eql,ap8,RO],e⟩
 |neq=>simp only[sD,sC,sB]at e;exact⟨_,FK.mE g i λw=>by simp only[binOp_neq,ap8,RP,decide_not],e⟩
 |and=>simp only[sD,yS]at e;exact⟨_,FK.mE g i λw=>by simp[binOp_and,intBits_and],e⟩
 |or=>simp only[sD,yS]at e;exact⟨_,FK.mE g i λw=>by simp[binOp_or,intBits_or],e⟩
 |xor=>simp only[sD,yS]at e;exact⟨_,FK.mE g i λw=>by simp[binOp_xor,intBits_xor],e⟩
 |andNot=>simp only[sD,yS]at e;exact⟨_,FK.mE g i λw=>by simp[binOp_andNot,intBits_andNot],e⟩
 |_=>cases e
def KR.Rj{us a:bD}(b:LR (KR m) (us.map .v) a):a=us:=by
 refine List.ext_getElem (by rw[b.1];simp) λj c e=>?_;exact(b.2 j (.v us[j]) a[j] (by simp[e]) (ap0 c)).bN
def agQ(B:gw P T){j k:List CV}{f:CV->Option R}(L:jT t x (.ag j))(M:jT t y (.ag k))(v:amS T I t1 j k f=some r):∃c,QK P ⟨d,.binOp I t1 x y t2,ty,pos,af,gd⟩ t c/\f c=some r:=by
 obtain⟨s,H,o⟩:=bA v;obtain⟨⟨p,O⟩,F,u⟩:=bA o;obtain⟨⟨q,Q⟩,G,e⟩:=bA u;clear o u v;have g:=B.eq _ _ H;have l:=JV s F g.1;have m:=JV s G g.1;simp only at e;split at e
 ·simp only[aqy]at l m
  subst l m;have run:∀i b,(∀w,(binOp i t1 (.agg (c_ s p).toArray) (.agg (c_ s q).toArray)).run P w=.ok b w)->QK P ⟨d,.binOp i t1 x y t2,ty,pos,af,gd⟩ t (.v b):=λi b C=>λρ a w A=>by
   obtain⟨S,J,D⟩:=(L ρ a A).e9;obtain⟨U,K,E⟩:=(M ρ a A).e9;obtain rfl:=KR.Rj D;obtain rfl:=KR.Rj E;refine⟨b,?_,.v⟩;have N:=(g.2 p q w).2;simp only[execOp,J,K,ap6,N,ap7,C,ap8]
  cases I with
  |eql=>simp only[sC]at e;exact⟨_,run _ _ λw=>by have:=(g.2 p q w).1;simp only[binOp,ap6,this,ap7,ap8],e⟩
  |neq=>simp only[sC]at e;exact⟨_,run _ _ λw=>by have:=(g.2 p q w).1;simp only[binOp,ap6,this,ap7,ap8],e⟩
  |_=>cases e
 ·cases e
def tO{t:TypeId}(h:jW P t=true):∃E,P.underlying t=some (.slice E):=by
 unfold jW at h;split at h
 ·exact⟨_,by assumption⟩
 ·cases h
def run_neq_slice_nil(w:World)(t E:TypeId)(c:Option Addr)(n f g e:Nat)(j:P.underlying t=some (.slice E)):(binOp .neq t (.slice c n f) (.slice none g e)).run P w=.ok (.bool (!c.isNone)) w:=by
 have a:=at5 w t E c n f g e j;simp only[binOp,ap6]at a⊢;cases i:(Op.equal t (.slice c n f) (.slice none g e)).run P w with
 |ok b k=>rw[i]at a;simp only[ap7,ap8,Result.ok.injEq,Value.bool.injEq]at a⊢;rw[a.1];exact⟨rfl,a.2⟩
 |halt h k=>rw[i]at a;cases a
def HV{c:CV}{ad:Bool}{f:CV->Option R}(s:jW P t1=true)(p:∀ρ a,mJ ρ t a->∃A m b,a.eval x=.slice A m b/\A.isNone=ad)(q:jT t y (.v (.slice none 0 0)))(l:(match I with
 |.eql=>f (.v (.bool ad))
 |.neq=>f (.v (.bool (!ad)))
 |_=>none)=some r):∃c,QK P ⟨d,.binOp I t1 x y t2,ty,pos,af,gd⟩ t c/\f c=some r:=by
 obtain⟨E,o⟩:=tO s;cases I with
 |eql=>
  refine⟨_,λρ a w e=>?_,l⟩;obtain⟨A,m,b,g,i⟩:=p ρ a e;have j:=(q ρ a e).bN;have k:(eqGuard .eql t1 x y (.slice A m b) (.slice none 0 0)).run P w=.ok () w:=by simp[eqGuard]
  exact⟨.bool ad,by simp only[execOp,g,j,k,ap6,at5 w t1 E A m b 0 0 o,ap7,ap8,i],.v⟩
 |neq=>
  refine⟨_,λρ a w e=>?_,l⟩;obtain⟨A,m,b,g,i⟩:=p ρ a e;have j:=(q ρ a e).bN;have k:(eqGuard .neq t1 x y (.slice A m b) (.slice none 0 0)).run P w=.ok () w:=by simp[eqGuard]
  exact⟨.bool (!ad),by simp only[execOp,g,j,k,ap6,run_neq_slice_nil w t1 E A m b 0 0 o,ap7,ap8,i],.v⟩
 |_=>cases l
def FK.aej(o:gw P T){l:BinOp}{a b:CV}{f:CV->Option R}(i:jT t x a)(j:jT t y b)(g:aej T l t1 (isC y) a b f=some r):∃c,QK P ⟨d,.binOp l t1 x y t2,ty,pos,af,gd⟩ t c/\f c=some r:=by
 unfold Go.Proofs.YtmdbmigbihboaaaGreatDoor.aej at g;split at g
 ·rename_i k m
  split at g
  ·rename_i L J
   rcases dC g with⟨s,g⟩|⟨s,g⟩
   ·obtain⟨M,q,e,p⟩:=lN g
    cases e;have F:((q:Int)<0)=False:=eq_false (by omega);cases l with
    |shl=>simp only[shK,vM]at p;exact⟨_,FK.mE i j λw=>by simp only[binOp_shl,Op.shift,F,aqN,ap2,atD,ap8],p⟩
    |shr=>simp only[shK,yS]at p;exact⟨_,FK.mE i j λw=>by simp only[binOp_shr,Op.shift,F,aqN,ap2,atD,ap8],p⟩
    |_=>cases p
   ·obtain⟨e,I⟩:=bg g
    have e:=aqK e;subst e;exact agP i j I
  ·cases g
 ·rename_i m
  split at g
  ·rename_i J
   obtain⟨A,g⟩:=bg g;have A:=o.bo _ A;cases l with
   |eql=>simp only[sC]at g;exact⟨_,FK.bin i j (λw=>by simp[eqGuard]) (λw=>run_eql_bool w t1 _ _ A),g⟩
   |neq=>simp only[sC]at g;exact⟨_,FK.bin i j (λw=>by simp[eqGuard]) (λw=>run_neq_bool w t1 _ _ A),g⟩
   |_=>cases g
  ·cases g
 ·split at g
  ·obtain⟨s,g⟩:=bg g
   exact HV (c:=.v undef) (ad:=true) (o.jW _ s) (λρ a C=>⟨none,0,0,(i ρ a C).bN,rfl⟩) j g
  ·cases g
 ·split at g
  ·obtain⟨s,g⟩:=bg g
   refine HV (c:=.v undef) (ad:=false) (o.jW _ s) (λρ a C=>?_) j g;have G:=i ρ a C;generalize a.eval x=u at G;cases G with
   |sl=>exact⟨_,_,_,rfl,rfl⟩
  ·cases g
 ·split at g
  ·obtain⟨H,g⟩:=bg g
   obtain⟨B,g⟩:=bg g;obtain⟨N,B⟩:=o.nf _ B;have D:∀l w,(eqGuard l t1 x y .nilIface .nilIface).run P w=.ok () w:=λl w=>by
    cases y with
    |const v=>cases l<;>simp[eqGuard]
    |_=>cases H
   have E:∀w,(Op.equal t1 .nilIface .nilIface).run P w=.ok true w:=λw=>by
    show(Op.equalIn (9999+1) t1 .nilIface .nilIface).run P w=_;rw[Op.equalIn];simp[aqi B]
   cases l with
   |eql=>exact⟨_,FK.bin i j (D _) (λw=>by simp[binOp,E]),g⟩
   |neq=>exact⟨_,FK.bin i j (D _) (λw=>by simp[binOp,E]),g⟩
   |_=>cases g
  ·cases g
 ·obtain⟨K,rfl,g⟩:=aef g
  exact agQ o i j g
 ·cases g
def unK{R:Type}(c:UnOp)(a:CV)(f:CV->Option R):Option R:=match c with
 |.not=>asB a λb=>bK (!b) f
 |.neg=>asI a λk m=>wrI k (Int.sub 0 m) λz=>f (.v (.int k z))
 |_=>none
def FK.un{i:UnOp}{f:CV->Option R}(j:jT t x v)(e:unK i v f=some r):∃c,QK P ⟨d,.unOp i t1 x,ty,pos,af,gd⟩ t c/\f c=some r:=by
 cases i with
 |not=>
  obtain⟨b,rfl,a⟩:=Rh e;rw[sC]at a;exact⟨_,λρ v w g=>⟨_,by simp only[execOp,(j ρ v g).bN,unary_not,ap6,ap8,ap7],.v⟩,a⟩
 |neg=>
  obtain⟨k,m,rfl,a⟩:=JU e;rw[vM]at a;refine⟨_,λρ v w g=>⟨_,?_,.v⟩,a⟩;simp only[execOp,(j ρ v g).bN,unary_neg,Op.intArith,ap6,ap8,ap7];rfl
 |_=>cases e
def FK.conv(g:gw P T){f:CV->Option R}(u:jT t x v)(p:(oB (T t1).ik λ_=>oB (T t2).ik λb=>asI v λk m=>wrI b m λz=>f (.v (.int b z)))=some r):∃c,QK P ⟨d,.convert t1 t2 x,ty,pos,af,gd⟩ t c/\f c=some r:=by
 obtain⟨A,j,l⟩:=bA p;obtain⟨b,a,o⟩:=bA l;obtain⟨k,m,rfl,e⟩:=JU o;rw[vM]at e;have q:=g.ik _ _ j;have a:=g.ik _ _ a;refine⟨_,λρ v w s=>⟨_,?_,.v⟩,e⟩;have i:P.intKind t2=b:=by simp[Program.intKind,a]
 have:=run_convert_int w t1 t2 k m (by rw[q];rfl) (by rw[i];exact a);rw[i]at this;simp only[execOp,(u ρ v s).bN,ap6,this,ap7,ap8]
def OV{R:Type}(a:CV)(k:Nat->Option R):Option R:=match a with
 |.sl _ _ m _=>k m
 |.v (.slice none 0 0)=>k 0
 |_=>none
def OW{k:Nat->Option R}(b:OV v k=some r):∃m,(∀ρ a,KR ρ v a->∃A e,a=.slice A m e)/\k m=some r:=by
 unfold OV at b;split at b
 ·refine⟨_,λρ a c=>?_,b⟩
  cases c with
  |sl=>exact⟨_,_,rfl⟩
 ·exact⟨_,λρ a c=>⟨_,_,c.bN⟩,b⟩
 ·cases b
def mpK{R:Type}(a:CV)(k:Nat->Option R):Option R:=match a with
 |.mp j=>k j
 |_=>none
def Rk{k:Nat->Option R}(a:mpK v k=some r):∃j,v=.mp j/\k j=some r:=by
 unfold mpK at a;split at a
 ·exact⟨_,rfl,a⟩
 ·cases a
def blM(h:Tr cX)(k:Nat){R:Type}(f:TypeId->List (Value×CV)->Bool->Option R):Option R:=oB (h.get k) λx=>match x with
 |.ma t a wr=>f t a wr
 |_=>none
def Rl{f:TypeId->List (Value×CV)->Bool->Option R}(a:blM h b f=some r):∃t c wr,h.get b=some (.ma t c wr)/\f t c wr=some r:=by
 obtain⟨x,e,a⟩:=bA a;split at a
 ·exact⟨_,_,_,e,a⟩
 ·cases a
def amV{R:Type}(T:TypeId->bs)(h:Tr cX)(c:List TypeId)(a:CV)(f:CV->Option R):Option R:=oB (c[0]?) λt1=>bB (T t1).jW (OV a λm=>f (.v (.int .i64 (Int.ofNat m))))
 (mpK a λj=>blM h j λt2 b _=>bB (Nat.beq t1 t2) (kN b.length λm=>f (.v (.int .i64 (Int.ofNat m)))) none)
def ahQ{t1:TypeId}(h:E.toList[0]? =some t1):E[0]? =some t1:=by rw[<-ara];exact h
def YU{A:Option Addr}(c:E[0]? =some t1)(f:jW P t1=true)(i:F.eval x=.slice A b e)(w:World):(execOp F.eval ⟨d,.call ⟨.builtin .len, #[x],E⟩,ty,pos,af,gd⟩).run P w=.ok (.value (.int .i64 b)) w:=by
 obtain⟨a,g⟩:=tO f;simp[execOp,resolve,invoke,builtin,Builtin.len_,c,aqi g,i,goInt]
def FK.len(v:gw P T){s:iM}{c:CV}{f:CV->Option R}(q:jT t x c)(b:amV T h s.toList c f=some r):∃c,PK P w0 ⟨d,.call ⟨.builtin .len, #[x],s⟩,ty,pos,af,gd⟩ t h c/\f c=some r:=by
 obtain⟨t1,g,b⟩:=bA b;have g:=ahQ g;rcases dC b with⟨k,b⟩|⟨_,b⟩
 ·obtain⟨m,F,b⟩:=OW b
  refine⟨_,λρ a w N l U=>?_,b⟩;obtain⟨A,L,e⟩:=F ρ _ (q ρ a l);exact⟨_,YU g (v.jW _ k) e w,.v⟩
 ·obtain⟨j,rfl,D⟩:=Rk b
  obtain⟨t2,Q,wr,C,E⟩:=Rl D;obtain⟨e,o⟩:=bg E;obtain rfl:=ei e;rw[fC]at o;refine⟨_,λρ a w N l k=>?_,o⟩;have p:=q ρ a l;generalize B:a.eval x=u at p;cases p with
  |mp G=>
   obtain⟨O,z,K,M,H,I,J⟩:=k.ob _ _ _ _ C G;obtain⟨V,S,i,p1,p2,p3,p4⟩:=hP H;refine⟨_,?_,.v⟩;simp[execOp,resolve,invoke,builtin,Builtin.len_,g,aqi p1,B,goInt,aqW I,J.len]
def amW{R:Type}(T:TypeId->bs)(b:List TypeId)(a:CV)(f:CV->Option R):Option R:=oB (b[0]?) λt1=>match a with
 |.sl _ _ _ (some m)=>bB (T t1).jW (f (.v (.int .i64 (Int.ofNat m)))) none
 |.v (.slice none 0 0)=>bB (T t1).jW (f (.v (.int .i64 (Int.ofNat 0)))) none
 |_=>none
def FK.cap(l:gw P T){f:CV->Option R}(o:jT t x v)(c:amW T E.toList v f=some r):∃v,QK P ⟨d,.call ⟨.builtin .cap, #[x],E⟩,ty,pos,af,gd⟩ t v/\f v=some r:=by
 obtain⟨t1,e,c⟩:=bA c;have e:=ahQ e;split at c
 ·obtain⟨j,c⟩:=bg c
  obtain⟨b,g⟩:=tO (l.jW _ j);refine⟨_,λρ a w k=>?_,c⟩;have m:=o ρ a k;generalize i:a.eval x=u at m;cases m with
  |sl h A s p q=>
   obtain rfl:=p _ rfl;exact⟨_,by simp[execOp,resolve,invoke,builtin,Builtin.cap_,e,aqi g,i,goInt],.v⟩
 ·obtain⟨j,c⟩:=bg c
  obtain⟨b,g⟩:=tO (l.jW _ j);refine⟨_,λρ a w k=>⟨_,?_,.v⟩,c⟩;have i:=(o ρ a k).bN;simp[execOp,resolve,invoke,builtin,Builtin.cap_,e,aqi g,i,goInt]
 ·cases c
def FK.aek{b:Builtin}{ts:iM}{a c:CV}{f:CV->Option R}(B:jT t x a)(C:jT t y c)(j:(asI a λk m=>asI c λ_ q=>match b with
 |.min=>bB (ltK q m) (f (.v (.int k q))) (f (.v (.int k m)))
 |.max=>bB (ltK m q) (f (.v (.int k q))) (f (.v (.int k m)))
 |_=>none)=some r):∃c,QK P ⟨d,.call ⟨.builtin b, #[x,y],ts⟩,ty,pos,af,gd⟩ t c/\f c=some r:=by
 obtain⟨k,m,rfl,e⟩:=JU j;obtain⟨s,q,rfl,l⟩:=JU e;have p:∀v,(∀(a:Act) w,a.eval x=.int k m->a.eval y=.int s q->(execOp a.eval ⟨d,.call ⟨.builtin b, #[x,y],ts⟩,ty,pos,af,gd⟩).run P w=.ok (.value v) w)->QK P ⟨d,.call ⟨.builtin b, #[x,y],ts⟩,ty,pos,af,gd⟩ t (.v v):=λv A=>
  λρ a w u=>⟨v,A a w (B ρ a u).bN (C ρ a u).bN,.v⟩
 have o:∀a:Act,a.eval x=.int k m->a.eval y=.int s q->(#[x,y]:fU).map a.eval= #[.int k m,.int s q]:=λa g i=>by simp only[asd,aqc,aqZ,g,i]
 cases b with
 |min=>
  simp only at l;rcases dC l with⟨e,j⟩|⟨e,j⟩
  ·rw[sA]at e
   have e:=aqK e;exact⟨_,p _ λa w g i=>by simp only[execOp,resolve,o a g i,ap6,ap8,ap7,invoke,builtin,Builtin.min_,asr,ass,Builtin.min2,apR e],j⟩
  ·rw[sA]at e
   have e:=arZ e;exact⟨_,p _ λa w g i=>by simp only[execOp,resolve,o a g i,ap6,ap8,ap7,invoke,builtin,Builtin.min_,asr,ass,Builtin.min2,apQ e],j⟩
 |max=>
  simp only at l;rcases dC l with⟨e,j⟩|⟨e,j⟩
  ·rw[sA]at e
   have e:q>m:=aqK e;exact⟨_,p _ λa w g i=>by simp only[execOp,resolve,o a g i,ap6,ap8,ap7,invoke,builtin,Builtin.max_,asr,ass,Builtin.max2,apR e],j⟩
  ·rw[sA]at e
   have e:¬q>m:=arZ e;exact⟨_,p _ λa w g i=>by simp only[execOp,resolve,o a g i,ap6,ap8,ap7,invoke,builtin,Builtin.max_,asr,ass,Builtin.max2,apQ e],j⟩
 |_=>cases l
end
end
variable{i:List CV}{u:Tr CV}{s:World}{G:eb}{A:bD}
section
open Go Go.RowKit MapKept
section
variable{P:Program}{Dk:Deferred->Prop}{w0:World}{T:TypeId->bs}
def JW{R:Type}(l:List CV):Nat->Tr CV->(Tr CV->Option R)->Option R:=List.rec (motive:=λ_=>Nat->Tr CV->(Tr CV->Option R)->Option R) (λ_ t k=>k t) (λc _ a i t k=>Tr.new (some c) 64 t i λb=>a (Nat.succ i) b k) l
def pY{R:Type}{r:R}:∀{l:List CV} {i:Nat} {t:Tr CV} {k:Tr CV->Option R},JW l i t k=some r->∃a,k a=some r/\∀j,a.get j=if i<=j/\j<i+l.length then l[j - i]? else t.get j
 |[],i,t,k,h=>⟨t,h,λj=>by rw[apQ (by simp)]⟩
 |c::l,i,t,k,h=>by
  change Tr.new (some c) 64 t i (λa=>JW l (i+1) a k)=some r at h;obtain⟨t1,m,f⟩:=Tr.nM h;obtain⟨t2,o,g⟩:=pY m;refine⟨t2,o,λj=>?_⟩;rw[g j,f j];simp only[aqf];by_cases e:j=i
  ·subst e
   rw[apQ (by omega),apR rfl,apR (by omega)];simp
  ·by_cases b:i+1<=j/\j<i+1+l.length
   ·rw[apR b,apR (by omega),show j - i=(j - (i+1))+1 by omega]
    simp
   ·rw[apQ b,apQ e,apQ (by omega)]
def trL(l:List CV):Tr CV:=Option.rec (motive:=λ_=>Tr CV) .lf (λt=>t) (JW l 0 .lf some)
def ael(h:(trL i).get b=some v):i[b]? =some v:=by
 unfold trL at h;cases a:JW i 0 .lf (some:Tr CV->Option (Tr CV))with
 |none=>rw[a]at h;cases h
 |some t=>
  rw[a]at h;obtain⟨f,c,e⟩:=pY a;cases c;change t.get b=some v at h;rw[e]at h;split at h
  ·simpa using h
  ·cases h
def mw(l:List CV):Bool:=List.rec (motive:=λ_=>Bool) true (λc _ a=>bB c.one a false) l
def gn:∀{l:List CV},mw l=true->∀c∈l,c.one=true
 |[],_,c,a=>by simp at a
 |x::l,h,c,a=>by
  change bB x.one (mw l) false=true at h;cases b:x.one with
  |false=>rw[b]at h;cases h
  |true=>
   rw[b]at h;rcases aqj.1 a with rfl|a
   ·exact b
   ·exact gn (l:=l) h c a
def yU{R:Type}(h:Tr cX)(n:Nat)(b:cX)(k:Tr cX->Nat->Option R):Option R:=Tr.new (some b) 64 h n λa=>kN (Nat.succ n) λc=>k a c
def tP{R:Type}{r:R}{h:Tr cX}{n:Nat}{b:cX}{k:Tr cX->Nat->Option R}(f:yU h n b k=some r):∃a,k a (n+1)=some r/\∀j,a.get j=if j=n then some b else h.get j:=by
 obtain⟨a,c,e⟩:=Tr.nM f;rw[fC]at c;exact⟨a,c,e⟩
def sE{R:Type}(c:CV)(k:List CV->Option R):Option R:=match c with
 |.ag a=>k a
 |c=>bB c.one (k [c]) none
def Ad{R:Type}{r:R}{k:List CV->Option R}(c:sE v k=some r):∃l,(∀ρ a,KR ρ v a->∃b,a.cells=b.toArray/\LR (KR ρ) l b)/\k l=some r:=by
 have m:∀v:CV,(∀g,v≠.ag g)->bB v.one (k [v]) none=some r->∃l,(∀ρ a,KR ρ v a->∃b,a.cells=b.toArray/\LR (KR ρ) l b)/\k l=some r:=λv _ c=>by
  obtain⟨i,c⟩:=bg c;exact⟨_,λρ a f=>⟨[a],nh (f.jv i),LR.cons f LR.nil⟩,c⟩
 cases v with
 |ag g=>exact⟨_,λρ a f=>by obtain⟨b,rfl,j⟩:=f.e9;exact⟨b,rfl,j⟩,c⟩
 |_=>exact m _ (λg e=>by cases e) c
def Nm.new(ρ:Nm)(n b m:Nat):Nm:=λk=>if k=n then some (b,m)else ρ k
def Nm.pZ{n b a:Nat}:m.new n b a n=some (b,a):=apR rfl
def HR.le{h:KH}{n:Nat}(e:HR P w0 m h n s)(b a:Nat):Ab m (m.new n b a):=λk p c=>by
 have:=e.lt c;show(if k=n then _ else _)=_;rw[apQ (by omega)];exact c
def HR.drew{ρ:Nm}{h:KH}{n:Nat}{w:World}(a:HR P w0 ρ h n w):HR P w0 ρ h n w.drew:=
 ⟨a.ext.drew,λk x b m e c=>(a.ob k x b m e c).mono (Ab.refl ρ) rfl,a.lo,a.inj,a.top,a.CE⟩
def KP.drew{ρ:Nm}{h:KH}{n:Nat}{w:World}(a:HR P w0 ρ h n w):KP P w0 ρ h n w ρ h n w.drew:=
 let k:=KP.refl a
 ⟨a.drew,apT _,λ_ _=>rfl,apT _,k.fr,k.ol,k.fz⟩
def HR.HW{h f:KH}{n:Nat}(g:HR P w0 m h n s)(ty:TypeId)(e:Nat)(ext:bU){N:Nat}{ct:Tr CV}(w:N<=G.size)(A:∀i,ext=some i->G.size=e*i)
 (o:∀j c,ct.get j=some c->j<N/\∃u,G[j]? =some u/\KR m c u/\c.one=true) (p:∀k,f k=if k=n then some (.ce ct N ext true)else h k):
 KP P w0 m h n s (m.new n s.heap.size e) f (n+1) (s.alloc (.cells G ty)):=by
 have v:=g.le s.heap.size e;exact g.new _ e p ((Ext.refl s).alloc _) (by simp) ⟨ty,G,WG s _,w,λj c q=>let⟨l,u,a,b,d⟩:=o j c q;⟨l,u,a,b.mono v,d⟩,A⟩
def LR.at{ρ:Nm}(k:LR (KR ρ) i A)(e:∀c∈i,c.one=true)(f:∀j c,u.get j=some c->i[j]? =some c):∀j c,u.get j=some c->j<i.length/\∃a,A.toArray[j]? =some a/\KR ρ c a/\c.one=true:=λj c b=>by
 have b:=f j c b;obtain⟨a,l,g⟩:=k.get b;exact⟨(apV.1 b).1,a,by simpa using l,g,e c (ap_ b)⟩
section
variable{t:Tr CV}{h:Tr cX}{n:Nat}{d:iN}{ty t1 t2:TypeId}{pos:String}{af:dI}{gd:fE}{x y z:Operand}{R:Type}{r:R}
def JX{b:cX}{k:Tr cX->Nat->Option R}(f:yU h n b k=some r):∃a,(∀j,a.get j=tW h.get n (some b) j)/\k a (yT n (some b))=some r:=by
 obtain⟨a,c,e⟩:=tP f;exact⟨a,e,c⟩
def aem{R:Type}(h:Tr cX)(n:Nat)(l:List CV)(k:Nat->Tr cX->Nat->Option R):Option R:=bB (mw l) (JW l 0 .lf λa=>kN l.length λm=>yU h n (.ce a m none true) λb c=>k n b c) none
def Wc{k:Nat->Tr cX->Nat->Option R}(a:aem h n i k=some r):∃b f,(∀ρ w l ty (H:KH) N,HR P w0 ρ H N w->LR (KR ρ) i l->KP P w0 ρ H N w (ρ.new N w.heap.size 0) (tW H N (some b)) (N+1) (w.alloc (.cells l.toArray ty)))/\(∀j,f.get j=tW h.get n (some b) j)/\k n f (n+1)=some r:=by
 obtain⟨o,a⟩:=bg a;obtain⟨u,a,p⟩:=pY a;rw[fC]at a;obtain⟨f,q,a⟩:=JX a;refine⟨_,f,λρ w l ty H N s m=>?_,q,a⟩;refine s.HW ty 0 none (N:=i.length) (by simp[m.1]) (λv e=>by cases e) (m.at (gn o) λj c g=>?_) (λ_=>rfl);rw[p]at g;split at g
 ·simpa using g
 ·cases g
def FK.box{a:CV}{k:CV->Tr cX->Nat->Option R}(C:jT t x a)(e:(sE a λl=>aem h n l λi c D=>k (.pt i 0) c D)=some r):∃g f c,ZK P Dk w0 ⟨d,.box t1 x,ty,pos,af,gd⟩ t g f/\(∀j,c.get j=tW h.get n f j)/\k (g n) c (yT n f)=some r:=by
 obtain⟨l,p,e⟩:=Ad e;obtain⟨b,c,s,o,e⟩:=Wc (P:=P) (w0:=w0) e;refine⟨λn=>.pt n 0,some b,c,λρ a w H N A u=>?_,o,e⟩;obtain⟨m,B,q⟩:=p ρ _ (C ρ a A);refine .value (v:=.pointer (some ⟨w.heap.size,0,none⟩)) (w':=w.alloc (.cells m.toArray t1)) ?_ ⟨_,s ρ w m t1 H N u q,.pt Nm.pZ⟩;simp[execOp,Instr.box,newVar,newRow,newObj,B,Sem.run]
def FK.alloc(p:gw P T){k:CV->Tr cX->Nat->Option R}(u:(oB (T t1).ze λz=>bB (mw (z.map .v)) (yU h n (.ce (trL (z.map .v)) z.length none true) λb F=>k (.pt n 0) b F) none)=some r):∃m l b,ZK P Dk w0 ⟨d,.alloc t1,ty,pos,af,gd⟩ t m l/\(∀j,b.get j=tW h.get n l j)/\k (m n) b (yT n l)=some r:=by
 obtain⟨z,f,A⟩:=bA u;obtain⟨o,B⟩:=bg A;obtain⟨b,q,C⟩:=JX B;have f:=p.ze _ _ f;unfold Aj at f;obtain⟨i,s,f⟩:=ar9.1 f;obtain⟨G,E,rfl⟩:=aqo.1 f;refine⟨λn=>.pt n 0,_,b,λρ a w H N I D=>?_,q,C⟩;refine .value (v:=.pointer (some ⟨w.heap.size,0,none⟩)) (w':=w.alloc (.cells G.cells.toList.toArray t1)) ?_ ⟨_,D.HW t1 0 none (by simp) (λJ e=>by cases e) (λj c g=>by have:=LR.at (ρ:=ρ) (LR.vs _) (gn o) (λj c g=>ael g) j c g;simpa using this) (λ_=>rfl),.pt Nm.pZ⟩;simp[execOp,Instr.alloc,zeroValue,typeInfo,s,E,newVar,newRow,newObj,Sem.run]
def kx{R:Type}(t:Tr CV)(b:vT):(List (Nat×List CV)->Option R)->Option R:=
 List.rec (motive:=λ_=>(List (Nat×List CV)->Option R)->Option R) (λk=>k []) (λp _ a k=>dW t p.2 λc=>sE c λl=>a λe=>k ((p.1,l)::e)) b
def Ae:∀{ps:vT} {k:List (Nat×List CV)->Option R},kx t ps k=some r->∃e,(∀ρ a,mJ ρ t a->e.length=(ps.map λp=>(p.1,a.eval p.2)).length/\∀(j:Nat) p q,e[j]? =some p->(ps.map λp=>(p.1,a.eval p.2))[j]? =some q->p.1=q.1/\LR (KR ρ) p.2 q.2.cells.toList)/\k e=some r
 |[],k,b=>⟨[],λρ a m=>⟨rfl,by simp⟩,b⟩
 |(i,x)::ps,k,b=>by
  obtain⟨c,u,b⟩:=cg b;obtain⟨l,v,b⟩:=Ad b;obtain⟨e,A,b⟩:=Ae (ps:=ps) b;refine⟨(i,l)::e,λρ a m=>?_,b⟩;obtain⟨o,s⟩:=A ρ a m;refine⟨by simp[o],λj p q f g=>?_⟩;cases j with
  |zero=>
   simp at f g;subst f g;obtain⟨C,B,w⟩:=v ρ _ (u ρ a m);exact⟨rfl,by simpa[B]using w⟩
  |succ j=>exact s j p q (by simpa using f) (by simpa using g)
def FK.build(G:gw P T){A:CI}{k:CV->Option R}(f:(oB (T t1).pl λp=>kx t A.toList λB=>oB (gv (λi=>p.2[i]?) (p.1.map .v) B) λj=>k (.ag j))=some r):∃c,QK P ⟨d,.build t1 A,ty,pos,af,gd⟩ t c/\k c=some r:=by
 obtain⟨⟨z,l⟩,v,f⟩:=bA f;obtain⟨B,J,f⟩:=Ae f;obtain⟨j,u,f⟩:=bA f;obtain⟨M,b,I⟩:=G.pl _ _ _ v;have u:=vh I u;refine⟨_,λρ a w K=>?_,f⟩;obtain⟨E,F⟩:=J ρ a K;have v:LR (KR ρ) (z.map .v) z.toArray.toList:=by simpa using LR.vs z
 obtain⟨g,C,D⟩:=jw (place:=M) B _ (z.map .v) j z.toArray v E F u;refine⟨.agg g.toList.toArray,?_,.ag _ D.1 D.2⟩;have H:P.built t1 (A.map λ(i,x)=>(i,a.eval x)).toList=some g:=by
  unfold plA at b;unfold Program.built;simp only[arv];split at b
  ·rename_i L n e m o
   split at b
   ·rename_i N Q q s
    simp only[apU,aqa]at b;obtain⟨rfl,rfl⟩:=b;simp only[m,o,q,s];simpa using C
   ·cases b
  ·rename_i L O m o
   split at b
   ·rename_i N S q s
    simp only[apU,aqa]at b;obtain⟨rfl,rfl⟩:=b;simp only[m,o,q,s];simpa using C
   ·cases b
  ·cases b
 have:=run_build w t1 _ g H;simp only[execOp,ap6,this,ap7,ap8,atS]
def FK.buildSlice(O:gw P T){len:Nat}{parts:CI}{k:CV->Tr cX->Nat->Option R}(C:(oB (T t1).el λe=>bB (Nat.ble (Nat.mul len e.2.1) 16777216) (kx t parts.toList λqs=>oB (gv (λi=>some (i*e.2.1,e.2.1)) (List.replicate (Nat.mul len e.2.1) (.v undef)) qs) λcs=>aem h n cs λi h' n'=>k (.sl i 0 len (some len)) h' n') none)=some r):
 ∃B s h',ZK P Dk w0 ⟨d,.buildSlice t1 len parts,ty,pos,af,gd⟩ t B s/\(∀j,h'.get j=tW h.get n s j)/\k (B n) h' (yT n s)=some r:=by
 obtain⟨⟨E,sz,a5,z⟩,S,X⟩:=bA C;obtain⟨m,Y⟩:=bg X;have m:len*sz<=16777216:=apY m;obtain⟨qs,l,Z⟩:=Ae Y;obtain⟨cs,U,D⟩:=bA Z;have a3:=(bg D).1;obtain⟨J,h',g,W,o⟩:=Wc (P:=P) (w0:=w0) D;obtain⟨i,zv,K,L,M,h5,rfl,_,_⟩:=cT (O.el _ _ S);refine⟨λn=>.sl n 0 len (some len),some J,h',λρ a w H N ht hs=>?_,W,o⟩;obtain⟨p1,p2⟩:=l ρ a ht;obtain⟨A,Q,a4⟩:=k6 (P:=P) w t1 E len (parts.map λ(i,x)=>(i,a.eval x)) i zv K L M m;have a2:LR (λc u=>c=CV.v undef\/KR ρ c u) (List.replicate (len*i.size) (.v undef)) A.toList:=by
  refine⟨by simp[Q],λj c u b I=>?_⟩;rw[asn]at b;split at b
  ·simp at b;exact .inl b.symm
  ·cases b
 have G:qs.length=(parts.map λ(i,x)=>(i,a.eval x)).toList.length/\∀(j:Nat) p q,qs[j]? =some p->(parts.map λ(i,x)=>(i,a.eval x)).toList[j]? =some q->p.1=q.1/\LR (λc u=>c=CV.v undef\/KR ρ c u) p.2 q.2.cells.toList:=by
  rw[arv];exact⟨p1,λj p q g l=>⟨(p2 j p q g l).1,(p2 j p q g l).2.imp λ_ _ o=>.inr o⟩⟩
 obtain⟨f,V,F⟩:=jw (place:=λj=>some (j*i.size,i.size)) qs _ _ cs A a2 G.1 G.2 U;have a1:LR (KR ρ) cs f.toList:=⟨F.1,λj c u b I=>by
  rcases F.2 j c u b I with rfl|C
  ·have:=gn a3 _ (ap_ b)
   cases this
  ·assumption⟩
 have a0:=g ρ w f.toList E H N hs a1;refine .value (v:=.slice (some ⟨w.heap.size,0,none⟩) len len) (w':=w.alloc (.cells f.toList.toArray E)) ?_ ⟨_,a0,.sl Nm.pZ (λ_=>rfl) (apT _) (λx e=>by cases e;rfl) (λe=>by cases e)⟩;simp only[execOp,ap6,a4 f V,ap7,ap8,atS]
def p6{z:eb}{m j:Nat}{u:Value}(c:0<z.size)(f:j<m)(b:z[j % z.size]? =some u):(madeCells z m)[j]? =some u:=by
 have a:j % z.size<z.size:=asb _ c;have e:z[j % z.size]! =u:=by
  rw[aqA a]at b;cases b;simp[a]
 simp[madeCells,f,e]
def Rm{α:Type}(z:List α)(b:0<z.length):∀(m j:Nat) c,(List.replicate m z).flatten[j]? =some c->z[j % z.length]? =some c/\j<m*z.length
 |0,j,c,h=>by simp at h
 |m+1,j,c,h=>by
  rw[ark,aqu]at h;by_cases a:j<z.length
  ·rw[aqF a]at h
   exact⟨by rw[asa a];exact h,by rw[aqv];omega⟩
  ·rw[aq7 (by omega)]at h
   obtain⟨e,f⟩:=Rm z b m _ c h;exact⟨by rw[<-e,atX (asq a)],by rw[aqv];omega⟩
def Fk(z:bD)(m:Nat):Tr CV:=match z with
 |[v]=>Tr.fill (.v v) 64 m
 |z=>trL ((List.replicate m (z.map .v)).flatten)
def HX{z:bD}(g:0<z.length)(h:(Fk z b).get e=some v):∃u,v=.v u/\z[e % z.length]? =some u/\e<b*z.length:=by
 unfold Fk at h;split at h
 ·rename_i a
  obtain⟨rfl,c⟩:=Tr.jw h;exact⟨a,rfl,by simp[Nat.mod_one],by simpa using c⟩
 ·have c:=ael h
  have i:0<(z.map CV.v).length:=by simpa using g
  obtain⟨f,j⟩:=Rm _ i b e v c;rw[ap1,aqd]at f;obtain⟨u,k,rfl⟩:=aqo.1 f;exact⟨u,rfl,k,by simpa using j⟩
def FK.makeSlice(S:gw P T){p q:CV}{k:CV->Tr cX->Nat->Option R}(hx:jT t x p)(hy:jT t y q)(X:(oB (T t1).el λe=>tX p λm=>tX q λM=>bB (Nat.beq m M) (bB (Nat.ble (Nat.mul e.2.2.1 m) 140737488355328) (bB (Nat.ble m 1048576) (bB (Nat.blt 0 e.2.1) (bB (mw (e.2.2.2.map .v)) (yU h n (.ce (Fk e.2.2.2 m) (Nat.mul m e.2.1) none true) λb n'=>k (.sl n 0 m (some m)) b n') none) none) none) none) none)=some r):
 ∃A l b,ZK P Dk w0 ⟨d,.makeSlice t1 x y,ty,pos,af,gd⟩ t A l/\(∀j,b.get j=tW h.get n l j)/\k (A n) b (yT n l)=some r:=by
 obtain⟨⟨E,O,Q,z⟩,U,Y⟩:=bA X;obtain⟨k1,m,rfl,Z⟩:=lN Y;obtain⟨k2,M,rfl,a0⟩:=lN Z;obtain⟨hm,a1⟩:=bg a0;obtain rfl:=ei hm;obtain⟨D,a2⟩:=bg a1;obtain⟨J,a3⟩:=bg a2;obtain⟨G,a4⟩:=bg a3;obtain⟨a7,a5⟩:=bg a4;obtain⟨b,V,a6⟩:=JX a5;have D:Q*m<=140737488355328:=apY D;have J:m<=1048576:=apY J;have I:0<O:=apY G;clear G;obtain⟨i,s,p2,p3,p4,o,rfl,rfl,rfl⟩:=cT (S.el _ _ U);refine⟨λn=>.sl n 0 m (some m),_,b,λρ a w H N K hs=>?_,V,a6⟩;have F:=run_make (P:=P) w t1 E i s p2 p3 p4 k1 k2 m m (by omega) (asp _) (by
  have h:((i.bytes*m:Nat):Int)<=281474976710656:=by omega
  rwa[arM]at h) (by omega)
 simp only[ap2]at F;have L:s.cells.toList.length=i.size:=by simpa using o
 refine .value (v:=.slice (some ⟨w.heap.size,0,none⟩) m m) (w':=w.alloc (.cells (madeCells s.cells (m*i.size)) E)) ?_ ⟨_,hs.HW E 0 none (by simp[atY]) (λO e=>by cases e) (λj c W=>?_) (λ_=>rfl),.sl Nm.pZ (λ_=>rfl) (apT _) (λx e=>by cases e;rfl) (λe=>by cases e)⟩
 ·have B:=(hx ρ a K).bN
  have C:=(hy ρ a K).bN;simp only[atD]at B C;simp only[execOp,B,C,ap6,F,ap7,ap8]
 ·obtain⟨u,rfl,g,f⟩:=HX (by rw[L];exact I) W
  rw[L]at g f;refine⟨by simpa using f,u,p6 (by rw[o];exact I) f (by rw[o];simpa using g),.v,?_⟩;exact gn a7 _ (ap4.2 ⟨u,ap_ g,rfl⟩)
def FK.makeMap(g:gw P T){k:CV->Tr cX->Nat->Option R}(m:(oB (T t1).mp λ_=>yU h n (.ma t1 [] true) λb s=>k (.mp n) b s)=some r):∃f e b,ZK P Dk w0 ⟨d,.makeMap t1 none,ty,pos,af,gd⟩ t f e/\(∀j,b.get j=tW h.get n e j)/\k (f n) b (yT n e)=some r:=by
 obtain⟨⟨u,z⟩,c,o⟩:=bA m;obtain⟨b,l,p⟩:=JX o;have c:=g.mp _ _ c;obtain⟨C,A,i,p1,p2,p3,p4⟩:=hP c;refine⟨λn=>.mp n,_,b,λρ a w H N B q=>?_,l,p⟩;refine .value (v:=.map (some w.heap.size)) (w':=w.alloc (.map #[] 0)) ?_ ⟨_,q.new _ 0 (λ_=>rfl) ((Ext.refl w).alloc _) (by simp) ⟨u,z, #[],0,c,WG w _,rfl,by simp,by simp,stamped_empty 0,by simp,rfl⟩,.mp Nm.pZ⟩;simp[execOp,run_makeMap]
def FK.makeFunc{g:Fn}{i f:fU}{k:CV->Option R}(e:(pX t i.toList λp=>pX t f.toList λb=>k (.cl g p b))=some r):∃c,QK P ⟨d,.makeFunc g i f,ty,pos,af,gd⟩ t c/\k c=some r:=by
 obtain⟨p,q,e⟩:=CF e;obtain⟨b,s,e⟩:=CF e;refine⟨_,λρ a w l=>?_,e⟩;have m:=q ρ a l;have o:=s ρ a l;refine⟨.func g (i.toList.map a.eval).toArray (f.toList.map a.eval).toArray,?_,.cl _ _ m.1 o.1 m.2 o.2⟩;have j:∀b:fU,(b.toList.map a.eval).toArray=b.map a.eval:=λb=>by rw[<-arv]
 rw[j,j];simp[execOp,Instr.makeFunc]
end
end
end
variable{H:Tr CV}{Q:iL}
section
open Go Go.RowKit MapKept
section
variable{P:Program}{Dk:Deferred->Prop}{w0:World}{T:TypeId->bs}
def ajZ{R:Type}(l:List CV):Nat->Tr CV->(Tr CV->Option R)->Option R:=List.rec (motive:=λ_=>Nat->Tr CV->(Tr CV->Option R)->Option R) (λ_ t k=>k t) (λc _ a i t k=>Tr.put c t i λb=>a (Nat.succ i) b k) l
def Wd{R:Type}{r:R}:∀{l:List CV} {i:Nat} {t:Tr CV} {k:Tr CV->Option R},ajZ l i t k=some r->∃b,k b=some r/\(∀j,b.get j=if i<=j/\j<i+l.length then l[j - i]? else t.get j)/\∀j,i<=j->j<i+l.length->∃x,t.get j=some x
 |[],i,t,k,h=>⟨t,h,λj=>by rw[apQ (by simp)],λj g e=>by simp at e;omega⟩
 |c::l,i,t,k,h=>by
  change Tr.put c t i (λb=>ajZ l (i+1) b k)=some r at h;obtain⟨t1,g,u,f⟩:=Tr.mv h;obtain⟨t2,e,p,q⟩:=Wd g;refine⟨t2,e,λj=>?_,λj v s=>?_⟩
  ·rw[p j,f j]
   simp only[aqf];by_cases a:j=i
   ·subst a
    rw[apQ (by omega),apR rfl,apR (by omega)];simp
   ·by_cases m:i+1<=j/\j<i+1+l.length
    ·rw[apR m,apR (by omega),show j - i=(j - (i+1))+1 by omega]
     simp
    ·rw[apQ m,apQ a,apQ (by omega)]
  ·by_cases a:j=i
   ·subst a;exact u
   ·simp only[aqf]at s
    obtain⟨x,o⟩:=q j (by omega) (by omega);rw[f j,apQ a]at o;exact⟨x,o⟩
def Ext.setRow{w0 w:World}(h:Ext w0 w){b:Nat}(e:w0.heap.size<=b)(a:eb):Ext w0 (w.setRow b a):=
 ⟨⟨h.os,h.tape,h.output,by simp[World.setRow];exact h.size,λk c=>by rw[asC w b k a (by omega)];exact h.bS k c⟩,h.drawn⟩
def HR.write{h K:KH}{n:Nat}(p:HR P w0 m h n s){j b f o N:Nat}{ext:bU}{l:List CV}{us:bD}(A:h j=some (.ce u N ext true))(C:m j=some (b,f))(w:LR (KR m) l us)(M:∀c∈l,c.one=true)
 (O:∀i,H.get i=if o<=i/\i<o+l.length then l[i - o]? else u.get i) (Q:∀i,o<=i->i<o+l.length->∃x,u.get i=some x) (S:∀k,K k=if k=j then some (.ce H N ext true)else h k):
 ∃W,(storeCells ⟨b,o,none⟩ us 0).run P s=.ok () W/\KP P w0 m h n s m K n W:=by
 obtain⟨ty,v,E,X,D,J⟩:=p.ob _ _ _ _ A C;have F:o+us.length<=v.size\/us=[]:=by
  by_cases L:us=[]
  ·exact .inr L
  ·left
   have hp:0<us.length:=arD.2 L;obtain⟨x,I⟩:=Q (o+us.length - 1) (by omega) (by rw[<-w.1];omega);have:=(D _ _ I).1;omega
 rcases F with F|rfl
 ·have Z:∀a∈us,a.oneCell'=true:=λa q=>by
   obtain⟨i,g,rfl⟩:=aqB q;have U:i<l.length:=by rw[<-w.1];exact g
   exact(w.2 i l[i] us[i] (ap0 U) (ap0 g)).jv (M _ (asi U))
  have a2:=run_storeCells_at P b o ty us 0 v s E (by simpa using F) Z;refine⟨_,a2,?_⟩;have V:=p.lo _ _ _ _ A C;refine p.set _ A C rfl rfl S (p.ext.setRow V _) (by simp[World.setRow]) (λk B=>asC s b k _ B) ⟨ty,_,atP s b v _ ty (0,0) E,?_,λi c g=>?_,λsz e=>?_⟩
  ·simp;omega
  ·rw[O]at g
   split at g
   ·rename_i G
    obtain⟨x,I⟩:=Q i G.1 G.2;obtain⟨a,q,B⟩:=w.get g;refine⟨(D _ _ I).1,a,?_,B,M c (ap_ g)⟩;have e0:(v.toList.take o).length=o:=by simp;omega
    simp only[arf,arj];rw[aqm,aq7 (by omega),e0,aqF (by have:=(apV.1 q).1;exact this)];exact q
   ·rename_i G
    obtain⟨Y,a,q,B,ho⟩:=D _ _ g;refine⟨Y,a,?_,B,ho⟩;have e0:(v.toList.take o).length=o:=by simp;omega
    simp only[arf,arj];rw[aqm];by_cases a1:i<o
    ·rw[aqF (by omega),aqw,apR a1];simpa using q
    ·have a3:o+us.length<=i:=by rw[w.1];omega
     rw[aq7 (by omega),e0,aq7 (by omega),arb];rw[show o+us.length+(i - o - us.length)=i by omega];simpa using q
  ·rw[<-J sz e];simp;omega
 ·refine⟨s,rfl,?_⟩
  have a0:l=[]:=aqT w.1.symm;subst a0;have V:=p.lo _ _ _ _ A C;refine p.set _ A C rfl rfl S p.ext rfl (λ_ _=>rfl) ⟨ty,v,E,X,λi c g=>?_,J⟩;rw[O,apQ (by simp)]at g;exact D i c g
section
variable{t:Tr CV}{h:Tr cX}{n:Nat}{d:iN}{ty t1 t2:TypeId}{pos:String}{af:dI}{gd:fE}{x y z:Operand}{R:Type}{r:R}
def wrK{R:Type}(h:Tr cX)(j o:Nat)(l:List CV)(k:Tr cX->Option R):Option R:=blC h j λa N ext wr=>bB wr (bB (mw l) (ajZ l o a λb=>Tr.put (.ce b N ext true) h j k) none) none
def aen{k:Tr cX->Option R}(s:wrK h b e i k=some r):
 ∃c,(∀ρ w a m f,HR P w0 ρ h.get n w->ρ b=some (a,m)->LR (KR ρ) i f->∃g,(storeCells ⟨a,e,none⟩ f 0).run P w=.ok () g/\KP P w0 ρ h.get n w ρ c.get n g)/\k c=some r:=by
 obtain⟨G,N,ext,wr,q,u⟩:=Ac s;obtain⟨rfl,v⟩:=bg u;obtain⟨j,A⟩:=bg v;obtain⟨H,B,l,o⟩:=Wd A;obtain⟨c,C,_,p⟩:=Tr.mv B;exact⟨c,λρ w a m f F E D=>F.write q E D (gn j) l o p,C⟩
def ptA{R:Type}(c:CV)(k:Nat->Nat->Option R):Option R:=match c with
 |.pt j o=>k j o
 |_=>none
def aj0{k:Nat->Nat->Option R}(a:ptA v k=some r):∃j o,v=.pt j o/\k j o=some r:=by
 unfold ptA at a;split at a
 ·exact⟨_,_,rfl,a⟩
 ·cases a
def FK.store(C:gw P T){p q:CV}{k:CV->Tr cX->Nat->Option R}(W:jT t x p)(X:jT t y q)(E:(oB (T t1).ty λe=>ptA p λj o=>sE q λl=>bB (Nat.beq l.length e.2) (wrK h j o l λf=>k (.v undef) f n) none)=some r):
 ∃c f v,FK P Dk w0 ⟨d,.store t1 x y,ty,pos,af,gd⟩ t h n c f v/\k c f v=some r:=by
 obtain⟨⟨ag,m⟩,S,F⟩:=bA E;obtain⟨j,o,rfl,G⟩:=aj0 F;obtain⟨l,L,H⟩:=Ad G;obtain⟨g,I⟩:=bg H;obtain⟨f,V,J⟩:=aen (P:=P) (w0:=w0) (n:=n) I;have g:l.length=m:=ei g;refine⟨_,f,n,λρ a w u O=>?_,J⟩;obtain⟨b,Y,M,D⟩:=(W ρ a u).vL;obtain⟨A,U,s⟩:=L ρ _ (X ρ a u);obtain⟨Z,N,K⟩:=V ρ w b Y A O M s;obtain⟨td,i,h2,B,_,rfl⟩:=ic (C.ty _ _ S);refine .skip (w':=Z) ?_ ⟨ρ,K,.v⟩;have Q:A.length=i.size:=by rw[s.1];exact g
 simp[execOp,Instr.storeAt,Instr.sureAddr,D,storeVar,U,cG w B,Q,N]
def tY{R:Type}(t:Tr CV)(o:iL)(a:Nat)(k:Nat->Option R):Option R:=Option.rec (motive:=λ_=>Option R) (k a) (λx=>dW t x λc=>tX c k) o
def p_{k:Nat->Option R}(f:tY t Q b k=some r):∃m,(∀ρ a,mJ ρ t a->(Q.map a.eval=none/\m=b)\/∃e,Q.map a.eval=some (.int e (m:Int)))/\k m=some r:=by
 cases Q with
 |none=>exact⟨b,λρ a g=>.inl ⟨rfl,rfl⟩,f⟩
 |some x=>
  obtain⟨c,i,j⟩:=cg f;obtain⟨e,m,rfl,l⟩:=lN j;exact⟨m,λρ a g=>.inr ⟨e,by simp[(i ρ a g).bN]⟩,l⟩
def amY(c:bU)(m:Nat):Nat:=Option.rec (motive:=λ_=>Nat) m (λa=>a) c
def pcK{R:Type}(j o g l c a:Nat)(k:CV->Option R):Option R:=kN (bB (Nat.beq a l) o (Nat.add o (Nat.mul l g))) λf=>kN (Nat.sub c l) λe=>kN (Nat.sub a l) λb=>k (.sl j f e (some b))
def Rn{j o e l c a:Nat}{k:CV->Option R}:pcK j o e l c a k=k (.sl j (if a=l then o else o+l*e) (c - l) (some (a - l))):=by
 unfold pcK;rw[fC,fC,fC];cases b:Nat.beq a l with
 |true=>rw[apR (ei b)];rfl
 |false=>rw[apQ (iV b)];rfl
def sF{R:Type}(T:TypeId->bs)(t:Tr CV)(t1:TypeId)(a:CV)(p f i:iL)(k:CV->Option R):Option R:=match a with
 |.sl j o m c=>oB (T t1).el λe=>bB (Nat.blt 0 e.2.1) (tY t p 0 λl=>tY t f m λb=>bB (Nat.ble l b) (bB (Nat.ble b m) (Option.rec (motive:=λ_=>Option R)
  (Option.rec (motive:=λ_=>Option R) (kN (Nat.add o (Nat.mul l e.2.1)) λv=>kN (Nat.sub b l) λu=>k (.sl j v u none)) (λq=>bB (Nat.ble m q) (pcK j o e.2.1 l b q k) none) c)
  (λw=>bB f.isSome (dW t w λs=>tX s λg=>bB (Nat.ble b g) (bB (Nat.ble g (amY c m)) (pcK j o e.2.1 l b g k) none) none) none) i) none) none) none
 |.v (.slice none 0 0)=>oB (T t1).el λ_=>tY t p 0 λl=>tY t f 0 λb=>tY t i 0 λg=>bB (Nat.beq l 0) (bB (Nat.beq b 0) (bB (Nat.beq g 0) (bB (i.isNone||f.isSome) (k (.v (.slice none 0 0))) none) none) none) none
 |.pt j o=>oB (T t1).ar λe=>bB i.isNone (bB (Nat.blt 0 e.2.2) (tY t p 0 λl=>tY t f e.1 λb=>bB (Nat.ble l b) (bB (Nat.ble b e.1) (pcK j o e.2.2 l b e.1 k) none) none) none) none
 |_=>none
def aeo{j o a q l k i b u cap f:Nat}{c:bU}(B:0<q)(s:m j=some (b,u))(p:0<a\/o=0->f=o)(v:l<=k)(w:k<=a)(A:k<=i):
 KR m (.sl j (if i=l then o else o+l*q) (k - l) (some (i - l))) (.slice (if i=l then some ⟨b,f,none⟩else(some (⟨b,f,none⟩:Addr)).map (·.add (l*q))) (k - l) (i - l)):=by
 by_cases e:i=l
 ·rw[apR e,apR e]
  refine .sl s (λg=>?_) (by omega) (λx e=>by cases e;rfl) (λe=>by cases e);rcases g with g|g
  ·omega
  ·exact p (.inr g)
 ·rw[apQ e,apQ e]
  simp only[aq3,aqz];refine .sl s (λg=>?_) (by omega) (λx e=>by cases e;rfl) (λe=>by cases e);rcases g with g|g
  ·rw[p (.inl (by omega))]
  ·have:o=0:=by omega
   rw[p (.inr this)]
def FK.slice(hT:gw P T){a:CV}{lo Q mx:iL}{k:CV->Option R}(hx:jT t x a)(I:sF T t t1 a lo Q mx k=some r):∃c,QK P ⟨d,.slice t1 x lo Q mx,ty,pos,af,gd⟩ t c/\k c=some r:=by
 cases a with
 |sl j o m c=>
  change(oB (T t1).el λe=>_)=some r at I;obtain⟨⟨E,sz,ab,z⟩,he,a2⟩:=bA I;obtain⟨L,V⟩:=bg a2;have L:0<sz:=apY L;obtain⟨l,W,a3⟩:=p_ V;obtain⟨s,U,a4⟩:=p_ a3;obtain⟨C,a5⟩:=bg a4;obtain⟨D,H⟩:=bg a5;have C:l<=s:=apY C;have D:s<=m:=apY D;obtain⟨i,zv,p2,p3,p4,p5,rfl,_,_⟩:=cT (hT.el _ _ he);have a9:∀{ρ:Nm} {a:Act},mJ ρ t a->∃b mm q f,a.eval x=.slice (some ⟨b,f,none⟩) m q/\ρ j=some (b,mm)/\(0<m\/o=0->f=o)/\m<=q/\(∀y,c=some y->q=y)/\(c=none->o=0->q=mm):=λ{ρ a} p=>by
   have hv:=hx ρ a p;generalize a.eval x=u at hv;cases hv with
   |sl B J M Y Z=>exact⟨_,_,_,_,rfl,B,J,M,Y,Z⟩
  cases mx with
  |none=>
   cases c with
   |none=>
    change kN _ (λo'=>kN _ λm'=>k (.sl j o' m' none))=some r at H;rw[fC,fC]at H;refine⟨_,λρ a w p=>?_,H⟩;obtain⟨b,mm,q,f,G,B,J,M,Y,Z⟩:=a9 p;have X:=fa (P:=P) p2 p3 (some ⟨b,f,none⟩) m q l s none q (lo.map a.eval) (Q.map a.eval) none w (W ρ a p) (U ρ a p) (.inl ⟨rfl,rfl⟩) C D (by omega) (apT _) M;refine⟨.slice (if q=l then some ⟨b,f,none⟩else(some (⟨b,f,none⟩:Addr)).map (·.add (l*i.size))) (s - l) (q - l),by simp only[execOp,ap6,G,arO,X,ap7,ap8],?_⟩;show KR ρ (.sl j (o+l*i.size) (s - l) none) _;by_cases e:q=l
    ·rw[apR e]
     have ah:l=0\/0<l*i.size:=by
      by_cases S:l=0
      ·exact .inl S
      ·exact .inr (asj (by omega) L)
     refine .sl B (λK=>?_) (by omega) (λx e=>by cases e) (λ_ S=>?_)
     ·rcases K with K|K
      ·omega
      ·have S:l=0:=by omega
       have h5:o=0:=by omega
       rw[S,asl,arf];exact J (.inr h5)
     ·have h5:l=0:=by omega
      have h6:=Z rfl (by omega);omega
    ·rw[apQ e]
     simp only[aq3,aqz];have ah:l=0\/0<l*i.size:=by
      by_cases S:l=0
      ·exact .inl S
      ·exact .inr (asj (by omega) L)
     refine .sl B (λK=>?_) (by omega) (λx e=>by cases e) (λ_ S=>?_)
     ·rcases K with K|K
      ·rw[J (.inl (by omega))]
      ·rw[J (.inr (by omega))]
     ·have h5:l=0:=by omega
      have h6:=Z rfl (by omega);omega
   |some cp=>
    obtain⟨A,a0⟩:=bg H;rw[Rn]at a0;refine⟨_,λρ a w p=>?_,a0⟩;obtain⟨b,mm,q,f,G,B,J,M,Y,Z⟩:=a9 p;obtain rfl:=Y cp rfl;have X:=fa (P:=P) p2 p3 (some ⟨b,f,none⟩) m q l s none q (lo.map a.eval) (Q.map a.eval) none w (W ρ a p) (U ρ a p) (.inl ⟨rfl,rfl⟩) C D (by omega) (apT _) M;exact⟨_,by simp only[execOp,ap6,G,arO,X,ap7,ap8],aeo (c:=none) (cap:=q) L B J C D (by omega)⟩
  |some xm=>
   obtain⟨gs,a0⟩:=bg H;obtain⟨cm,ad,a8⟩:=cg a0;obtain⟨km,ml,rfl,ag⟩:=lN a8;obtain⟨A,ae⟩:=bg ag;obtain⟨F,aa⟩:=bg ae;have A:s<=ml:=apY A;have F:ml<=amY c m:=apY F;rw[Rn]at aa;refine⟨_,λρ a w p=>?_,aa⟩;obtain⟨b,mm,q,f,G,B,J,M,Y,Z⟩:=a9 p;have g5:ml<=q:=by
    cases c with
    |none=>exact aqM F M
    |some cp=>rw[Y cp rfl];exact F
   have X:=fa (P:=P) p2 p3 (some ⟨b,f,none⟩) m q l s none ml (lo.map a.eval) (Q.map a.eval) (some (a.eval xm)) w (W ρ a p) (U ρ a p) (.inr ⟨⟨km,by rw[(ad ρ a p).bN];rfl⟩,by cases Q with|none=>cases gs|some y=>simp⟩) C D A g5 M;exact⟨_,by simp only[execOp,ap6,G,aq3,X,ap7,ap8],aeo (c:=none) (cap:=q) L B J C D A⟩
 |v u=>
  unfold sF at I;split at I
  ·rename_i e;cases e
  ·rename_i e
   cases e;obtain⟨⟨E,sz,ab,z⟩,he,a2⟩:=bA I;obtain⟨l,W,V⟩:=p_ a2;obtain⟨s,U,a3⟩:=p_ V;obtain⟨ml,ai,a4⟩:=p_ a3;obtain⟨e1,a5⟩:=bg a4;obtain⟨e2,H⟩:=bg a5;obtain⟨e3,a0⟩:=bg H;obtain⟨e4,a8⟩:=bg a0;obtain rfl:=ei e1;obtain rfl:=ei e2;obtain rfl:=ei e3;obtain⟨i,zv,p2,p3,p4,p5,rfl,_,_⟩:=cT (hT.el _ _ he);refine⟨_,λρ a w p=>?_,a8⟩;have X:=fa (P:=P) p2 p3 none 0 0 0 0 none 0 (lo.map a.eval) (Q.map a.eval) (mx.map a.eval) w (W ρ a p) (U ρ a p) (by
    rcases ai ρ a p with⟨g,_⟩|⟨kd,g⟩
    ·exact .inl ⟨g,rfl⟩
    ·refine .inr ⟨⟨kd,g⟩,?_⟩
     cases mx with
     |none=>cases g
     |some y=>cases Q with
      |none=>cases e4
      |some y=>simp) (apT _) (apT _) (apT _) (apT _) (apT _)
   exact⟨_,by simp only[execOp,ap6,(hx ρ a p).bN,X,ap7,ap8,aqs,atp],.v⟩
  ·rename_i e;cases e
  ·cases I
 |pt j o=>
  change(oB (T t1).ar λe=>_)=some r at I;obtain⟨⟨N,E,sz⟩,he,a2⟩:=bA I;obtain⟨gm,V⟩:=bg a2;obtain⟨L,V⟩:=bg V;have L:0<sz:=apY L;obtain⟨l,W,a3⟩:=p_ V;obtain⟨s,U,a4⟩:=p_ a3;obtain⟨C,a5⟩:=bg a4;obtain⟨D,H⟩:=bg a5;have C:l<=s:=apY C;have D:s<=N:=apY D;rw[Rn]at H;cases mx with
  |some y=>cases gm
  |none=>
  refine⟨_,λρ a w p=>?_,H⟩;obtain⟨b,mm,B,G⟩:=(hx ρ a p).vL;obtain⟨aj,a7,ac,rfl⟩:=sO (hT.ar _ _ he);have a1:P.elem t1=E:=by simp[Program.elem,a7]
  have O:P.arrayLen t1=N:=by simp[Program.arrayLen,a7]
  have hu:P.underlying t1=some (.array (P.arrayLen t1) (P.elem t1)):=by rw[a1,O];exact a7
  refine⟨slicedAt ⟨b,o,none⟩ l s N aj.size,?_,?_⟩
  ·have a6:=cG (P:=P) w ac
   rcases W ρ a p with⟨A,rfl⟩|⟨kl,A⟩<;>rcases U ρ a p with⟨F,rfl⟩|⟨kh,F⟩
   ·simp[execOp,G,A,F,auK w t1 ⟨b,o,none⟩ hu,a1,O,a6]
   ·simp only[execOp,G,arO,A,F,auL w t1 ⟨b,o,none⟩ hu kh s (by omega) (by rw[O];omega),ap6,a1,a6,O,ap7,ap2,ap8]
   ·simp only[execOp,G,arO,A,F,auM w t1 ⟨b,o,none⟩ hu kl l (by omega) (by rw[O];omega),ap6,a1,a6,O,ap7,ap2,ap8]
   ·simp only[execOp,G,arO,A,F,auN w t1 ⟨b,o,none⟩ hu kl kh l s (by omega) (by omega) (by rw[O];omega),ap6,a1,a6,O,ap7,ap2,ap8]
  ·unfold slicedAt
   by_cases e:N=l
   ·rw[apR e,apR e]
    exact .sl B (λK=>rfl) (by omega) (λx e=>by cases e;rfl) (λe=>by cases e)
   ·rw[apQ e,apQ e,aqz]
    exact .sl B (λK=>rfl) (by omega) (λx e=>by cases e;rfl) (λe=>by cases e)
 |_=>cases I
def aj1{R:Type}(h:Tr cX)(c:Nat)(a:CV)(k:Nat->List CV->Option R):Option R:=match a with
 |.sl j o m _=>bB (Nat.beq m 0) (k 0 []) (blC h j λb _ _ _=>rdC b (Nat.mul m c) o λl=>k m l)
 |.v (.slice none 0 0)=>k 0 []
 |_=>none
def agR{k:Nat->List CV->Option R}(f:aj1 h b v k=some r):∃m l,(∀ρ w a,HR P w0 ρ h.get n w->KR ρ v a->∃A D g,a=.slice A m D/\LR (KR ρ) l g/\g.length=m*b/\(∀u∈g,u.oneCell'=true)/\(m=0\/∃q,A=some q/\∀(j:Nat) u,g[j]? =some u->w.cell? (q.add j)=some u))/\k m l=some r:=by
 unfold aj1 at f;split at f
 ·rename_i j o m c
  rcases dC f with⟨e,f⟩|⟨e,f⟩
  ·have e:=ei e
   refine⟨0,[],λρ w a p i=>?_,f⟩;cases i with
   |sl B s E F G=>rw[e];exact⟨_,_,[],rfl,LR.nil,by simp,by simp,.inl rfl⟩
  ·have e:=iV e
   obtain⟨O,N,ext,wr,H,f⟩:=Ac f;obtain⟨l,J,K,f⟩:=Fj f;refine⟨m,l,λρ w a p i=>?_,f⟩;cases i with
   |sl B s E F G=>
    obtain⟨g,C,L,M⟩:=(p.ob _ _ _ _ H B).cells l K;obtain rfl:=s (.inl (by omega));exact⟨_,_,g,rfl,C,by rw[C.1,J];rfl,M,.inr ⟨_,rfl,λj u I=>by rw[aqz];exact L j u I⟩⟩
 ·exact⟨0,[],λρ w a p i=>⟨_,_,[],i.bN,LR.nil,by simp,by simp,.inl rfl⟩,f⟩
 ·cases f
def We{R:Type}(h:Tr cX)(n e m:Nat)(l:List CV)(k:CV->Tr cX->Nat->Option R):Option R:=bB (mw l) (JW l 0 .lf λa=>kN l.length λN=>yU h n (.ce a N (some e) true) λb c=>k (.sl n 0 m none) b c) none
def Fl{k:CV->Tr cX->Nat->Option R}(f:We h n b e i k=some r):∃o,(∀ρ w m l rest E,HR P w0 ρ h.get n w->LR (KR ρ) i m->m.length=e*b->e<=l->(m.toArray++rest).size=l*b->
 ∃A,KP P w0 ρ h.get n w A o.get (n+1) (w.drew.alloc (.cells (m.toArray++rest) E))/\KR A (.sl n 0 e none) (.slice (some ⟨w.heap.size,0,none⟩) e l))/\k (.sl n 0 e none) o (n+1)=some r:=by
 obtain⟨C,f⟩:=bg f;obtain⟨B,f,D⟩:=pY f;rw[fC]at f;obtain⟨o,f,F⟩:=tP f;refine⟨o,λρ w m l rest E I q L H J=>?_,f⟩;have p:=KP.drew I;refine⟨ρ.new n w.heap.size l,p.trans (HR.HW p.hr E l (some b) (N:=i.length) (ct:=B) (by simp[q.1]) (λs a=>by cases a;exact J) (λj c g=>?_) F),.sl Nm.pZ (λ_=>rfl) H (λx a=>by cases a) (λ_ _=>rfl)⟩;rw[D]at g;split at g
 ·rename_i K
  simp only[asQ]at g;obtain⟨u,v,f⟩:=q.get g;have G:=(apV.1 v).1;refine⟨(apV.1 g).1,u,?_,f,gn C c (ap_ g)⟩;rw[asf (by simpa using G)];simpa using v
 ·cases g
def ahR{R:Type}(h:Tr cX)(n a j b m:Nat)(l:List CV)(k:CV->Tr cX->Nat->Option R):Option R:=blC h j λp N ext wr=>bB wr (oB ext λs=>bB (Nat.beq a s) (bB (mw l)
 (bB (Nat.beq N (Nat.mul b a)) (JW l N p λe=>kN (Nat.add N l.length) λc=>Tr.new none 64 h j λg=>yU g n (.ce e c (some a) true) λf o=>kN (Nat.add b m) λi=>k (.sl n 0 i none) f o)
  (bB (Nat.beq b 0) (JW l 0 .lf λe=>kN l.length λc=>Tr.new none 64 h j λg=>yU g n (.ce e c (some a) true) λf o=>kN m λi=>k (.sl n 0 i none) f o)
   (bB (Nat.ble (Nat.mul b a) N) (rdC p (Nat.mul b a) 0 λq=>JW (q++l) 0 .lf λe=>kN (Nat.add (Nat.mul b a) l.length) λc=>Tr.new none 64 h j λg=>yU g n (.ce e c (some a) true) λf o=>kN (Nat.add b m) λi=>k (.sl n 0 i none) f o) none))) none) none) none
def aep{b j f m:Nat}{l:List CV}{k:CV->Tr cX->Nat->Option R}(L:ahR h n b j f m l k=some r):∃o p N g,h.get j=some (.ce p N (some b) true)/\(∀c∈l,c.one=true)/\
 (∀i c,g.get i=some c->(i<f*b/\p.get i=some c)\/(f*b<=i/\l[i - f*b]? =some c)\/(N<=i/\p.get i=some c))/\
 f*b<=N/\(∀k,o.get k=if k=n then some (.ce g (f*b+l.length) (some b) true)else if k=j then none else h.get k)/\k (.sl n 0 (f+m) none) o (n+1)=some r:=by
 obtain⟨p,N,ext,wr,F,M⟩:=Ac L;obtain⟨rfl,Q⟩:=bg M;obtain⟨Y,K,S⟩:=bA Q;obtain⟨e,U⟩:=bg S;obtain rfl:=ei e;subst K;obtain⟨D,V⟩:=bg U;rcases dC V with⟨e,G⟩|⟨e,G⟩
 ·have e:N=f*b:=ei e
  obtain⟨g,q,A⟩:=pY G;rw[fC]at q;obtain⟨I,s,v⟩:=Tr.nM q;obtain⟨o,u,w⟩:=tP s;rw[fC]at u;refine⟨o,p,N,g,F,gn D,λi c a=>?_,by omega,λk=>?_,u⟩
  ·rw[A]at a
   split at a
   ·right;left;rw[<-e];exact⟨by omega,a⟩
   ·by_cases E:i<f*b
    ·exact .inl ⟨E,a⟩
    ·exact .inr (.inr ⟨by omega,a⟩)
  ·rw[w,v,e]
   rfl
 ·rcases dC G with⟨e,q⟩|⟨e,q⟩
  ·obtain rfl:=ei e
   obtain⟨g,s,A⟩:=pY q;rw[fC]at s;obtain⟨I,u,v⟩:=Tr.nM s;obtain⟨o,B,w⟩:=tP u;rw[fC]at B;refine⟨o,p,N,g,F,gn D,λi c a=>?_,by simp,λk=>?_,by rw[aqq];exact B⟩
   ·rw[A]at a
    split at a
    ·exact .inr (.inl (by simpa using a))
    ·cases a
   ·rw[w,v]
    simp
  ·obtain⟨C,s⟩:=bg q
   have C:f*b<=N:=apY C;obtain⟨X,H,W,u⟩:=Fj s;have H:X.length=f*b:=H;obtain⟨g,B,A⟩:=pY u;rw[fC]at B;obtain⟨I,O,v⟩:=Tr.nM B;obtain⟨o,J,w⟩:=tP O;rw[fC]at J;refine⟨o,p,N,g,F,gn D,λi c a=>?_,C,λk=>?_,J⟩
   ·rw[A]at a
    split at a
    ·simp only[asQ]at a
     by_cases E:i<f*b
     ·rw[aqF (by omega)]at a
      have:=W i c a;rw[aqq]at this;exact .inl ⟨E,this⟩
     ·rw[aq7 (by omega),H]at a
      exact .inr (.inl ⟨by omega,a⟩)
    ·cases a
   ·rw[w,v]
    rfl
end
end
end
variable{D:Nat}
section
open Go Go.RowKit MapKept
section
variable{P:Program}{Dk:Deferred->Prop}{w0:World}{T:TypeId->bs}
section
variable{t:Tr CV}{h:Tr cX}{n:Nat}{d:iN}{ty t1 t2:TypeId}{pos:String}{af:dI}{gd:fE}{x y z:Operand}{R:Type}{r:R}
def Af(w:World)(t ty e k:TypeId)(i:TypeInfo)(D:P.underlying t=some (.slice e))(v:P.info? e=some i)
 (g b f:Nat) (cur:eb) (s:w.heap[g]? =some (.cells cur k (0,0)))
 (a:Addr) (m c:Nat) (news:bD) (A:news.length=m*i.size) (B:∀j u,news[j]? =some u->w.cell? (a.add j)=some u) (o:∀u∈news,u.oneCell'=true)
 (C:b+m<=f) (q:b*i.size+news.length<=cur.size):
 (Builtin.append_ #[t,t] ty #[.slice (some ⟨g,0,none⟩) b f,.slice (some a) m c]).run P w=
  .ok (.slice (some ⟨g,0,none⟩) (b+m) f) (w.setRow g (cur.toList.take (b*i.size)++news++cur.toList.drop (b*i.size+news.length)).toArray):=by
 have p:=run_firstCells_some (P:=P) w i.size m a m c news A B;have l:=run_storeCells_at P g (b*i.size) k news 0 cur w s (by simpa using q) o;simp only[arf]at l;simp[Builtin.append_,aqi D,sizeOf,typeInfo,v,Builtin.lenOf,C,p,aqz,l]
def fT{b:bU}{w a:World}(h:(Builtin.append_ #[t1,t2] ty #[F.eval x,F.eval y]).run P w=.ok j a):
 (execOp F.eval ⟨b,.call ⟨.builtin .append, #[x,y], #[t1,t2]⟩,ty,pos,af,gd⟩).run P w=.ok (.value j) a:=by
 have c:(#[x,y]:fU).map F.eval= #[F.eval x,F.eval y]:=by simp only[asd,aqc,aqZ]
 simp only[execOp,resolve,c,ap6,ap8,ap7,invoke,builtin];simp only[asT,h,ap7]
def toK{R:Type}(h:Tr cX)(n e f:Nat)(a:CV)(m:Nat)(l:List CV)(k:CV->Tr cX->Nat->Option R):Option R:=match a with
 |.v (.slice none 0 0)=>bB (Nat.ble m 1048576) (bB (Nat.ble (Nat.mul m f) 140737488355328) (We h n e m l k) none) none
 |.sl j o b c=>bB (Nat.ble (Nat.add b m) 1048576) (bB (Nat.ble (Nat.mul (Nat.add b m) f) 140737488355328) (Option.rec (motive:=λ_=>Option R)
  (bB (Nat.beq o 0) (ahR h n e j b m l k) none)
  (λg=>bB (Nat.blt g (Nat.add b m)) (bB (Nat.beq b 0) (We h n e m l k) (blC h j λi _ _ _=>rdC i (Nat.mul b e) o λq=>kN (Nat.add b m) λp=>We h n e p (q++l) k)) none) c) none) none
 |_=>none
def Wf{R:Type}(T:TypeId->bs)(h:Tr cX)(n:Nat)(t1 t2:TypeId)(a b:CV)(k:CV->Tr cX->Nat->Option R):Option R:=oB (T t1).el λe=>bB (Nat.blt 0 e.2.1) (bB (Nat.beq t1 t2)
 (aj1 h e.2.1 b λm l=>bB (Nat.beq m 0) (OV a λ_=>k a h n) (toK h n e.2.1 e.2.2.1 a m l k))
 (oB (T t2).ik λ_=>tX b λm=>match a with
  |.v (.slice none 0 0)=>bB (Nat.blt 0 m) (bB (Nat.ble m 1048576) (bB (Nat.ble (Nat.mul m e.2.2.1) 140737488355328) (bB (mw (e.2.2.2.map .v)) (yU h n (.ce (Fk e.2.2.2 m) (Nat.mul m e.2.1) (some e.2.1) true) λc f=>k (.sl n 0 m none) c f) none) none) none) none
  |_=>none)) none
def OX{z:eb}{c rest:eb}{m a b:Nat}(g:z.size=b)(f:c.size=m*b)(e:rest=Builtin.zeroCells z (a - m))(i:m<=a):(c++rest).size=a*b:=by
 rw[ar3,f,e,art,g,<-aqv];congr 1;omega
def aj2(hT:gw P T){a g:CV}{m:Nat}{l:List CV}{k:CV->Tr cX->Nat->Option R}(he:(T t1).el=some (b,e,D,A))(az:0<e)(hx:jT t x a)
 (ax:∀ρ w v,HR P w0 ρ h.get n w->KR ρ g v->∃B G us,v=.slice B m G/\LR (KR ρ) l us/\us.length=m*e/\(∀u∈us,u.oneCell'=true)/\(m=0\/∃K,B=some K/\∀(j:Nat) u,us[j]? =some u->w.cell? (K.add j)=some u)) (hy:jT t y g) (hm:¬m=0)
 (J:toK h n e D a m l k=some r):∃c O n',FK P Dk w0 ⟨d,.call ⟨.builtin .append, #[x,y], #[t1,t1]⟩,ty,pos,af,gd⟩ t h n c O n'/\k c O n'=some r:=by
 obtain⟨i,zv,p2,p3,p4,p5,rfl,rfl,rfl⟩:=cT (hT.el _ _ he);have a9:∀{ρ:Nm} {a:Act} {w:World},mJ ρ t a->HR P w0 ρ h.get n w->∃K G us,a.eval y=.slice (some K) m G/\LR (KR ρ) l us/\us.length=m*i.size/\(∀u∈us,u.oneCell'=true)/\∀(j:Nat) u,us[j]? =some u->w.cell? (K.add j)=some u:=λ{ρ a w} L F=>by
  obtain⟨B,G,us,V,W,H,h4,h5⟩:=ax ρ w _ F (hy ρ a L);rcases h5 with h5|⟨K,rfl,h5⟩
  ·exact absurd h5 hm
  ·exact⟨K,G,us,V,W,H,h4,h5⟩
 cases a with
 |v u=>
  unfold toK at J;split at J
  ·rename_i p
   cases p;obtain⟨g1,aa⟩:=bg J;obtain⟨Z,a8⟩:=bg aa;have g1:m<=1048576:=apY g1;have Z:m*i.bytes<=140737488355328:=apY Z;obtain⟨O,hg,a4⟩:=Fl (P:=P) (w0:=w0) a8;refine⟨_,O,_,λρ a w L F=>?_,a4⟩;obtain⟨K,G,us,a1,X,I,V,a0⟩:=a9 L F;have S:=atO (P:=P) w t1 ty b i zv p2 p3 p4 K m G us I a0 (by omega) (by omega) (by omega);refine .value (fT (by rw[(hx ρ a L).bN,a1];exact S)) (hg ρ w us (grownCap w m 0 b) _ b F X I (are w m 0 b) (OX p5 (by simpa using I) rfl (are w m 0 b)))
  ·rename_i p;cases p
  ·cases J
 |sl j o C c=>
  change bB _ _ _=_ at J;obtain⟨g1,aa⟩:=bg J;obtain⟨Z,a8⟩:=bg aa;have g1:C+m<=1048576:=apY g1;have Z:(C+m)*i.bytes<=140737488355328:=apY Z;have ae:∀{ρ:Nm} {a:Act},mJ ρ t a->∃g mm G f,a.eval x=.slice (some ⟨g,f,none⟩) C G/\ρ j=some (g,mm)/\(0<C\/o=0->f=o)/\C<=G/\(∀y,c=some y->G=y)/\(c=none->o=0->G=mm):=λ{ρ a} L=>by
   have hv:=hx ρ a L;generalize a.eval x=u at hv;cases hv with
   |sl hr Q V H h4=>exact⟨_,_,_,_,rfl,hr,Q,V,H,h4⟩
  cases c with
  |some cp=>
   obtain⟨U,a4⟩:=bg a8;have U:cp<C+m:=apY U;rcases dC a4 with⟨p,a5⟩|⟨p,a5⟩
   ·obtain rfl:=ei p
    obtain⟨O,hg,ab⟩:=Fl (P:=P) (w0:=w0) a5;refine⟨_,O,_,λρ a w L F=>?_,ab⟩;obtain⟨K,G,us,a1,X,I,V,a0⟩:=a9 L F;obtain⟨g,mm,E,f,a3,hr,Q,q1,q3,q4⟩:=ae L;obtain rfl:=q3 cp rfl;have S:=ar5 (P:=P) w t1 ty b i zv p2 p3 p4 ⟨g,f,none⟩ 0 E [] (by simp) (by simp) K m G us I a0 U (by omega) (asF U Z);simp only[aqq]at S;refine .value (fT (by rw[a3,a1];exact S)) ?_;have:=hg ρ w us (grownCap w m E b) (Builtin.zeroCells zv.cells (grownCap w m E b - m)) b F X I (are w m E b) (OX p5 (by simpa using I) rfl (are w m E b));simpa using this
   ·have p:=iV p
    obtain⟨cs,N,ext,wr,hb,ab⟩:=Ac a5;obtain⟨ol,ar,au,ai⟩:=Fj ab;rw[fC]at ai;obtain⟨O,hg,ao⟩:=Fl (P:=P) (w0:=w0) ai;refine⟨_,O,_,λρ a w L F=>?_,ao⟩;obtain⟨K,G,us,a1,X,I,V,a0⟩:=a9 L F;obtain⟨g,mm,E,f,a3,hr,Q,q1,q3,q4⟩:=ae L;obtain rfl:=q3 cp rfl;obtain rfl:=Q (.inl (by omega));obtain⟨os,u1,u2,u3⟩:=(F.ob _ _ _ _ hb hr).cells ol au;have am:os.length=C*i.size:=by rw[u1.1,ar];rfl
    have S:=ar5 (P:=P) w t1 ty b i zv p2 p3 p4 ⟨g,f,none⟩ C E os am (λj v M=>by rw[aqz];exact u2 j v M) K m G us I a0 U (by omega) (asF U Z);refine .value (fT (by rw[a3,a1];exact S)) ?_;have a6:(os++us).length=(C+m)*i.size:=by rw[aqb,am,I,aqv]
    have:=hg ρ w (os++us) (grownCap w (C+m) E b) (Builtin.zeroCells zv.cells (grownCap w (C+m) E b - (C+m))) b F (u1.append X) a6 (are w _ E b) (OX p5 (by simpa using a6) rfl (are w _ E b));simpa using this
  |none=>
   obtain⟨p,a4⟩:=bg a8;obtain rfl:=ei p;obtain⟨O,cs,N,ct,M,V,ah,hN,hh,a5⟩:=aep a4;refine⟨_,O,_,λρ a w L F=>?_,a5⟩;obtain⟨K,G,us,a1,X,I,aw,a0⟩:=a9 L F;obtain⟨g,mm,E,f,a3,hr,Q,q1,q3,q4⟩:=ae L;obtain rfl:=Q (.inr rfl);obtain rfl:=q4 rfl rfl;obtain⟨a7,a2,b1,b2,b3,b4⟩:=F.ob _ _ _ _ M hr;have ag:=b4 _ rfl;have a6:l.length=m*i.size:=by rw[<-X.1,I]
   have ay:=F.lth M;by_cases ac:C+m<=E
   ·have an:C*i.size+us.length<=a2.size:=by rw[ag,I,<-aqv];exact ar6 _ ac
    have S:=Af (P:=P) w t1 ty b a7 i p2 p3 g C E a2 b1 K m G us I a0 aw ac an;refine .value (fT (by rw[a3,a1];exact S)) ⟨ρ.new n g E,?_,.sl Nm.pZ (λ_=>rfl) ac (λx p=>by cases p) (λ_ _=>rfl)⟩;have ap:=F.lo _ _ _ _ M hr;have aj:=F.le g E;refine F.move _ M hr rfl rfl hh (F.ext.setRow ap _) (by simp[World.setRow]) (λk J=>asC w g k _ J) ⟨a7,_,atP w g a2 _ a7 (0,0) b1,?_,λq c hq=>?_,λs p=>?_⟩
    ·rw[a6,<-I];simp;omega
    ·have e0:(a2.toList.take (C*i.size)).length=C*i.size:=by simp;omega
     rcases ah q c hq with⟨W,H⟩|⟨W,H⟩|⟨W,H⟩
     ·obtain⟨g5,u,Y,J,Q⟩:=b3 _ _ H
      refine⟨by omega,u,?_,J.mono aj,Q⟩;simp only[arj];rw[aqm,aqF (by omega),aqw,apR W];simpa using Y
     ·obtain⟨u,Y,J⟩:=X.get H
      have ak:=(apV.1 Y).1;have aq:=(apV.1 H).1;refine⟨by omega,u,?_,J.mono aj,V c (ap_ H)⟩;simp only[arj];rw[aqm,aq7 (by omega),e0,aqF ak];exact Y
     ·have:=(b3 _ _ H).1;omega
    ·cases p
     rw[<-ag];simp;omega
   ·have U:E<C+m:=by omega
    have av:∀(j:Nat) v,(a2.toList.take (C*i.size))[j]? =some v->w.cell? ((⟨g,0,none⟩:Addr).add j)=some v:=λj v M=>by
     rw[aqz,aqq,aqV w g j a2 a7 (0,0) b1];rw[aqw]at M;split at M
     ·simpa using M
     ·cases M
    have e0:(a2.toList.take (C*i.size)).length=C*i.size:=by simp;omega
    have S:=ar5 (P:=P) w t1 ty b i zv p2 p3 p4 ⟨g,0,none⟩ C E _ e0 av K m G us I a0 U (by omega) (asF U Z);have br:=F.kill (h':=λk=>if k=j then none else h.get k) M rfl (λk=>rfl);have hd:=KP.drew br.hr;have al:=are w (C+m) E b;refine .value (fT (by rw[a3,a1];exact S)) ⟨ρ.new n w.heap.size (grownCap w (C+m) E b),(br.trans hd).trans (HR.HW hd.hr b (grownCap w (C+m) E b) (some i.size) (N:=C*i.size+l.length) (ct:=ct) ?_ (λs p=>?_) (λq c hq=>?_) (λk=>hh k)),.sl Nm.pZ (λ_=>rfl) al (λx p=>by cases p) (λ_ _=>rfl)⟩
    ·simp only[ar3,arG,e0,I,a6,art];omega
    ·cases p
     exact OX (m:=C+m) p5 (by simp only[ar3,arG,e0,I,aqv]) rfl al
    ·rcases ah q c hq with⟨W,H⟩|⟨W,H⟩|⟨W,H⟩
     ·obtain⟨g5,u,Y,J,Q⟩:=b3 _ _ H
      refine⟨by omega,u,?_,J,Q⟩;rw[asf (by simp;omega),asf (by simp;omega)];simp only[arj];rw[aqw,apR W];simpa using Y
     ·obtain⟨u,Y,J⟩:=X.get H
      have ak:=(apV.1 Y).1;have aq:=(apV.1 H).1;refine⟨by omega,u,?_,J,V c (ap_ H)⟩;rw[asf (by simp;omega),Array.getElem?_append_right (by simp;omega)];simp only[arj,arG,e0];exact Y
     ·have:=(b3 _ _ H).1;omega
 |_=>cases J
def FK.append(D:gw P T){a b:CV}{k:CV->Tr cX->Nat->Option R}(V:jT t x a)(W:jT t y b)(hk:Wf T h n t1 t2 a b k=some r):∃c C n',FK P Dk w0 ⟨d,.call ⟨.builtin .append, #[x,y], #[t1,t2]⟩,ty,pos,af,gd⟩ t h n c C n'/\k c C n'=some r:=by
 obtain⟨⟨E,sz,a5,zz⟩,L,a0⟩:=bA hk;obtain⟨a2,a8⟩:=bg a0;have G:0<sz:=apY a2;clear a2 a0 hk;rcases dC a8 with⟨e,M⟩|⟨e,M⟩
 ·obtain rfl:=ei e
  obtain⟨m,l,a3,O⟩:=agR (P:=P) (w0:=w0) (n:=n) M;rcases dC O with⟨e,f⟩|⟨e,f⟩
  ·obtain rfl:=ei e
   obtain⟨X,ae,Q⟩:=OW f;obtain⟨i,I,p2,p3,p4,g,rfl,_,_⟩:=cT (D.el _ _ L);refine⟨_,h,n,.pure λρ a w p S=>?_,Q⟩;obtain⟨A,a6,us,K,_⟩:=a3 ρ w _ S (W ρ a p);have H:=V ρ a p;refine⟨a.eval x,?_,H⟩;obtain⟨o,j,B,ad⟩:∃o j,a.eval x=.slice o X j/\X<=j:=by
    obtain⟨o,j,B⟩:=ae ρ _ H;refine⟨o,j,B,?_⟩;rw[B]at H;cases H with
    |sl _ _ K=>exact K
    |v=>
     unfold OV at f;split at f
     ·rename_i e;cases e
     ·rename_i e;cases e;exact apT _
     ·cases f
   exact fT (by rw[K,B];exact qe w t1 ty E i p2 p3 o A X j a6 ad)
  ·exact aj2 D L G V a3 W (iV e) f
 ·obtain⟨kn,ac,O⟩:=bA M
  obtain⟨km,m,rfl,f⟩:=lN O;split at f
  ·obtain⟨J,Q⟩:=bg f
   obtain⟨Y,a9⟩:=bg Q;obtain⟨Z,aa⟩:=bg a9;obtain⟨g3,ab⟩:=bg aa;have J:0<m:=apY J;have Y:m<=1048576:=apY Y;have Z:m*a5<=140737488355328:=apY Z;obtain⟨C,a7,hh⟩:=tP ab;obtain⟨i,I,p2,p3,p4,g,rfl,rfl,rfl⟩:=cT (D.el _ _ L);refine⟨_,C,_,λρ a w p S=>?_,a7⟩;have ag:=Go.Lib.run_append_nil_zeros (P:=P) w t1 t2 ty E i I km kn p2 (D.ik _ _ ac) p3 p4 m J G (by omega) (by omega);have a4:I.cells.toList.length=i.size:=by simpa using g
   have hd:=KP.drew S;have a1:=are w m 0 E;refine .value (fT (by rw[(V ρ a p).bN,(W ρ a p).bN];exact ag)) ⟨_,hd.trans (HR.HW hd.hr E (grownCap w m 0 E) (some i.size) (N:=m*i.size) ?_ (λs e=>?_) (λq c hq=>?_) hh),.sl Nm.pZ (λ_=>rfl) a1 (λx e=>by cases e) (λ_ _=>rfl)⟩
   ·simp only[ar3,art,g];omega
   ·cases e
    exact OX (m:=m) g (by rw[art,g]) rfl a1
   ·obtain⟨u,rfl,U,F⟩:=HX (by rw[a4];exact G) hq
    rw[a4]at U F;refine⟨F,u,?_,.v,gn g3 _ (ap4.2 ⟨u,ap_ U,rfl⟩)⟩;rw[asf (by rw[art,g];exact F)];exact p6 (m:=m*I.cells.size) (by rw[g];exact G) (by rw[g];exact F) (by rw[g];simpa using U)
  ·cases f
def aeq{R:Type}(T:TypeId->bs)(h:Tr cX)(n:Nat)(t1:TypeId)(a:CV)(k:CV->Tr cX->Nat->Option R):Option R:=oB (T t1).el λe=>bB (Nat.blt 0 e.2.1) (match a with
 |.v (.slice none 0 0)=>k (.v undef) h n
 |.sl j o m _=>bB (Nat.beq m 0) (k (.v undef) h n) (wrK h j o ((List.replicate m (e.2.2.2.map .v)).flatten) λb=>k (.v undef) b n)
 |_=>none) none
def OY{α β:Type}(f:α->β)(z:List α):∀m,(List.replicate m (z.map f)).flatten=((List.replicate m z).flatten).map f
 |0=>rfl
 |m+1=>by rw[ark,ark,aqu,aqu,aqH,OY f z m]
def Fm{z:eb}(m:Nat)(a:0<z.size):(Builtin.zeroCells z m).toList=(List.replicate m z.toList).flatten:=by
 refine arC λj=>?_;have i:(Builtin.zeroCells z m).toList.length=m*z.size:=by simp[art]
 have e:((List.replicate m z.toList).flatten).length=m*z.size:=by simp
 by_cases f:j<m*z.size
 ·obtain⟨c,b⟩:∃c,((List.replicate m z.toList).flatten)[j]? =some c:=⟨_,ap0 (by rw[e];exact f)⟩
  obtain⟨g,_⟩:=Rm z.toList (by simpa using a) m j c b;rw[b];have:=p6 (z:=z) (m:=m*z.size) (j:=j) (u:=c) a f (by simpa using g);rw[ara];exact this
 ·rw[aqE (by rw[i];omega),aqE (by rw[e];omega)]
def FK.clear(K:gw P T){a:CV}{k:CV->Tr cX->Nat->Option R}(D:jT t x a)(F:aeq T h n t1 a k=some r):∃c p J,FK P Dk w0 ⟨d,.call ⟨.builtin .clear, #[x], #[t1]⟩,ty,pos,af,gd⟩ t h n c p J/\k c p J=some r:=by
 obtain⟨⟨E,X,a0,zz⟩,L,G⟩:=bA F;obtain⟨H,q⟩:=bg G;have Q:0<X:=apY H;clear H G F;obtain⟨i,Z,p2,p3,p4,W,rfl,_,rfl⟩:=cT (K.el _ _ L);have s:∀a:Act,(#[x]:fU).map a.eval= #[a.eval x]:=λa=>by simp only[asd,aqc,aqZ]
 split at q
 ·refine⟨_,h,n,.pure λρ a w g C=>⟨undef,?_,.v⟩,q⟩
  simp[execOp,resolve,s,(D ρ a g).bN,invoke,builtin,Builtin.clear_,aqi p2,undef]
 ·rename_i j o m c
  rcases dC q with⟨e,B⟩|⟨e,B⟩
  ·obtain rfl:=ei e
   refine⟨_,h,n,.pure λρ a w g C=>⟨undef,?_,.v⟩,B⟩;have l:=D ρ a g;generalize A:a.eval x=u at l;cases l with
   |sl=>simp[execOp,resolve,s,A,invoke,builtin,Builtin.clear_,aqi p2,undef]
  ·have e:=iV e
   obtain⟨p,U,M⟩:=aen (P:=P) (w0:=w0) (n:=n) B;refine⟨_,p,n,λρ a w g C=>?_,M⟩;have l:=D ρ a g;generalize A:a.eval x=u at l;cases l with
   | @sl _ _ _ _ b V a1 f S O h1 h3 h4=>
    obtain rfl:=O (.inl (by omega));obtain⟨Y,I,N⟩:=U ρ w b V ((List.replicate m Z.cells.toList).flatten) C S (by rw[OY];exact LR.vs _);rw[<-Fm m (by rw[W];exact Q)]at I;refine .value (v:=undef) (w':=Y) ?_ ⟨ρ,N,.v⟩;cases m with
    |zero=>omega
    |succ m=>simp[execOp,resolve,s,A,invoke,builtin,Builtin.clear_,aqi p2,undef,zeroValue,typeInfo,p3,p4,I]
 ·cases q
end
end
end
variable{a:Type}{C:TypeDesc}
section
open Go Go.RowKit MapKept
section
variable{P:Program}{Dk:Deferred->Prop}{w0:World}{T:TypeId->bs}
def agS(d:TypeDesc)(v:Value):Bool:=match d with
 |.int k=>(match v with
  |.int a _=>decide (a=k)
  |_=>false)
 |.tuple _=>(match v with
  |.agg ⟨[.int .i64 _,.int .i64 _]⟩=>true
  |_=>false)
 |_=>false
def agT{d:TypeDesc}(h:agS d j=true):kD d j:=by
 unfold agS at h;split at h
 ·split at h
  ·have e:=aqK h
   subst e;exact(rfl:_=_)
  ·cases h
 ·split at h
  ·exact⟨_,_,rfl⟩
  ·cases h
 ·cases h
def OZ(x y:Value):Bool:=match x with
 |.int _ a=>(match y with
  |.int _ c=>eqK a c
  |_=>false)
 |.agg ⟨[.int _ a,.int _ c]⟩=>(match y with
  |.agg ⟨[.int _ e,.int _ f]⟩=>bB (eqK a e) (eqK c f) false
  |_=>false)
 |_=>false
def YV(d:TypeDesc):Prop:=(∃k,d=.int k)\/∃l,d=.tuple l
def aj3{d:TypeDesc}(h:agS d j=true):YV d:=by
 cases d<;>first|exact .inl ⟨_,rfl⟩|exact .inr ⟨_,rfl⟩|cases h
def JY{d:TypeDesc}(j:YV d){x y:Value}(b:kD d x)(g:kD d y):OZ x y=true↔x=y:=by
 rcases j with⟨k,rfl⟩|⟨l,rfl⟩
 ·have b:IsKey (.int k) x:=b
  have g:IsKey (.int k) y:=g;cases x<;>simp only[IsKey]at b;cases y<;>simp only[IsKey]at g;subst b g;simp only[OZ,sB,aqQ,Value.int.injEq,true_and]
 ·obtain⟨a,c,rfl⟩:=b
  obtain⟨e,f,rfl⟩:=g;show bB (eqK a e) (eqK c f) false=true↔_;rw[sB,sB];by_cases i:a=e
  ·rw[aqk i,i]
   show decide (c=f)=true↔_;simp
  ·rw[aqn i]
   show false=true↔_;simp[i]
def yV(a:List (Value×CV))(x:Value):Option CV:=List.rec (motive:=λ_=>Option CV) none (λp _ b=>bB (OZ p.1 x) (some p.2) b) a
def aer{R:Type}(a:List (Value×CV))(x:Value)(c:CV):(List (Value×CV)->R)->R:=List.rec (motive:=λ_=>(List (Value×CV)->R)->R) (λk=>k [(x,c)]) (λp l b k=>bB (OZ p.1 x) (k ((p.1,c)::l)) (b λr=>k (p::r))) a
def Fo{d:TypeDesc}(a:YV d){x:Value}(f:kD d x):∀{es:List (Value×CV)},(∀p∈es,kD d p.1)->yV es x=fc es x
 |[],_=>rfl
 |(k,c)::es,h=>by
  show bB (OZ k x) (some c) (yV es x)=_;have b:=JY a (h _ (asK)) f;have j:=Fo a f (es:=es) λp i=>h p (aqU _ i);by_cases e:k=x
  ·rw[b.2 e,fc,apR e];rfl
  ·have:OZ k x=false:=by
    cases g:OZ k x with
    |false=>rfl
    |true=>exact absurd (b.1 g) e
   rw[this,fc,apQ e];exact j
def Wg{R:Type}{d:TypeDesc}(a:YV d){x:Value}{c:CV}(f:kD d x):∀{es:List (Value×CV)} {k:List (Value×CV)->R},(∀p∈es,kD d p.1)->aer es x c k=k (nz es x c)
 |[],k,_=>rfl
 |(y,e)::es,k,h=>by
  show bB (OZ y x) (k ((y,c)::es)) (aer es x c λr=>k ((y,e)::r))=_;have b:=JY a (h _ (asK)) f;rw[Wg a f (es:=es) λp i=>h p (aqU _ i)];by_cases e:y=x
  ·rw[b.2 e,nz,apR e];rfl
  ·have:OZ y x=false:=by
    cases g:OZ y x with
    |false=>rfl
    |true=>exact absurd (b.1 g) e
   rw[this,nz,apQ e];rfl
def Fz.keys{R:a->Value->Prop}{d:TypeDesc}{e:List (Value×a)}{c:vU}(h:Fz R d e c b):∀p∈e,kD d p.1:=λp i=>by
 obtain⟨j,f,rfl⟩:=aqB i;have g:j<c.size:=by rw[h.len];exact f
 rw[<-(h.key j _ _ (ap0 f) (aqA g)).1];exact h.isk _ (by simp)
section
variable{t:Tr CV}{h:Tr cX}{n:Nat}{d:iN}{ty t1 t2:TypeId}{pos:String}{af:dI}{gd:fE}{x y z:Operand}{R:Type}{r:R}
def aj4{R:Type}(c:CV)(k:Value->Option R):Option R:=match c with
 |.v x=>k x
 |.ag [.v a,.v c]=>k (.agg #[a,c])
 |_=>none
def agU{k:Value->Option R}(b:aj4 v k=some r):∃x,(∀ρ a,KR ρ v a->a=x)/\k x=some r:=by
 unfold aj4 at b;split at b
 ·exact⟨_,λρ a c=>c.bN,b⟩
 ·refine⟨_,λρ a c=>?_,b⟩
  obtain⟨f,rfl,e⟩:=c.e9;have:=KR.Rj (us:=[_,_]) e;rw[this]
 ·cases b
def Ro{R:Type}(T:TypeId->bs)(h:Tr cX)(t1:TypeId)(p q:CV)(k:Nat->Value->List (Value×CV)->Value->Bool->Option R):Option R:=oB (T t1).mp λe=>mpK p λj=>aj4 q λx=>bB (agS e.1 x) (blM h j λt2 a wr=>bB (Nat.beq t1 t2) (k j e.2 a x wr) none) none
def JZ(H:gw P T){p q:CV}{k:Nat->Value->List (Value×CV)->Value->Bool->Option R}(V:jT t x p)(W:jT t y q)(I:Ro T h t1 p q k=some r):
 ∃j z f l wr c A v i,k j z f l wr=some r/\P.underlying t1=some (.map A v)/\Pw P A c/\P.info? v=some i/\i.zero=some z/\YV c/\kD c l/\h.get j=some (.ma t1 f wr)/\mapA P t1=some (c,z)/\
  ∀ρ a w N,mJ ρ t a->HR P w0 ρ h.get N w->∃b m o s,a.eval x=.map (some b)/\a.eval y=l/\ρ j=some (b,m)/\w.heap[b]? =some (.map o s)/\Fz (KR ρ) c f o s:=by
 obtain⟨⟨c,z⟩,g,J⟩:=bA I;obtain⟨j,rfl,K⟩:=Rk J;obtain⟨l,S,L⟩:=agU K;obtain⟨B,M⟩:=bg L;obtain⟨t2,f,wr,C,O⟩:=Rl M;obtain⟨e,Q⟩:=bg O;obtain rfl:=ei e;have g:=H.mp _ _ g;obtain⟨A,v,i,p1,p2,p3,p4⟩:=hP g;refine⟨j,z,f,l,wr,c,A,v,i,Q,p1,p2,p3,p4,aj3 B,agT B,C,g,λρ a w N E U=>?_⟩;have F:=V ρ a E;generalize a0:a.eval x=u at F;cases F with
 | @mp _ b m D=>
  obtain⟨Z,z',o,s,G,X,Y⟩:=U.ob _ _ _ _ C D;rw[g]at G;cases G;exact⟨b,m,o,s,rfl,S ρ _ (W ρ a E),D,X,Y⟩
def FK.lookup(X:gw P T){p q:CV}{g:Bool}{k:CV->Option R}(Z:jT t x p)(hy:jT t y q)(Y:(Ro T h t1 p q λj z G J wr=>Option.rec (motive:=λ_=>Option R) (bB g (k (.tu [YT z,.v (.bool false)])) (k (YT z))) (λc=>bB g (k (.tu [c,.v (.bool true)])) (k c)) (yV G J))=some r):
 ∃c,PK P w0 ⟨d,.lookup t1 x y g,ty,pos,af,gd⟩ t h c/\k c=some r:=by
 obtain⟨j,z,G,J,wr,td,kt,et,i,H,p1,p2,p3,p4,p5,K,p7,p8,L⟩:=JZ (P:=P) (w0:=w0) X Z hy Y;have res:∀{ρ:Nm} {w:World} {b m:Nat} {o:vU} {s:Nat},w.heap[b]? =some (.map o s)->Fz (KR ρ) td G o s->
  ∃u,(∀g,(Instr.lookup t1 (.map (some b)) J g).run P w=.ok (if g then .tuple #[u,.bool (yV G J).isSome]else u) w)/\KR ρ ((yV G J).getD (YT z)) u:=λ{ρ w b m o s} S U=>by
  rw[Fo p5 K U.keys];rcases U.find (P:=P) K p2 with⟨M,V,O,_⟩|⟨j,m,c,M,V,O,Q,W,_⟩
  ·refine⟨z,λg=>?_,by rw[O];exact Fh z⟩
   simp[Instr.lookup,aqi p1,aqW S,p2.KQ _ _ _ K,M,zeroValue,typeInfo,p3,p4,O]
  ·refine⟨m.val,λg=>?_,by rw[Q];exact W⟩
   simp[Instr.lookup,aqi p1,aqW S,p2.KQ _ _ _ K,M,Q]
 cases I:yV G J with
 |none=>
  rw[I]at H;change bB g _ _=_ at H;rcases dC H with⟨rfl,D⟩|⟨rfl,D⟩
  ·refine⟨_,λρ a w N F E=>?_,D⟩
   obtain⟨b,m,o,s,v,A,_,B,C⟩:=L ρ a w N F E;obtain⟨u,e,f⟩:=res (m:=m) B C;have e:=e true;rw[I]at e f;have l:=LR.cons f (LR.cons (KR.v (ρ:=ρ) (x:=.bool false)) LR.nil);exact⟨.tuple #[u,.bool false],by simp[execOp,v,A,e],.tu _ l.1 l.2⟩
  ·refine⟨_,λρ a w N F E=>?_,D⟩
   obtain⟨b,m,o,s,v,A,_,B,C⟩:=L ρ a w N F E;obtain⟨u,e,f⟩:=res (m:=m) B C;have e:=e false;rw[I]at e f;exact⟨u,by simp[execOp,v,A,e],f⟩
 |some c=>
  rw[I]at H;change bB g _ _=_ at H;rcases dC H with⟨rfl,D⟩|⟨rfl,D⟩
  ·refine⟨_,λρ a w N F E=>?_,D⟩
   obtain⟨b,m,o,s,v,A,_,B,C⟩:=L ρ a w N F E;obtain⟨u,e,f⟩:=res (m:=m) B C;have e:=e true;rw[I]at e f;have l:=LR.cons f (LR.cons (KR.v (ρ:=ρ) (x:=.bool true)) LR.nil);exact⟨.tuple #[u,.bool true],by simp[execOp,v,A,e],.tu _ l.1 l.2⟩
  ·refine⟨_,λρ a w N F E=>?_,D⟩
   obtain⟨b,m,o,s,v,A,_,B,C⟩:=L ρ a w N F E;obtain⟨u,e,f⟩:=res (m:=m) B C;have e:=e false;rw[I]at e f;exact⟨u,by simp[execOp,v,A,e],f⟩
def HR.Rp{h o:KH}{n:Nat}(c:HR P w0 m h n s){j b a v f:Nat}{u e:vU}{w l:List (Value×CV)}{z:Value}(p:h j=some (.ma t1 w true))(q:m j=some (b,a))(D:mapA P t1=some (C,z))(A:s.heap[b]? =some (.map u v))
 (E:Fz (KR m) C l e f) (B:∀k,o k=if k=j then some (.ma t1 l true)else h k):KP P w0 m h n s m o n {s with heap:=s.heap.setIfInBounds b (.map e f)}:=by
 have i:=asY (o':=.map e f) A;have F:=c.lo _ _ _ _ p q;exact c.set _ p q rfl rfl B ⟨⟨c.ext.os,c.ext.tape,c.ext.output,by simp;exact c.ext.size,λk g=>by rw[i.2 k (by omega)];exact c.ext.bS k g⟩,c.ext.drawn⟩ (by simp) (λk g=>i.2 k g) ⟨C,z,e,f,D,i.1,E⟩
def FK.aes(Q:gw P T){A:Op}(Z:A=.mapUpdate t1 x y z\/A=.insert t1 x y z){p q c:CV}{k:CV->Tr cX->Nat->Option R}(hx:jT t x p)(hy:jT t y q)(hz:jT t z c)(V:(Ro T h t1 p q λj _ g F wr=>bB wr (aer g F c λo=>Tr.put (.ma t1 o true) h j λe=>k (.v undef) e n) none)=some r):
 ∃c e v,FK P Dk w0 ⟨d,A,ty,pos,af,gd⟩ t h n c e v/\k c e v=some r:=by
 obtain⟨j,zv,g,F,wr,td,kt,et,i,W,p1,p2,p3,p4,p5,L,p7,p8,M⟩:=JZ (P:=P) (w0:=w0) Q hx hy V;obtain⟨rfl,D⟩:=bg W;by_cases K:∀p∈g,kD td p.1
 ·rw[Wg p5 L K]at D
  obtain⟨e,E,_,J⟩:=Tr.mv D;refine⟨_,e,n,λρ a w u s=>?_,E⟩;obtain⟨b,m,N,O,G,H,I,B,C⟩:=M ρ a w n u s;obtain⟨a1,a2,a0,Y⟩:=Fz.put (P:=P) C (λ_ _ h=>h) L p1 p2 (hz ρ a u) B;refine .skip ?_ ⟨ρ,s.Rp p7 I p8 B Y J,.v⟩;rcases Z with rfl|rfl<;>simp[execOp,G,H,a0]
 ·have S:∀{c:CV} {e:Tr cX} {v:Nat},FK P Dk w0 ⟨d,A,ty,pos,af,gd⟩ t h n c e v:=λρ a w u s=>by
   obtain⟨b,m,N,O,G,H,I,B,C⟩:=M ρ a w n u s;exact absurd C.keys K
  have:∀{g:List (Value×CV)} {f:List (Value×CV)->Option R},aer g F c f=some r->∃o,f o=some r:=by
   intro g
   induction g with
   |nil=>intro f l;exact⟨_,l⟩
   |cons p g ih=>
    intro f l;rcases dC l with⟨_,l⟩|⟨_,l⟩
    ·exact⟨_,l⟩
    ·obtain⟨o,U⟩:=ih l
     exact⟨_,U⟩
  obtain⟨o,E⟩:=this D;obtain⟨e,X,_,J⟩:=Tr.mv E;exact⟨_,e,n,S,X⟩
def qa(a:List (Value×CV))(x:Value):bU:=List.rec (motive:=λ_=>bU) none (λp _ b=>bB (OZ p.1 x) (some 0) (Option.rec (motive:=λ_=>bU) none (λi=>some (Nat.succ i)) b)) a
def HY{d:TypeDesc}(f:YV d){x:Value}(j:kD d x):∀{es:List (Value×CV)} {i:Nat},(∀p∈es,kD d p.1)->qa es x=some i->∃c,es[i]? =some (x,c)/\fc es x=some c
 |[],i,_,h=>by cases h
 |(k,c)::es,i,h,a=>by
  change bB (OZ k x) (some 0) (Option.rec (motive:=λ_=>bU) none (λi=>some (Nat.succ i)) (qa es x))=some i at a;have g:=JY f (h _ (asK)) j;by_cases e:k=x
  ·rw[g.2 e]at a
   cases a;exact⟨c,by rw[e];rfl,by rw[fc,apR e]⟩
  ·have:OZ k x=false:=by
    cases q:OZ k x with
    |false=>rfl
    |true=>exact absurd (g.1 q) e
   rw[this]at a;cases b:qa es x with
   |none=>rw[b]at a;cases a
   |some s=>
    rw[b]at a;cases a;obtain⟨l,m,o⟩:=HY f j (es:=es) (λp a=>h p (aqU _ a)) b;exact⟨l,m,by rw[fc,apQ e];exact o⟩
def Rq{o:Obj}(h:s.heap[b]? =some o):({s with heap:=s.heap.setIfInBounds b o}:World)=s:=by
 have:s.heap.setIfInBounds b o=s.heap:=by
  apply Array.ext (by simp);intro i a c;rw[Array.getElem_setIfInBounds (by simpa using a)];split
  ·rename_i e
   subst e;exact(aqx.1 h).2.symm
  ·rfl
 rw[this]
def FK.mapEntry(hT:gw P T){p q:CV}{k:CV->Tr cX->Nat->Option R}(hx:jT t x p)(hy:jT t y q)(hk:(Ro T h t1 p q λj z f g wr=>Option.rec (motive:=λ_=>Option R)
 (bB wr (Tr.put (.ma t1 (f++[(g,YT z)]) true) h j λG=>kN f.length λm=>k (.tu [YT z,.v (.int .i64 (Int.ofNat m))]) G n) none)
 (λi=>oB (f[i]?) λe=>k (.tu [e.2,.v (.int .i64 (Int.ofNat i))]) h n) (qa f g))=some r):
 ∃c G n',FK P Dk w0 ⟨d,.mapEntry t1 x y,ty,pos,af,gd⟩ t h n c G n'/\k c G n'=some r:=by
 obtain⟨j,z,f,g,wr,td,kt,et,i,L,p1,p2,p3,p4,p5,B,p7,p8,p9⟩:=JZ (P:=P) (w0:=w0) hT hx hy hk;cases M:qa f g with
 |none=>
  rw[M]at L;obtain⟨rfl,V⟩:=bg L;obtain⟨G,a2,_,hh⟩:=Tr.mv V;rw[fC]at a2;refine⟨_,G,n,λρ a w X O=>?_,a2⟩;obtain⟨b,m,C,D,S,U,e3,s,o⟩:=p9 ρ a w n X O;rcases o.find (P:=P) B p2 with⟨E,A,F,I⟩|⟨u,Q,c,E,A,F,I,f5,J,_⟩
  ·obtain⟨Y,Z,a5,a3⟩:=Fz.put (P:=P) o (λ_ _ h=>h) B p1 p2 (Fh (ρ:=ρ) z) s
   rw[I]at a3;have ab:(Instr.mapUpdate t1 (.map (some b)) g z).run P w=.ok () {w with heap:=w.heap.setIfInBounds b (.map (C.push {key:=g,val:=z,born:=D}) (D+1))}:=by
    simp[Instr.mapUpdate,aqi p1,aqW s,p2.KQ _ _ _ B,E,arl _ s,Result.andThen]
   rw[ab]at a5;have hw:({w with heap:=w.heap.setIfInBounds b (.map (C.push {key:=g,val:=z,born:=D}) (D+1))}:World)={w with heap:=w.heap.setIfInBounds b (.map Y Z)}:=by
    injection a5
   have ae:=asY (o':=.map Y Z) s;have l:=LR.cons (Fh (ρ:=ρ) z) (LR.cons (KR.v (ρ:=ρ) (x:=.int .i64 (Int.ofNat f.length))) LR.nil);refine .value (v:=.tuple #[z,.int .i64 (Int.ofNat f.length)]) ?_ ⟨ρ,O.Rp p7 e3 p8 s a3 hh,.tu _ l.1 l.2⟩;rw[<-hw];have a7:D=f.length:=by rw[o.clk,o.len]
   simp[execOp,S,U,Instr.mapEntry,aqi p1,aqW s,p2.KQ _ _ _ B,E,arl _ s,zeroValue,typeInfo,p3,p4,goInt,a7]
  ·exfalso
   have hl:=Fo p5 B o.keys;have:∀{f:List (Value×CV)},qa f g=none->yV f g=none:=by
    intro f
    induction f with
    |nil=>intro _;rfl
    |cons p f ih=>
     intro H;change bB (OZ p.1 g) (some 0) (Option.rec (motive:=λ_=>bU) none (λi=>some (Nat.succ i)) (qa f g))=none at H;change bB (OZ p.1 g) (some p.2) (yV f g)=none;cases hb:OZ p.1 g with
     |true=>rw[hb]at H;cases H
     |false=>
      rw[hb]at H;cases N:qa f g with
      |none=>exact ih N
      |some i=>rw[N]at H;cases H
   rw[this M,I]at hl;cases hl
 |some q=>
  rw[M]at L;obtain⟨⟨ag,c⟩,K,V⟩:=bA L;refine⟨_,h,n,.pure λρ a w X O=>?_,V⟩;obtain⟨b,m,C,D,S,U,e3,s,o⟩:=p9 ρ a w n X O;obtain⟨c',g1,g2⟩:=HY p5 B o.keys M;rw[K]at g1;cases g1;rcases o.find (P:=P) B p2 with⟨E,A,F,I⟩|⟨u,Q,c2,E,A,F,I,f5,J,_⟩
  ·rw[F]at g2;cases g2
  ·have N:u=q:=by
    have k1:=(o.key u _ Q J A).1;have W:q<C.size:=by rw[o.len];exact(apV.1 K).1
    have k2:=(o.key q _ _ K (aqA W)).1;have ad:=((at3 C D).1 o.jV).2.2;have a4:=atk.1 ad;have a0:=(aqx.1 A).1;have a1:=(aqx.1 A).2;rcases arx u q with a9|heq|a8
    ·have:=a4 u q (by simpa using a0) (by simpa using W) a9
     simp only[asX]at this;rw[a1,k1,k2]at this;exact absurd rfl this
    ·exact heq
    ·have:=a4 q u (by simpa using W) (by simpa using a0) a8
     simp only[asX]at this;rw[a1,k1,k2]at this;exact absurd rfl this
   subst N;rw[K]at J;cases J;have l:=LR.cons f5 (LR.cons (KR.v (ρ:=ρ) (x:=.int .i64 (Int.ofNat u))) LR.nil);refine⟨.tuple #[Q.val,.int .i64 (Int.ofNat u)],?_,.tu _ l.1 l.2⟩;have a6:=o.Pe _ _ A;have aa:(C.modify u λe=>{e with key:=g})=C:=by
    apply Array.ext (by simp);intro i h1 h2;rw[atl];split
    ·rename_i e
     subst e;have:C[u]=Q:=(aqx.1 A).2;rw[this,<-F]
    ·rfl
   have ac:=Rq s;simp[execOp,S,U,Instr.mapEntry,aqi p1,aqW s,p2.KQ _ _ _ B,E,A,F,p2.stay _ _ B,arl _ s,goInt,a6,aa,ac]
def FK.entryStore(S:gw P T){p q c:CV}{k:CV->Tr cX->Nat->Option R}(hx:jT t x p)(hy:jT t y q)(hz:jT t z c)(X:(oB (T t1).mp λ_=>mpK p λj=>tX q λi=>blM h j λt2 s wr=>bB wr (bB (Nat.beq t1 t2) (oB (s[i]?) λe=>Tr.put (.ma t1 (s.set i (e.1,c)) true) h j λo=>k (.v undef) o n) none) none)=some r):
 ∃c o N,FK P Dk w0 ⟨d,.entryStore t1 x y z,ty,pos,af,gd⟩ t h n c o N/\k c o N=some r:=by
 obtain⟨⟨td,zv⟩,H,Y⟩:=bA X;obtain⟨j,rfl,Z⟩:=Rk Y;obtain⟨ki,i,rfl,a0⟩:=lN Z;obtain⟨t2,s,wr,G,a1⟩:=Rl a0;obtain⟨rfl,a2⟩:=bg a1;obtain⟨e,a3⟩:=bg a2;obtain rfl:=ei e;obtain⟨⟨kv,c0⟩,C,a4⟩:=bA a3;obtain⟨o,a5,_,W⟩:=Tr.mv a4;have H:=S.mp _ _ H;refine⟨_,o,n,λρ a w E K=>?_,a5⟩;have L:=hx ρ a E;have M:=(hy ρ a E).bN;have a9:=hz ρ a E;generalize U:a.eval x=u at L;cases L with
 | @mp _ b m J=>
  obtain⟨Q,z',l,O,m1,F,g⟩:=K.ob _ _ _ _ G J;have v:i<l.size:=by rw[g.len];exact(apV.1 C).1
  have V:l.findIdx? (λe=>(e.born:Int)==(i:Int))=some i:=by
   rw[auQ];refine⟨v,?_,λq I=>?_⟩
   ·rw[g.Pe i _ (aqA v)];simp
   ·rw[g.Pe q _ (aqA (by omega))];simp;omega
  have a8:Fz (KR ρ) Q (s.set i (kv,c)) (l.modify i λe=>{e with val:=a.eval z}) O:=by
   refine⟨by simp[g.len],λq x' B A f=>?_,λB f=>?_,at4 g.jV _ _ (λ_ _=>rfl) (λ_ _ _=>rfl),λq B f=>?_,by rw[g.clk];simp⟩
   ·rw[arB]at f
    by_cases D:i=q
    ·subst D
     rw[apR rfl,aqA v]at f;have a6:i<s.length:=(apV.1 C).1;simp[a6]at A f;subst A f;exact⟨(g.key i _ _ C (aqA v)).1,a9⟩
    ·rw[apQ D]at f
     rw[atm D]at A;exact g.key q x' B A f
   ·obtain⟨q,I,rfl⟩:=aqB f
    have aa:q<l.size:=by simpa using I
    rw[asX,atl];split
    ·exact g.isk l[q] (by simp)
    ·exact g.isk l[q] (by simp)
   ·rw[arB]at f
    split at f
    ·obtain⟨m0,a7,rfl⟩:=aqo.1 f
     exact g.Pe q m0 a7
    ·exact g.Pe q B f
  refine .skip ?_ ⟨ρ,K.Rp G J m1 F a8 W,.v⟩;simp only[atD]at M;simp[execOp,U,M,Instr.entryStore,aqW F,asInt,asIntOf,V,arl _ F]
end
end
end
section
open Go Go.RowKit MapKept
abbrev KK(R:Type):=Tr CV->Tr cX->Nat->Option R
abbrev KO(R:Type):=Tr CV->Tr cX->Nat->(CV->Tr cX->Nat->Option R)->Option R
abbrev KC(R:Type):=FuncId->List CV->Tr cX->Nat->(CV->Tr cX->Nat->Option R)->Option R
section
variable(T:TypeId->bs){R:Type}
def Bq(x:Operand):KO R:=λt h n k=>dW t x λc=>k c h n
def Wh(z x y:Operand):KO R:=λt h n k=>dW t z λa=>dW t x λc=>dW t y λd=>asB a λb=>bB b (k c h n) (k d h n)
def aj5(c:TypeId):KO R:=λ_ h n k=>oB (T c).ze λz=>bB (mw (z.map .v)) (yU h n (.ce (trL (z.map .v)) z.length none true) λa b=>k (.pt n 0) a b) none
def agV(d:TypeId)(x:Operand):KO R:=λt h n k=>dW t x λa=>sE a λl=>aem h n l λi b c=>k (.pt i 0) b c
def J0(d:TypeId)(b:CI):KO R:=λt h n k=>oB (T d).pl λp=>kx t b.toList λc=>oB (gv (λi=>p.2[i]?) (p.1.map .v) c) λa=>k (.ag a) h n
def nc(j:TypeId)(a:Nat)(f:CI):KO R:=λt h n k=>oB (T j).el λe=>bB (Nat.ble (Nat.mul a e.2.1) 16777216) (kx t f.toList λg=>oB (gv (λi=>some (i*e.2.1,e.2.1)) (List.replicate (Nat.mul a e.2.1) (.v undef)) g) λb=>aem h n b λi c d=>k (.sl i 0 a (some a)) c d) none
def O0(a:TypeId)(x y z:Operand):KO R:=λt h n k=>dW t x λp=>dW t y λq=>dW t z λc=>Ro T h a p q λj _ b f wr=>bB wr (aer b f c λd=>Tr.put (.ma a d true) h j λe=>k (.v undef) e n) none
def Wi(a:TypeId)(x:Operand):KO R:=λt h n k=>dW t x λp=>aed T h a p λc=>k c h n
def J1(b:TypeId)(x y:Operand):KO R:=λt h n k=>dW t x λp=>dW t y λq=>oB (T b).ty λe=>ptA p λj o=>sE q λl=>bB (Nat.beq l.length e.2) (wrK h j o l λa=>k (.v undef) a n) none
def agW(x:Operand):KO R:=λt h n k=>dW t x λc=>bB (nnK c) (k c h n) none
def agX(d:BinOp)(e:TypeId)(x y:Operand):KO R:=λt h n k=>dW t x λa=>dW t y λb=>aej T d e (isC y) a b λc=>k c h n
def oUn(b:UnOp)(d:TypeId)(x:Operand):KO R:=λt h n k=>dW t x λa=>unK b a λc=>k c h n
def Wj(c d:TypeId)(x:Operand):KO R:=λt h n k=>dW t x λa=>oB (T c).ik λ_=>oB (T d).ik λb=>asI a λ_ m=>wrI b m λz=>k (.v (.int b z)) h n
def Wl(b:Fn)(c a:fU):KO R:=λt h n k=>pX t c.toList λd=>pX t a.toList λe=>k (.cl b d e) h n
def aoO(a:TypeId)(r:iL):KO R:=λ_ h n k=>bB r.isNone (oB (T a).mp λ_=>yU h n (.ma a [] true) λb c=>k (.mp n) b c) none
def Wm(d:TypeId)(x y:Operand):KO R:=λt h n k=>dW t x λp=>dW t y λq=>oB (T d).el λe=>tX p λm=>tX q λb=>bB (Nat.beq m b) (bB (Nat.ble (Nat.mul e.2.2.1 m) 140737488355328) (bB (Nat.ble m 1048576) (bB (Nat.blt 0 e.2.1) (bB (mw (e.2.2.2.map .v)) (yU h n (.ce (Fk e.2.2.2 m) (Nat.mul m e.2.1) none true) λa c=>k (.sl n 0 m (some m)) a c) none) none) none) none) none
def J2(f:TypeId)(x:Operand)(d b e:iL):KO R:=λt h n k=>dW t x λa=>sF T t f a d b e λc=>k c h n
def oFA(a:TypeId)(x:Operand)(f:Nat):KO R:=λt h n k=>dW t x λp=>oB (T a).fd[f]? λq=>bB (Nat.beq q.2.2 0) none (ptK p q.1 λc=>k c h n)
def oF(b:TypeId)(x:Operand)(f:Nat):KO R:=λt h n k=>dW t x λp=>agK p λa=>oB (T b).fd[f]? λq=>bB (Nat.ble (Nat.add q.1 q.2.2) a.length) (bB q.2.1 (k (.ag ((a.drop q.1).take q.2.2)) h n) (oB (a[q.1]?) λc=>k c h n)) none
def oIA(a:TypeId)(x y:Operand):KO R:=λt h n k=>dW t x λp=>dW t y λq=>tX q λi=>Ri T a p i λc=>k c h n
def oI(a:TypeId)(x y:Operand):KO R:=λt h n k=>dW t x λp=>dW t y λq=>bB (T a).sg (tX q λi=>agJ p λs=>oB (s.data.toList[i]?) λb=>kN b.toNat λm=>k (.v (.int .u8 (Int.ofNat m))) h n) none
def Wn(e:TypeId)(x y:Operand)(a:Bool):KO R:=λt h n k=>dW t x λp=>dW t y λq=>Ro T h e p q λj z b d wr=>Option.rec (motive:=λ_=>Option R) (bB a (k (.tu [YT z,.v (.bool false)]) h n) (k (YT z) h n)) (λc=>bB a (k (.tu [c,.v (.bool true)]) h n) (k c h n)) (yV b d)
def J3(c:TypeId)(x y:Operand):KO R:=λt h n k=>dW t x λp=>dW t y λq=>Ro T h c p q λj z a b wr=>Option.rec (motive:=λ_=>Option R)
 (bB wr (Tr.put (.ma c (a++[(b,YT z)]) true) h j λd=>kN a.length λm=>k (.tu [YT z,.v (.int .i64 (Int.ofNat m))]) d n) none)
 (λi=>oB (a[i]?) λe=>k (.tu [e.2,.v (.int .i64 (Int.ofNat i))]) h n) (qa a b)
def yW(a:TypeId)(x y z:Operand):KO R:=λt h n k=>dW t x λp=>dW t y λq=>dW t z λc=>oB (T a).mp λ_=>mpK p λj=>tX q λi=>blM h j λf b wr=>bB wr (bB (Nat.beq a f) (oB (b[i]?) λe=>Tr.put (.ma a (b.set i (e.1,c)) true) h j λd=>k (.v undef) d n) none) none
def oTA(a:TypeId)(x:Operand)(b:Bool):KO R:=λt h n k=>dW t x λc=>match c with
 |.v .nilIface=>bB b (oB (T a).fd[0]? λ_=>oB (T a).zv λz=>k (.tu [YT z,.v (.bool false)]) h n) none
 |_=>none
def agY(x:Operand)(i:Nat):KO R:=λt h n k=>dW t x λp=>tuK p λa=>oB (a[i]?) λc=>k c h n
def clK{R:Type}(c:CV)(k:FuncId->List CV->List CV->Option R):Option R:=match c with
 |.v (.func (.func f) ⟨[]⟩ ⟨[]⟩)=>k f [] []
 |.cl (.func f) b a=>k f b a
 |_=>none
def FZ{R:Type}(t:Tr CV)(l:mL)(k:CV->Option R):Option R:=match l with
 |[x]=>dW t x k
 |_=>none
def F0{R:Type}(t:Tr CV)(l:mL)(k:CV->CV->Option R):Option R:=match l with
 |[x,y]=>dW t x λa=>dW t y λb=>k a b
 |_=>none
def my(b:Builtin)(d:mL)(f:List TypeId):KO R:=λt h n k=>match b with
 |.len=>FZ t d λc=>amV T h f c λc=>k c h n
 |.cap=>FZ t d λc=>amW T f c λc=>k c h n
 |.append=>(match f with
  |[g,i]=>F0 t d λa b=>Wf T h n g i a b k
  |_=>none)
 |.min=>F0 t d λa c=>asI a λe m=>asI c λ_ q=>bB (ltK q m) (k (.v (.int e q)) h n) (k (.v (.int e m)) h n)
 |.max=>F0 t d λa c=>asI a λe m=>asI c λ_ q=>bB (ltK m q) (k (.v (.int e q)) h n) (k (.v (.int e m)) h n)
 |.clear=>(match f with
  |[g]=>FZ t d λc=>aeq T h n g c k
  |_=>none)
 |_=>none
def agZ(call:KC R)(c:Callee)(a:mL)(d:List TypeId):KO R:=λt h n k=>match c with
 |.value x=>dW t x λf=>pX t a λcs=>clK f λg e xs=>call g (e++cs++xs) h n k
 |.builtin b=>my T b a d t h n k
 |_=>none
def am0(call:KC R)(c:Call):KO R:=agZ T call c.callee c.args.toList c.argTypes.toList
def Fp(ID:FuncId->Bool)(c:Call):KO R:=λt h n k=>bB c.args.isEmpty (match c.callee with
 |.value x=>dW t x λf=>clK f λg a b=>bB (ID g) (bB a.isEmpty (k (.v undef) h n) none) none
 |_=>none) none
def YW:KO R:=λ_ _ _ _=>none
def opK(ID:FuncId->Bool)(call:KC R)(o:Op):KO R:=Op.rec (motive:=λ_=>KO R) (Bq) (Bq) (Wh) (aj5 T) (agV) (J0 T) (nc T) (O0 T) (Wi T) (J1 T) (λ_=>YW) (λ_=>YW) (agW)
 (λb c x y _=>agX T b c x y) (oUn) (Wj T) (λ_ _=>YW) (λ_ _=>YW) (Wl) (aoO T) (λ_ _=>YW) (Wm T) (J2 T) (oFA T) (oF T) (oIA T) (oI T) (Wn T) (O0 T) (J3 T) (yW T)
 (λ_ _=>YW) (λ_ _=>YW) (λ_=>YW) (λx _ d a=>oTA T d x a) (agY) (am0 T call) (λ_=>YW) (Fp ID) (λ_=>YW) (λ_ _=>YW) (λ_ _ _=>YW) (λ_ _=>YW) o
def oM(a:bp)(j:Nat):iN:=(a[j]?).bind (·.dst)
def aj7(d:iN)(c:CV)(t:Tr CV)(k:Tr CV->Option R):Option R:=Option.rec (motive:=λ_=>Option R) (k t) (λi=>Tr.put c t i k) d
def HZ(a:bp)(g:fE)(t:Tr CV)(y n:Option R):Option R:=Option.rec (motive:=λ_=>Option R) y (λp=>oB (oM a p.1) λs=>oB (t.get s) λc=>match c with
 |.v (.bool b)=>bB (bB b p.2 (!p.2)) y n
 |.v (.tuple ⟨[]⟩)=>n
 |_=>none) g
variable(ID:FuncId->Bool)(call:KC R)
def Wo(e:bp)(o:Oper)(k:KK R):KK R:=λt h n=>HZ e o.guard t (opK T ID call o.op t h n λc b d=>aj7 o.dst c t λa=>k a b d) (aj7 o.dst (.v undef) t λa=>k a h n)
def YX(b l:bp):KK R->KK R:=List.rec (motive:=λ_=>KK R->KK R) (λk=>k) (λo _ a k=>Wo T ID call b o (a k)) l
def eZ:Op->Nat
 |.move _|.assign _|.pick .. |.alloc _|.box .. |.build .. |.buildSlice .. |.nilCheck _|.binOp .. |.unOp .. |.convert .. |.makeFunc .. |.makeMap .. |.makeSlice .. |.slice .. |.fieldAddr .. |.field .. |.indexAddr .. |.index .. |.extract .. =>0
 |.load .. |.lookup .. =>1
 |.call {callee:=.builtin .len,.. }=>1
 |.call {callee:=.builtin .cap,.. }=>0
 |.call {callee:=.builtin .min,.. }=>0
 |.call {callee:=.builtin .max,.. }=>0
 |_=>2
def tmpsOf(o:Oper):List Tmp:=o.op.operands.toList.filterMap λ|.tmp t=>some t|_=>none
def nN(l:bp)(i j:Nat):Bool:=ee l j i||ee l i j
def Fq(l:bp):bH:=(List.range l.length).flatMap λi=>(List.range l.length).filterMap λj=>match l[i]?,l[j]? with
 |some o,some p=>if Nat.beq (eZ o.op) 1 && Nat.beq (eZ p.op) 2 && !nN l i j then some (i,j)else none
 |_,_=>none
def aj8(l:bp):Bool:=
 let I:=List.range l.length
 KJ 0 l && Ak l &&
 (I.all λj=>match l[j]? with
  |some o=>(tmpsOf o).all (λx=>I.all λi=>match l[i]? with
   |some p=> !(p.dst==some x)||Nat.beq i j||nN l i j
   |none=>true) && (match o.guard with|some g=>ee l j g.1 && !Nat.beq g.1 j|none=>true)
  |none=>true) &&
 (I.all λj=>I.all λi=>match l[i]?,l[j]? with
  |some o,some p=> !(Nat.beq (eZ o.op) 2 && Nat.beq (eZ p.op) 2)||Nat.beq i j||nN l i j
  |_,_=>true) &&
 ((Fq l).all λq=>match l[q.1]? with
  |some o=>(tmpsOf o).all (λx=>I.all λi=>match l[i]? with
   |some p=> !(p.dst==some x)||(ee l q.1 i && !Nat.beq i q.1)
   |none=>true)
  |none=>true)
def vEq(x y:Value):Bool:=match x,y with
 |.int j a,.int k c=>decide (j=k) && eqK a c
 |.bool a,.bool c=>a==c
 |.pointer none,.pointer none=>true
 |.slice none 0 0,.slice none 0 0=>true
 |.map none,.map none=>true
 |.nilFunc,.nilFunc=>true
 |.nilIface,.nilIface=>true
 |.func (.func f) ⟨[]⟩ ⟨[]⟩,.func (.func g) ⟨[]⟩ ⟨[]⟩=>Nat.beq f g
 |_,_=>false
def aet(a b:CV):Bool:=match a,b with
 |.v x,.v y=>vEq x y
 |.pt i o,.pt j p=>Nat.beq i j && Nat.beq o p
 |.sl i o m c,.sl j p q d=>Nat.beq i j && Nat.beq o p && Nat.beq m q && decide (c=d)
 |.mp i,.mp j=>Nat.beq i j
 |_,_=>false
def Rr:List CV->List CV->Bool
 |[],[]=>true
 |a::l,b::m=>aet a b && Rr l m
 |_,_=>false
def cEq(a b:CV):Bool:=match a,b with
 |.ag l,.ag m=>Rr l m
 |.tu l,.tu m=>Rr l m
 |.cl (.func f) l k,.cl (.func g) m j=>Nat.beq f g && Rr l m && Rr k j
 |a,b=>aet a b
abbrev Acc:=List (Nat×(Nat×Tr cX)×(Nat×Tr cX))
def aeu:Tr CV->Tr CV->Bool
 |.lf,.lf=>true
 |.nd l x r,.nd c e d=>aeu l c && (match x,e with
  |none,none=>true
  |some a,some b=>aet a b
  |_,_=>false) && aeu r d
 |_,_=>false
def ag0:Option cX->Option cX->Bool
 |some (.ce b m e w),some (.ce c f d a)=>aeu b c && Nat.beq m f && decide (e=d) && (w==a)
 |some (.ma t [] w),some (.ma g [] a)=>Nat.beq t g && (w==a)
 |_,_=>false
def aev(l:bp):bH:=(List.range l.length).flatMap λi=>(List.range l.length).filterMap λj=>match l[i]?,l[j]? with
 |some o,some p=>if Nat.beq (eZ o.op) 0 && Nat.beq (eZ p.op) 2 && Nat.blt i j && !ee l j i then some (i,j)else none
 |_,_=>none
def sameAt(b:bp)(o:Oper)(t:Tr CV)(n:Nat)(h:Tr cX)(k:Option R):Option R:=HZ b o.guard t (oB o.dst λd=>oB (t.get d) λa=>opK T ID call o.op t h n λc _ _=>bB (cEq c a) k none) k
def am3(a:bp)(c:Acc)(t:Tr CV)(n:Nat)(f:bH)(k:Option R):Option R:=List.rec (motive:=λ_=>Option R) k (λp _ d=>oB (a[p.1]?) λo=>List.rec (motive:=λ_=>Option R) d (λe _ b=>bB (Nat.beq e.1 p.2) (sameAt T ID call a o t n e.2.1.2 (sameAt T ID call a o t n e.2.2.2 b)) b) c) f
def H2(n:Nat):CV->Bool
 |.v _=>true
 |.gl .. =>true
 |.pt k _=>Nat.blt k n
 |.sl k .. =>Nat.blt k n
 |.mp k=>Nat.blt k n
 |_=>false
def aj9(n:Nat):CV->Bool
 |.ag l=>l.all (H2 n)
 |.tu l=>l.all (H2 n)
 |.cl _ l k=>l.all (H2 n) && k.all (H2 n)
 |c=>H2 n c
def aoQ(b:bp)(a:Acc)(t:Tr CV)(f:bH):Bool:=a.all λe=>Nat.ble e.2.1.1 e.2.2.1 && f.all λp=> !(Nat.beq e.1 p.1)||match oM b p.1 with
 |some d=>(match t.get d with
  |some c=>aj9 e.2.1.1 c
  |none=>false)
 |none=>true
def aoR(a:Acc)(b:bH):Bool:=b.all λp=>a.all λe=> !(Nat.beq e.1 p.1)||Nat.beq e.2.1.1 e.2.2.1||a.all λf=> !(Nat.beq f.1 p.2)||ag0 (e.2.2.2.get e.2.1.1) (f.2.2.2.get e.2.1.1)
def am4(e l:bp):Nat->Acc->(Acc->KK R)->KK R:=List.rec (motive:=λ_=>Nat->Acc->(Acc->KK R)->KK R) (λ_ a k=>k a)
 (λo _ d i a k=>λt h n=>Wo T ID call e o (λf b c=>d (Nat.succ i) ((i,(n,h),(c,b))::a) k f b c) t h n) l
def Wp(a:bp)(k:KK R):KK R:=λt h n=>bB (aj8 a) (am4 T ID call a a 0 [] (λb c e d=>bB (aoR b (aev a) && aoQ a b c (Fq a)) (am3 T ID call a b c d (Fq a) (k c e d)) none) t h n) none
def aew(N:Nat)(b:KK R->(Nat->KK R)->KK R->KK R)(d:Nat->KK R)(c:KK R):KK R:=Nat.rec (motive:=λ_=>KK R) (λ_ _ _=>none) (λ_ a=>b a d c) N
def O1(N:Nat)(c:Code):KK R->(Nat->KK R)->KK R->KK R:=Code.rec (motive:=λ_=>KK R->(Nat->KK R)->KK R->KK R)
 (λa _ _=>a)
 (λ_ g j a _ _=>bB j (Wp T ID call g.toList a) (YX T ID call g.toList g.toList a))
 (λ_ _ f e a d b=>f (e a d b) d b)
 (λc _ _ f e a d b=>λt h n=>dW t c λv=>asB v λx=>bB x (f a d b t h n) (e a d b t h n))
 (λid _ e a d b=>e a (λi=>bB (Nat.beq i id) a (d i)) b)
 (λ_ e _ d b=>aew N e d b)
 (λ_ _ _ _ _ _ _ _ _=>λ_ _ _=>none)
 (λid _ d _=>d id)
 (λ_ e=>e)
 (λ_ a _ _=>a)
 (λ_ _ _ _=>λ_ _ _=>none)
 (λ_ _ b=>b)
 (λ_ _ _ _=>λ_ _ _=>none) c
end
def am5{R:Type}(l:List CV):Nat->Tr CV->(Tr CV->Option R)->Option R:=List.rec (motive:=λ_=>Nat->Tr CV->(Tr CV->Option R)->Option R) (λ_ t k=>k t) (λc _ a i t k=>Tr.put c t i λb=>a (Nat.succ i) b k) l
def aj_{R:Type}(T:TypeId->bs)(h:Tr cX)(t:Tr CV)(e:List ResultVar):(List CV->Option R)->Option R:=List.rec (motive:=λ_=>(List CV->Option R)->Option R) (λk=>k [])
 (λv _ d k=>ResultVar.rec (motive:=λ_=>Option R) (λi=>oB (t.get i) λc=>d λb=>k (c::b)) (λa f=>oB (t.get a) λp=>aed T h f p λc=>d λb=>k (c::b)) v) e
def YY:List CV->CV
 |[c]=>c
 |a=>.tu a
def atL(l:List a):Nat->Option a:=List.rec (motive:=λ_=>Nat->Option a) (λ_=>none) (λx _ b i=>Nat.rec (motive:=λ_=>Option a) (some x) (λj _=>b j) i) l
abbrev Rs(R α:Type):=α->Tr cX->Nat->Tr Nat->Tr Nat->Option R
def snL{R:Type}(f:CV->Tr cX->Nat->Tr Nat->Tr Nat->Rs R CV->Option R)(l:List CV):Tr cX->Nat->Tr Nat->Tr Nat->Rs R (List CV)->Option R:=
 List.rec (motive:=λ_=>Tr cX->Nat->Tr Nat->Tr Nat->Rs R (List CV)->Option R) (λd n m b k=>k [] d n m b) (λc _ e d n m b k=>f c d n m b λa d n m b=>e d n m b λl d n m b=>k (a::l) d n m b) l
def snT{R:Type}(f:CV->Tr cX->Nat->Tr Nat->Tr Nat->Rs R CV->Option R)(l:Tr CV):Tr cX->Nat->Tr Nat->Tr Nat->Rs R (Tr CV)->Option R:=
 Tr.rec (motive:=λ_=>Tr cX->Nat->Tr Nat->Tr Nat->Rs R (Tr CV)->Option R) (λd n m b k=>k .lf d n m b)
  (λ_ x _ i e d n m b k=>i d n m b λg d n m b=>Option.rec (motive:=λ_=>Option R) (e d n m b λa d n m b=>k (.nd g none a) d n m b) (λc=>f c d n m b λh d n m b=>e d n m b λa d n m b=>k (.nd g (some h) a) d n m b) x) l
def ag1{R:Type}(q:Tr cX)(l:Bool)(f:CV->Tr cX->Nat->Tr Nat->Tr Nat->Rs R CV->Option R)(j:Nat):Tr cX->Nat->Tr Nat->Tr Nat->Rs R Nat->Option R:=λd n m b k=>
 Option.rec (motive:=λ_=>Option R) (blC q j λc N e wr=>snT f c d n m b λg d n m b=>bB (m.get j).isNone (Tr.new (some (.ce g N e (bB l false wr))) 64 d n λh=>Tr.new (some n) 64 m j λo=>Tr.new (some j) 64 b n λa=>kN (Nat.succ n) λp=>k n h p o a) none) (λi=>k i d n m b) (m.get j)
def snC{R:Type}(l:Tr cX)(h:Bool)(N:Nat):CV->Tr cX->Nat->Tr Nat->Tr Nat->Rs R CV->Option R:=Nat.rec (motive:=λ_=>CV->Tr cX->Nat->Tr Nat->Tr Nat->Rs R CV->Option R) (λ_ _ _ _ _ _=>none)
 (λ_ a c d n m b k=>match c with
  |.v (.int t z)=>kI z λz=>k (.v (.int t z)) d n m b
  |.v x=>k (.v x) d n m b
  |.gl g o=>k (.gl g o) d n m b
  |.pt j o=>ag1 l h a j d n m b λi d n m b=>kN o λo=>k (.pt i o) d n m b
  |.sl j o q c=>ag1 l h a j d n m b λi d n m b=>kN o λo=>kN q λq=>Option.rec (motive:=λ_=>Option R) (k (.sl i o q none) d n m b) (λc=>kN c λc=>k (.sl i o q (some c)) d n m b) c
  |.ag e=>snL a e d n m b λf d n m b=>k (.ag f) d n m b
  |.tu e=>snL a e d n m b λf d n m b=>k (.tu f) d n m b
  |.cl p r e=>snL a r d n m b λs d n m b=>snL a e d n m b λf d n m b=>k (.cl p s f) d n m b
  |.mp _=>none) N
structure O2 where
 fs:List Func
 may:Nat
 pic:Nat
 idle:Nat
abbrev Mem:=FuncId->List CV->Tr cX->Nat->Option (CV×Tr cX×Nat)
def O3{R:Type}(T:TypeId->bs)(E:O2)(N:Nat)(call:KC R):KC R:=λf e h n k=>bB (Nat.testBit E.may f) (oB (atL E.fs f) λa=>oB a.body λc=>am5 e 0 (Tr.fill (.v undef) 64 a.ntmps) λt=>
 let b:KK R:=λj d g=>aj_ T d j a.results.toList λi=>k (YY i) d g
 O1 T (λf=>Nat.testBit E.idle f) call N c b (λ_ _ _ _=>none) b t h n) none
def aka{R:Type}(M:Mem)(call:KC (CV×Tr cX×Nat)):KC R:=λf g h n k=>snL (snC h true 64) g .lf 0 .lf .lf λc d m i e=>oB (Option.rec (motive:=λ_=>Option (CV×Tr cX×Nat)) (call f c d m λr a b=>some (r,a,b)) (λx=>some x) (M f c d m)) λp=>snC p.2.1 false 64 p.1 h n e .lf λr a b _ _=>k r a b
def gQ(T:TypeId->bs)(E:O2)(M:Mem)(N:Nat):{R:Type}->KC R:=Nat.rec (motive:=λ_=>{R:Type}->KC R) (λ_ _ _ _ _=>none)
 (λN b {R} f a h n k=>bB (Nat.testBit E.pic f) (aka M (O3 T E N b) f a h n k) (O3 T E N b f a h n k)) N
end
section
open Go Go.RowKit MapKept
section
variable{P:Program}{Dk:Deferred->Prop}{w0:World}{T:TypeId->bs}
def FC(P:Program)(w0:World)(f:FuncId)(g:List CV)(h:Tr cX)(n:Nat)(c:CV)(i:Tr cX)(j:Nat):Prop:=
 Enters P f/\∀ρ w a,HR P w0 ρ h.get n w->LR (KR ρ) g a->Calls P f a.toArray w λe l=>∃v b,e=.returned v/\KP P w0 ρ h.get n w b i.get j l/\KR b c v
def gJ(P:Program)(w0:World){R:Type}(call:KC R):Prop:=∀f a h n k r,call f a h n k=some r->∃c b e,FC P w0 f a h n c b e/\k c b e=some r
def jM(Dk:Deferred->Prop)(ID:FuncId->Bool):Prop:=∀f,ID f=true->∀a,Dk {target:=.fn (.func f) a,args:= #[]}
section
variable{t:Tr CV}{h:Tr cX}{n:Nat}{d:iN}{ty t1 t2:TypeId}{pos:String}{af:dI}{gd:fE}{x y z:Operand}{R:Type}{r:R}
def YZ{x:Operand}{f:FuncId}{args:fU}{a xs:bD}(h:Enters P f)(c:F.eval x=.func (.func f) a.toArray xs.toArray):
 (execOp F.eval ⟨d,.call ⟨.value x,args,E⟩,ty,pos,af,gd⟩).run P s=.ok (.enter f (a++args.toList.map F.eval++xs).toArray) s:=by
 have:=gz h (a.toArray++args.map F.eval++xs.toArray) s;have b:(a++args.toList.map F.eval++xs).toArray=a.toArray++args.map F.eval++xs.toArray:=by
  rw[<-atg];simp
 rw[b];simpa[execOp,resolve,c,Deferred.ofValue,invoke]using this
def aex{k:FuncId->List CV->List CV->Option R}(b:clK v k=some r):∃f e g,(∀ρ a,KR ρ v a->∃u y,a=.func (.func f) u.toArray y.toArray/\LR (KR ρ) e u/\LR (KR ρ) g y)/\k f e g=some r:=by
 unfold clK at b;split at b
 ·refine⟨_,[],[],λρ a c=>⟨[],[],?_,LR.nil,LR.nil⟩,b⟩
  rw[c.bN]
 ·refine⟨_,_,_,λρ a c=>?_,b⟩
  cases c with
  |cl u y l m i j=>exact⟨u,y,rfl,⟨l,i⟩,⟨m,j⟩⟩
 ·cases b
def FK.am6{call:KC R}(q:gJ P w0 call){l:fU}{k:CV->Tr cX->Nat->Option R}(D:(dW t x λf=>pX t l.toList λcs=>clK f λg p xs=>call g (p++cs++xs) h n k)=some r):
 ∃c b i,FK P Dk w0 ⟨d,.call ⟨.value x,l,E⟩,ty,pos,af,gd⟩ t h n c b i/\k c b i=some r:=by
 obtain⟨V,B,F⟩:=cg D;obtain⟨cs,A,G⟩:=CF F;obtain⟨f,p,xs,s,H⟩:=aex G;obtain⟨c,b,i,⟨j,C⟩,I⟩:=q _ _ _ _ _ _ H;refine⟨c,b,i,λρ a w m L next Q K=>?_,I⟩;obtain⟨u,y,e,N,O⟩:=s ρ _ (B ρ a m);unfold Oper.wp;rw[YZ j e];exact(C ρ w _ L ((N.append (A ρ a m)).append O)).mono λe S ⟨v,U,j,J,M⟩=>by
  subst j;exact K v S [] ⟨U,J,M⟩ (by simp)
def FK.akb{ID:FuncId->Bool}(l:jM Dk ID){c:Call}{k:CV->Tr cX->Nat->Option R}(B:Fp ID c t h n k=some r):∃v b i,FK P Dk w0 ⟨d,.defer c,ty,pos,af,gd⟩ t h n v b i/\k v b i=some r:=by
 obtain⟨j,args,N⟩:=c;obtain⟨m,g⟩:=bg B;cases j with
 |value x=>
  obtain⟨O,A,C⟩:=cg g;obtain⟨f,U,V,q,D⟩:=aex C;obtain⟨hid,E⟩:=bg D;obtain⟨L,F⟩:=bg E;refine⟨_,h,n,λρ a w J I next Q G=>?_,F⟩;obtain⟨u,y,e,M,S⟩:=q ρ _ (A ρ a J);have K:u=[]:=aqT (by rw[M.1];simpa using L);subst K;have p:args= #[]:=by simpa using m
  subst p;have H:(execOp a.eval ⟨d,.defer ⟨.value x, #[],N⟩,ty,pos,af,gd⟩).run P w=.ok (.defer {target:=.fn (.func f) y.toArray,args:= #[]}) w:=by
   simp[execOp,resolve,e,Deferred.ofValue]
  unfold Oper.wp;rw[H];exact G undef w [_] ⟨ρ,.refl I,.v⟩ (λd s=>by rw[aqe.1 s];exact l f hid _)
 |_=>cases g
def J4{l:mL}{k:CV->Option R}(a:FZ t l k=some r):∃x c,l=[x]/\jT t x c/\k c=some r:=by
 unfold FZ at a;split at a
 ·obtain⟨c,b,e⟩:=cg a
  exact⟨_,c,rfl,b,e⟩
 ·cases a
def J5{l:mL}{k:CV->CV->Option R}(b:F0 t l k=some r):∃x y a c,l=[x,y]/\jT t x a/\jT t y c/\k a c=some r:=by
 unfold F0 at b;split at b
 ·obtain⟨a,e,g⟩:=cg b
  obtain⟨c,f,i⟩:=cg g;exact⟨_,_,a,c,rfl,e,f,i⟩
 ·cases b
def ag2{b:Array a}{x:a}(h:b.toList=[x]):b= #[x]:=by rw[<-atg];exact h
def ag3{b:Array a}{x y:a}(h:b.toList=[x,y]):b= #[x,y]:=by rw[<-atg];exact h
def js(P:Program)(Dk:Deferred->Prop)(w0:World)(o:Oper)(t:Tr CV)(h:Tr cX)(n:Nat)(c:CV)(a:Tr cX)(b:Nat):Prop:=match eZ o.op with
 |0=>∃f e,c=f n/\b=yT n e/\(∀j,a.get j=tW h.get n e j)/\ZK P Dk w0 o t f e
 |1=>a=h/\b=n/\PK P w0 o t h c
 |_=>FK P Dk w0 o t h n c a b
def js.fk{o:Oper}{c:CV}{f:Tr cX}{g:Nat}(b:js P Dk w0 o t h n c f g):FK P Dk w0 o t h n c f g:=by
 unfold js at b;split at b
 ·obtain⟨u,s,rfl,rfl,i,q⟩:=b
  intro ρ a w p m;have:=q ρ a w h.get n p m;have e:tW h.get n s=f.get:=funext λj=>(i j).symm;rw[e]at this;exact this
 ·obtain⟨rfl,rfl,l⟩:=b
  exact l.fk
 ·exact b
section
variable{o:Oper}{k:CV->Tr cX->Nat->Option R}
def js.q(i:eZ o.op=0)(e:∃c,QK P o t c/\k c h n=some r):∃c a b,js P Dk w0 o t h n c a b/\k c a b=some r:=by
 obtain⟨c,f,g⟩:=e;refine⟨c,h,n,?_,g⟩;unfold js;rw[i];exact⟨λ_=>c,none,rfl,rfl,λ_=>rfl,f.z⟩
def js.p(i:eZ o.op=1)(e:∃c,PK P w0 o t h c/\k c h n=some r):∃c a b,js P Dk w0 o t h n c a b/\k c a b=some r:=by
 obtain⟨c,f,g⟩:=e;refine⟨c,h,n,?_,g⟩;unfold js;rw[i];exact⟨rfl,rfl,f⟩
def js.zz(p:eZ o.op=0)(g:∃e b a,ZK P Dk w0 o t e b/\(∀j,a.get j=tW h.get n b j)/\k (e n) a (yT n b)=some r):∃c a f,js P Dk w0 o t h n c a f/\k c a f=some r:=by
 obtain⟨e,b,a,i,l,m⟩:=g;refine⟨_,a,_,?_,m⟩;unfold js;rw[p];exact⟨e,b,rfl,rfl,l,i⟩
def js.f(i:eZ o.op=2)(e:∃c a b,FK P Dk w0 o t h n c a b/\k c a b=some r):∃c a b,js P Dk w0 o t h n c a b/\k c a b=some r:=by
 obtain⟨c,a,b,f,g⟩:=e;refine⟨c,a,b,?_,g⟩;unfold js;rw[i];exact f
end
def js.builtin(m:gw P T){b:Builtin}{p:fU}{k:CV->Tr cX->Nat->Option R}(g:my T b p.toList E.toList t h n k=some r):∃c q s,js P Dk w0 ⟨d,.call ⟨.builtin b,p,E⟩,ty,pos,af,gd⟩ t h n c q s/\k c q s=some r:=by
 cases b with
 |len=>
  obtain⟨x,c,e,i,j⟩:=J4 g;obtain rfl:=ag2 e;exact js.p rfl (FK.len (f:=λc=>k c h n) m i j)
 |cap=>
  obtain⟨x,c,e,i,j⟩:=J4 g;obtain rfl:=ag2 e;exact js.q rfl (FK.cap (f:=λc=>k c h n) m i j)
 |append=>
  unfold my at g;simp only at g;split at g
  ·rename_i e0
   obtain⟨x,y,a,c,e,l,i,j⟩:=J5 g;obtain rfl:=ag3 e;obtain rfl:=ag3 e0;exact js.f rfl (FK.append m l i j)
  ·cases g
 |min=>
  obtain⟨x,y,a,c,e,l,i,j⟩:=J5 g;obtain rfl:=ag3 e;exact js.q rfl (FK.aek (b:=.min) (ts:=E) (f:=λc=>k c h n) l i j)
 |max=>
  obtain⟨x,y,a,c,e,l,i,j⟩:=J5 g;obtain rfl:=ag3 e;exact js.q rfl (FK.aek (b:=.max) (ts:=E) (f:=λc=>k c h n) l i j)
 |clear=>
  unfold my at g;simp only at g;split at g
  ·rename_i e0
   obtain⟨x,c,e,i,j⟩:=J4 g;obtain rfl:=ag2 e;obtain rfl:=ag2 e0;exact js.f rfl (FK.clear m i j)
  ·cases g
 |_=>cases g
variable{ID:FuncId->Bool}{call:KC R}
def aey(v:gw P T)(S:∀b o u,GT b o u->w0.cell? ⟨b,o,none⟩=some u)(U:jM Dk ID)(E:gJ P w0 call){o:Op}{k:CV->Tr cX->Nat->Option R}(m:opK T ID call o t h n k=some r):
 ∃c M O,js P Dk w0 ⟨d,o,ty,pos,af,gd⟩ t h n c M O/\k c M O=some r:=by
 cases o with
 |move x=>
  obtain⟨c,K,g⟩:=cg m;exact js.q rfl ⟨c,FK.ev (.inl rfl) K,g⟩
 |assign x=>
  obtain⟨c,K,g⟩:=cg m;exact js.q rfl ⟨c,FK.ev (.inr rfl) K,g⟩
 |pick z x y=>
  obtain⟨A,l,g⟩:=cg m;obtain⟨B,s,p⟩:=cg g;obtain⟨I,D,C⟩:=cg p;exact js.q rfl (FK.pick (k:=λc=>k c h n) l s D C)
 |alloc t1=>exact js.zz rfl (FK.alloc v m)
 |box t1 x=>
  obtain⟨A,l,g⟩:=cg m;exact js.zz rfl (FK.box l g)
 |build t1 a0=>exact js.q rfl (FK.build (k:=λc=>k c h n) v m)
 |buildSlice t1 a2 a0=>exact js.zz rfl (FK.buildSlice v m)
 |insert t1 x y z=>
  obtain⟨A,l,g⟩:=cg m;obtain⟨B,s,p⟩:=cg g;obtain⟨I,D,C⟩:=cg p;exact js.f rfl (FK.aes v (.inr rfl) l s D C)
 |load t1 x=>
  obtain⟨A,l,g⟩:=cg m;exact js.p rfl (FK.load (k:=λc=>k c h n) v S l g)
 |store t1 x y=>
  obtain⟨A,l,g⟩:=cg m;obtain⟨B,s,p⟩:=cg g;exact js.f rfl (FK.store v l s p)
 |nilCheck x=>
  obtain⟨A,l,g⟩:=cg m;obtain⟨s,p⟩:=bg g;exact js.q rfl ⟨A,FK.nilCheck l s,p⟩
 |binOp op t1 x y t2=>
  obtain⟨A,l,g⟩:=cg m;obtain⟨B,s,p⟩:=cg g;exact js.q rfl (FK.aej (f:=λc=>k c h n) v l s p)
 |unOp op t1 x=>
  obtain⟨A,l,g⟩:=cg m;exact js.q rfl (FK.un (f:=λc=>k c h n) l g)
 |convert t1 t2 x=>
  obtain⟨A,l,g⟩:=cg m;exact js.q rfl (FK.conv (f:=λc=>k c h n) v l g)
 |makeFunc fn F cs=>exact js.q rfl (FK.makeFunc (k:=λc=>k c h n) m)
 |makeMap t1 r0=>
  obtain⟨l,g⟩:=bg m;cases r0 with
  |none=>exact js.zz rfl (FK.makeMap v g)
  |some _=>cases l
 |makeSlice t1 x y=>
  obtain⟨A,l,g⟩:=cg m;obtain⟨B,s,p⟩:=cg g;exact js.zz rfl (FK.makeSlice v l s p)
 |slice t1 x lo N mx=>
  obtain⟨A,l,g⟩:=cg m;exact js.q rfl (FK.slice (k:=λc=>k c h n) v l g)
 |fieldAddr t1 x f=>
  obtain⟨A,l,g⟩:=cg m;exact js.q rfl (FK.fieldAddr (k:=λc=>k c h n) v l g)
 |field t1 x f=>
  obtain⟨A,l,g⟩:=cg m;exact js.q rfl (FK.field (k:=λc=>k c h n) v l g)
 |indexAddr t1 x y=>
  obtain⟨A,l,g⟩:=cg m;obtain⟨B,s,p⟩:=cg g;exact js.q rfl (FK.indexAddr (k:=λc=>k c h n) v l s p)
 |index t1 x y=>
  obtain⟨A,l,g⟩:=cg m;obtain⟨B,s,p⟩:=cg g;exact js.q rfl (FK.C_ (k:=λc=>k c h n) v l s p)
 |lookup t1 x y Z=>
  obtain⟨A,l,g⟩:=cg m;obtain⟨B,s,p⟩:=cg g;exact js.p rfl (FK.lookup (k:=λc=>k c h n) v l s p)
 |mapUpdate t1 x y z=>
  obtain⟨A,l,g⟩:=cg m;obtain⟨B,s,p⟩:=cg g;obtain⟨I,D,C⟩:=cg p;exact js.f rfl (FK.aes v (.inl rfl) l s D C)
 |mapEntry t1 x y=>
  obtain⟨A,l,g⟩:=cg m;obtain⟨B,s,p⟩:=cg g;exact js.f rfl (FK.mapEntry v l s p)
 |entryStore t1 x y z=>
  obtain⟨A,l,g⟩:=cg m;obtain⟨B,s,p⟩:=cg g;obtain⟨I,D,C⟩:=cg p;exact js.f rfl (FK.entryStore v l s D C)
 |typeAssert x t1 t2 Z=>
  obtain⟨A,l,g⟩:=cg m;split at g
  ·obtain⟨V,p⟩:=bg g
   subst V;obtain⟨q,W,p⟩:=bA p;have J:∃F,P.underlying t2=some (.struct F):=by
    have G:=v.fd _ _ _ W;unfold Y3 at G;split at G
    ·rename_i F l
     exact⟨F,l⟩
    ·cases G
   obtain⟨F,J⟩:=J;obtain⟨z,L,C⟩:=bA p;have L:=v.zv _ _ L;refine js.f rfl ⟨_,h,n,FK.pure λρ a w G hs=>?_,C⟩;obtain⟨i,N,Y⟩:=ar9.1 L;have X:∀w,(zeroValue t2).run P w=.ok z w:=λw=>by simp[zeroValue,typeInfo,N,Y]
   refine⟨.tuple #[z,.bool false],?_,?_⟩
   ·have e:=(l ρ a G).bN
    simp[execOp,e,Instr.typeAssert,aqi J,X]
   ·exact .tu [z,.bool false] rfl λj c u E H=>by
     match j with
     |0=>simp at E H;subst E;subst H;exact Fh z
     |1=>simp at E H;subst E;subst H;exact .v
     |j+2=>simp at E
  ·cases g
 |extract x i=>
  obtain⟨A,l,g⟩:=cg m;exact js.q rfl (FK.extract (k:=λc=>k c h n) l g)
 |call c=>
  obtain⟨Q,a1,ts⟩:=c;cases Q with
  |value x=>exact js.f rfl (FK.am6 E m)
  |builtin b=>exact js.builtin v m
  |invoke _ _=>cases m
 |defer c=>exact js.f rfl (FK.akb U m)
 |_=>cases m
end
end
end
variable{d:CV}{O:TypeId}
section
open Go Go.RowKit MapKept
section
variable{P:Program}{Dk:Deferred->Prop}{w0:World}{T:TypeId->bs}
def Df(Dk:Deferred->Prop)(a b:Act):Prop:=∃D,(∀d∈D,Dk d)/\b.defers=D++a.defers
def Df.refl(a:Act):Df Dk a a:=⟨[],by simp,rfl⟩
def Df.trans{a b c:Act}(h:Df Dk a b)(k:Df Dk b c):Df Dk a c:=by
 obtain⟨D,f,g⟩:=h;obtain⟨e,j,l⟩:=k;exact⟨e++D,λd i=>(ap3.1 i).elim (j d) (f d),by rw[l,g,aqm]⟩
section
variable{t t':Tr CV}{h h':Tr cX}{n n':Nat}{R:Type}{r:R}
def BJ(d:iN)(c:CV)(t t':Tr CV):Prop:=(d=none->t'=t)/\∀i,d=some i->(∃x,t.get i=some x)/\oL (some c) i t t'
def Wq{a:iN}{k:Tr CV->Option R}(b:aj7 a d t k=some r):∃t',BJ a d t t'/\k t'=some r:=by
 cases a with
 |none=>exact⟨t,⟨λ_=>rfl,λi e=>(by cases e)⟩,b⟩
 |some i=>
  obtain⟨t',c,f,g⟩:=Tr.mv b;exact⟨t',⟨λe=>(by cases e),λj e=>(by cases e;exact⟨f,g⟩)⟩,c⟩
def BJ.tr{a:iN}(g:BJ a d t t')(f:mJ m t F)(w:KR m d j){D:vV}:mJ m t' (({F with defers:=D}:Act).put a j):=by
 cases a with
 |none=>rw[g.1 rfl];exact f
 |some i=>
  obtain⟨⟨x,y⟩,q⟩:=g.2 i rfl;obtain⟨u,v,_⟩:=f i x y;have s:=(aqx.1 v).1;intro b k c;rw[q b]at c;by_cases e:b=i
  ·subst e
   rw[apR rfl]at c;cases c;exact⟨j,by simp[Act.put,s],w⟩
  ·rw[apQ e]at c
   obtain⟨z,o,p⟩:=f b k c;exact⟨z,by simp only[Act.put];rw[atf (λl=>e l.symm)];exact o,p⟩
def aez:Value->Option Bool
 |.bool b=>some b
 |_=>none
def Rt{a:tZ}(c:(a[b]?).bind (·.dst)=some e)(h:G[e]? =some j):yielded a G b=aez j:=by
 unfold yielded;rw[c,aud,h];cases j<;>rfl
def Br(c:bp)(g:fE)(t:Tr CV)(b:Bool):Prop:=∀ρ a,mJ ρ t a->∀o:Oper,o.guard=g->Region.wanted o (yielded c.toArray a.tmps)=b
def O4{i:bp}{g:fE}{y z:Option R}(w:HZ i g t y z=some r):(y=some r/\Br i g t true)\/(z=some r/\Br i g t false):=by
 cases g with
 |none=>exact .inl ⟨w,λρ a f o d=>by simp[Region.wanted,d]⟩
 |some p=>
  obtain⟨j,l⟩:=p;obtain⟨s,F,E⟩:=bA w;obtain⟨c,C,k⟩:=bA E;have q:∀{v:Value},c=.v v->∀ρ a,mJ ρ t a->∀o:Oper,o.guard=some (j,l)->Region.wanted o (yielded i.toArray a.tmps)=(aez v==some l):=λ{v} e ρ a f o d=>by
   subst e;obtain⟨u,A,B⟩:=f s _ C;obtain rfl:=B.bN;have D:((i.toArray)[j]?).bind (·.dst)=some s:=by simpa[oM]using F
   simp only[Region.wanted,d,Rt D A]
  split at k
  ·rename_i b
   rcases dC k with⟨e,m⟩|⟨e,m⟩
   ·refine .inl ⟨m,λρ a f o d=>?_⟩
    rw[q rfl ρ a f o d];cases b<;>cases l<;>first|rfl|(cases e)
   ·refine .inr ⟨m,λρ a f o d=>?_⟩
    rw[q rfl ρ a f o d];cases b<;>cases l<;>first|rfl|(cases e)
  ·exact .inr ⟨k,λρ a f o d=>by rw[q rfl ρ a f o d];rfl⟩
  ·cases k
def Tr.res{α:Type}:Tr α->(Nat->Bool)->Tr α
 |.lf,_=>.lf
 |.nd l x a,p=>.nd (Tr.res l λi=>p (2*i+1)) (if p 0 then x else none) (Tr.res a λi=>p (2*i+2))
def Tr.ng{α:Type}:∀(t:Tr α) (p:Nat->Bool) (i:Nat),(t.res p).get i=if p i then t.get i else none
 |.lf,p,i=>by simp[Tr.res,Tr.Rg]
 |.nd l x c,p,i=>by
  rw[Tr.res,Tr.iJ,Tr.iJ];by_cases b:i=0
  ·subst b;simp
  ·rw[apQ b,apQ b]
   by_cases a:i % 2=1
   ·rw[apR a,apR a,Tr.ng l,show 2*(i/2)+1=i by omega]
   ·rw[apQ a,apQ a,Tr.ng c,show 2*(i/2 - 1)+2=i by omega]
def BK(t t':Tr CV)(x:Operand):Prop:=∀i,x=.tmp i->t.get i=t'.get i
section
variable{x:Operand}{xs:mL}
def bu(h:BK t t' x)(k:CV->Option R):dW t x k=dW t' x k:=by
 cases x with
 |tmp i=>show oB (t.get i) k=oB (t'.get i) k;rw[h i rfl]
 |_=>rfl
def tQ:∀{xs:mL} (h:∀x∈xs,BK t t' x) (k:List CV->Option R),pX t xs k=pX t' xs k
 |[],_,k=>rfl
 |x::xs,h,k=>by
  show dW t x (λc=>pX t xs λa=>k (c::a))=dW t' x (λc=>pX t' xs λa=>k (c::a));rw[bu (h x (by simp))];congr 1;funext c;exact tQ (λy b=>h y (by simp[b])) _
def sG:∀{a:vT} (h:∀p∈a,BK t t' p.2) (k:List (Nat×List CV)->Option R),kx t a k=kx t' a k
 |[],_,k=>rfl
 |(i,x)::a,h,k=>by
  show dW t x (λc=>sE c λl=>kx t a λb=>k ((i,l)::b))=dW t' x (λc=>sE c λl=>kx t' a λb=>k ((i,l)::b));rw[bu (h (i,x) (by simp))];congr 1;funext c;congr 1;funext l;exact sG (λy d=>h y (by simp[d])) _
def Ag(h:∀x∈Q.toList,BK t t' x)(d:Nat)(k:Nat->Option R):tY t Q d k=tY t' Q d k:=by
 cases Q with
 |none=>rfl
 |some x=>exact bu (h x (by simp)) _
def O5{T:TypeId->bs}{e c b:iL}(o:∀x∈e.toList,BK t t' x)(p:∀x∈c.toList,BK t t' x)(g:∀x∈b.toList,BK t t' x)(k:CV->Option R):sF T t O d e c b k=sF T t' O d e c b k:=by
 have i:∀(a:Nat) (k:Nat->Option R),tY t e a k=tY t' e a k:=Ag o;have j:∀(a:Nat) (k:Nat->Option R),tY t c a k=tY t' c a k:=Ag p;have l:∀(a:Nat) (k:Nat->Option R),tY t b a k=tY t' b a k:=Ag g;unfold sF;simp only[i,j,l];cases b with
 |none=>rfl
 |some f=>
  have m:∀(k:CV->Option R),dW t f k=dW t' f k:=bu (g f (by simp));simp only[m]
def Y0(h:∀x∈xs,BK t t' x)(k:CV->Option R):FZ t xs k=FZ t' xs k:=by
 unfold FZ;split
 ·exact bu (h _ (by simp)) _
 ·rfl
def Y1(h:∀x∈xs,BK t t' x)(k:CV->CV->Option R):F0 t xs k=F0 t' xs k:=by
 unfold F0;split
 ·rw[bu (h _ (by simp))]
  congr 1;funext c;exact bu (h _ (by simp)) _
 ·rfl
end
def O6{T:TypeId->bs}{ID:FuncId->Bool}{call:KC R}{o:Op}(h:∀x∈o.operands.toList,BK t t' x)(e:Tr cX)(j:Nat)(k:CV->Tr cX->Nat->Option R):opK T ID call o t e j k=opK T ID call o t' e j k:=by
 cases o with
 |move x=>
  have e0:∀k:CV->Option R,dW t x k=dW t' x k:=bu (h x (by simp[Op.operands]));show Bq x t e j k=Bq x t' e j k;simp only[Bq,e0]
 |assign x=>
  have e0:∀k:CV->Option R,dW t x k=dW t' x k:=bu (h x (by simp[Op.operands]));show Bq x t e j k=Bq x t' e j k;simp only[Bq,e0]
 |pick z x y=>
  have e0:∀k:CV->Option R,dW t z k=dW t' z k:=bu (h z (by simp[Op.operands]));have l:∀k:CV->Option R,dW t x k=dW t' x k:=bu (h x (by simp[Op.operands]));have q:∀k:CV->Option R,dW t y k=dW t' y k:=bu (h y (by simp[Op.operands]));show Wh z x y t e j k=Wh z x y t' e j k;simp only[Wh,e0,l,q]
 |alloc d=>rfl
 |box d x=>
  have e0:∀k:CV->Option R,dW t x k=dW t' x k:=bu (h x (by simp[Op.operands]));show agV d x t e j k=agV d x t' e j k;simp only[agV,e0]
 |build d s=>
  have e0:∀k:List (Nat×List CV)->Option R,kx t s.toList k=kx t' s.toList k:=sG λp J=>h p.2 (by simp only[Op.operands];exact ap4.2 ⟨p,J,rfl⟩);show J0 T d s t e j k=J0 T d s t' e j k;simp only[J0,e0]
 |buildSlice d M s=>
  have e0:∀k:List (Nat×List CV)->Option R,kx t s.toList k=kx t' s.toList k:=sG λp J=>h p.2 (by simp only[Op.operands];exact ap4.2 ⟨p,J,rfl⟩);show nc T d M s t e j k=nc T d M s t' e j k;simp only[nc,e0]
 |insert d x y z=>
  have e0:∀k:CV->Option R,dW t x k=dW t' x k:=bu (h x (by simp[Op.operands]));have l:∀k:CV->Option R,dW t y k=dW t' y k:=bu (h y (by simp[Op.operands]));have q:∀k:CV->Option R,dW t z k=dW t' z k:=bu (h z (by simp[Op.operands]));show O0 T d x y z t e j k=O0 T d x y z t' e j k;simp only[O0,e0,l,q]
 |load d x=>
  have e0:∀k:CV->Option R,dW t x k=dW t' x k:=bu (h x (by simp[Op.operands]));show Wi T d x t e j k=Wi T d x t' e j k;simp only[Wi,e0]
 |store d x y=>
  have e0:∀k:CV->Option R,dW t x k=dW t' x k:=bu (h x (by simp[Op.operands]));have l:∀k:CV->Option R,dW t y k=dW t' y k:=bu (h y (by simp[Op.operands]));show J1 T d x y t e j k=J1 T d x y t' e j k;simp only[J1,e0,l]
 |nilCheck x=>
  have e0:∀k:CV->Option R,dW t x k=dW t' x k:=bu (h x (by simp[Op.operands]));show agW x t e j k=agW x t' e j k;simp only[agW,e0]
 |binOp B d x y v=>
  have e0:∀k:CV->Option R,dW t x k=dW t' x k:=bu (h x (by simp[Op.operands]));have l:∀k:CV->Option R,dW t y k=dW t' y k:=bu (h y (by simp[Op.operands]));show agX T B d x y t e j k=agX T B d x y t' e j k;simp only[agX,e0,l]
 |unOp B d x=>
  have e0:∀k:CV->Option R,dW t x k=dW t' x k:=bu (h x (by simp[Op.operands]));show oUn B d x t e j k=oUn B d x t' e j k;simp only[oUn,e0]
 |convert d v x=>
  have e0:∀k:CV->Option R,dW t x k=dW t' x k:=bu (h x (by simp[Op.operands]));show Wj T d v x t e j k=Wj T d v x t' e j k;simp only[Wj,e0]
 |makeFunc L D cs=>
  have e0:∀k:List CV->Option R,pX t D.toList k=pX t' D.toList k:=tQ λx w=>h x (by simp only[Op.operands,ar4,ap3];exact .inl w);have l:∀k:List CV->Option R,pX t cs.toList k=pX t' cs.toList k:=tQ λx w=>h x (by simp only[Op.operands,ar4,ap3];exact .inr w);show Wl L D cs t e j k=Wl L D cs t' e j k;simp only[Wl,e0,l]
 |makeMap d r=>rfl
 |makeSlice d x y=>
  have e0:∀k:CV->Option R,dW t x k=dW t' x k:=bu (h x (by simp[Op.operands]));have l:∀k:CV->Option R,dW t y k=dW t' y k:=bu (h y (by simp[Op.operands]));show Wm T d x y t e j k=Wm T d x y t' e j k;simp only[Wm,e0,l]
 |slice d x F E G=>
  have e0:∀k:CV->Option R,dW t x k=dW t' x k:=bu (h x (by simp[Op.operands]));have l:∀(a:CV) (k:CV->Option R),sF T t d a F E G k=sF T t' d a F E G k:=λa k=>O5 (λy u=>h y (by simp[Op.operands]at u⊢;exact .inr (.inl u))) (λy u=>h y (by simp[Op.operands]at u⊢;exact .inr (.inr (.inl u)))) (λy u=>h y (by simp[Op.operands]at u⊢;exact .inr (.inr (.inr u)))) k;show J2 T d x F E G t e j k=J2 T d x F E G t' e j k;simp only[J2,e0,l]
 |fieldAddr d x f=>
  have e0:∀k:CV->Option R,dW t x k=dW t' x k:=bu (h x (by simp[Op.operands]));show oFA T d x f t e j k=oFA T d x f t' e j k;simp only[oFA,e0]
 |field d x f=>
  have e0:∀k:CV->Option R,dW t x k=dW t' x k:=bu (h x (by simp[Op.operands]));show oF T d x f t e j k=oF T d x f t' e j k;simp only[oF,e0]
 |indexAddr d x y=>
  have e0:∀k:CV->Option R,dW t x k=dW t' x k:=bu (h x (by simp[Op.operands]));have l:∀k:CV->Option R,dW t y k=dW t' y k:=bu (h y (by simp[Op.operands]));show oIA T d x y t e j k=oIA T d x y t' e j k;simp only[oIA,e0,l]
 |index d x y=>
  have e0:∀k:CV->Option R,dW t x k=dW t' x k:=bu (h x (by simp[Op.operands]));have l:∀k:CV->Option R,dW t y k=dW t' y k:=bu (h y (by simp[Op.operands]));show oI T d x y t e j k=oI T d x y t' e j k;simp only[oI,e0,l]
 |lookup d x y A=>
  have e0:∀k:CV->Option R,dW t x k=dW t' x k:=bu (h x (by simp[Op.operands]));have l:∀k:CV->Option R,dW t y k=dW t' y k:=bu (h y (by simp[Op.operands]));show Wn T d x y A t e j k=Wn T d x y A t' e j k;simp only[Wn,e0,l]
 |mapUpdate d x y z=>
  have e0:∀k:CV->Option R,dW t x k=dW t' x k:=bu (h x (by simp[Op.operands]));have l:∀k:CV->Option R,dW t y k=dW t' y k:=bu (h y (by simp[Op.operands]));have q:∀k:CV->Option R,dW t z k=dW t' z k:=bu (h z (by simp[Op.operands]));show O0 T d x y z t e j k=O0 T d x y z t' e j k;simp only[O0,e0,l,q]
 |mapEntry d x y=>
  have e0:∀k:CV->Option R,dW t x k=dW t' x k:=bu (h x (by simp[Op.operands]));have l:∀k:CV->Option R,dW t y k=dW t' y k:=bu (h y (by simp[Op.operands]));show J3 T d x y t e j k=J3 T d x y t' e j k;simp only[J3,e0,l]
 |entryStore d x y z=>
  have e0:∀k:CV->Option R,dW t x k=dW t' x k:=bu (h x (by simp[Op.operands]));have l:∀k:CV->Option R,dW t y k=dW t' y k:=bu (h y (by simp[Op.operands]));have q:∀k:CV->Option R,dW t z k=dW t' z k:=bu (h z (by simp[Op.operands]));show yW T d x y z t e j k=yW T d x y z t' e j k;simp only[yW,e0,l,q]
 |typeAssert x d v A=>
  have e0:∀k:CV->Option R,dW t x k=dW t' x k:=bu (h x (by simp[Op.operands]));show oTA T v x A t e j k=oTA T v x A t' e j k;simp only[oTA,e0]
 |extract x i=>
  have e0:∀k:CV->Option R,dW t x k=dW t' x k:=bu (h x (by simp[Op.operands]));show agY x i t e j k=agY x i t' e j k;simp only[agY,e0]
 |call c=>
  obtain⟨H,m,C⟩:=c;have I:∀x∈m.toList,BK t t' x:=λx w=>h x (by simp only[Op.operands,Call.operands,ar4,ap3];exact .inr w);cases H with
  |value x=>
   have e0:∀k:CV->Option R,dW t x k=dW t' x k:=bu (h x (by simp[Op.operands,Call.operands]));have l:∀k:List CV->Option R,pX t m.toList k=pX t' m.toList k:=tQ I;show(dW t x λf=>pX t m.toList λcs=>clK f λg K xs=>call g (K++cs++xs) e j k)=(dW t' x λf=>pX t' m.toList λcs=>clK f λg K xs=>call g (K++cs++xs) e j k);simp only[e0,l]
  |builtin b=>
   have l:∀k:CV->Option R,FZ t m.toList k=FZ t' m.toList k:=Y0 I;have q:∀k:CV->CV->Option R,F0 t m.toList k=F0 t' m.toList k:=Y1 I;show my T b m.toList C.toList t e j k=my T b m.toList C.toList t' e j k;unfold my;cases b<;>simp only[l,q]
  |invoke _ _=>rfl
 |defer c=>
  obtain⟨H,m,C⟩:=c;cases H with
  |value x=>
   have e0:∀k:CV->Option R,dW t x k=dW t' x k:=bu (h x (by simp[Op.operands,Call.operands]));show Fp ID ⟨.value x,m,C⟩ t e j k=Fp ID ⟨.value x,m,C⟩ t' e j k;simp only[Fp,e0]
  |_=>rfl
 |_=>rfl
def Fs{a:bp}{g:fE}{y b:Option R}(h:∀p,g=some p->∀s,oM a p.1=some s->t.get s=t'.get s):HZ a g t y b=HZ a g t' y b:=by
 cases g with
 |none=>rfl
 |some p=>
  unfold HZ;show(oB (oM a p.1) λs=>oB (t.get s) _)=(oB (oM a p.1) λs=>oB (t'.get s) _);cases c:oM a p.1 with
  |none=>rfl
  |some s=>
   show oB (t.get s) _=oB (t'.get s) _;rw[h p rfl s c]
def mK(a:bp)(o:Oper)(x:Nat):Bool:=(tmpsOf o).contains x||(match o.guard with
 |some g=>oM a g.1==some x
 |none=>false)
def Wr{ops:bp}{o:Oper}:∀x∈o.op.operands.toList,BK t (t.res (mK ops o)) x:=λx a i e=>by
 subst e;rw[Tr.ng,apR];unfold mK;have:(tmpsOf o).contains i=true:=by
  rw[auz];exact atE.2 ⟨_,a,rfl⟩
 rw[this];rfl
def Ws{ops:bp}{o:Oper}:∀p,o.guard=some p->∀s,oM ops p.1=some s->t.get s=(t.res (mK ops o)).get s:=λp a s b=>by
 rw[Tr.ng,apR];unfold mK;rw[a];simp[b]
inductive Ru(P:Program)(Dk:Deferred->Prop)(w0:World)(ops:bp)(o:Oper)(t:Tr CV)(h:Tr cX)(n:Nat):Tr CV->Tr cX->Nat->Prop
 |run (c:CV) (h2:Tr cX) (n2:Nat) (t2:Tr CV) (hw:Br ops o.guard (t.res (mK ops o)) true) (hf:js P Dk w0 o (t.res (mK ops o)) h n c h2 n2) (hp:BJ o.dst c t t2):Ru P Dk w0 ops o t h n t2 h2 n2
 |skip (t2:Tr CV) (hw:Br ops o.guard (t.res (mK ops o)) false) (hp:BJ o.dst (.v undef) t t2):Ru P Dk w0 ops o t h n t2 h n
variable{ID:FuncId->Bool}{call:KC R}
def Ft(s:gw P T)(p:∀b o u,GT b o u->w0.cell? ⟨b,o,none⟩=some u)(q:jM Dk ID)(v:gJ P w0 call){e:bp}{o:Oper}{k:KK R}(f:Wo T ID call e o k t h n=some r):
 ∃t' h' n',Ru P Dk w0 e o t h n t' h' n'/\k t' h' n'=some r:=by
 unfold Wo at f;rw[Fs (Ws (ops:=e) (o:=o))]at f;rcases O4 f with⟨a,j⟩|⟨a,j⟩
 ·rw[O6 (Wr (ops:=e) (o:=o))]at a
  obtain⟨d,B,A,z,l,m⟩:=o;obtain⟨c,h',n',w,y⟩:=aey (d:=d) (ty:=A) (pos:=z) (af:=l) (gd:=m) s p q v a;obtain⟨t',i,g⟩:=Wq y;exact⟨t',h',n',.run _ _ _ _ j w i,g⟩
 ·obtain⟨t',i,g⟩:=Wq a
  exact⟨t',h,n,.skip _ j i,g⟩
def mJ.res(b:mJ m t F)(p:Nat->Bool):mJ m (t.res p) F:=λi c a=>by
 rw[Tr.ng]at a;split at a
 ·exact b i c a
 ·cases a
def put_defers(a:Act)(d:iN)(v:Value):(a.put d v).defers=a.defers:=by cases d<;>rfl
def Ru.wp{l:bp}{o:Oper}(u:Ru P Dk w0 l o t h n t' h' n')(a:mJ m t F)(g:HR P w0 m h.get n s){next:Act->World->Prop}{Q:Exit->Act->World->Prop}
 (k:∀d e b,mJ d t' e->KP P w0 m h.get n s d h'.get n' b->Df Dk F e->next e b):if Region.wanted o (yielded l.toArray F.tmps)then o.wp P F s next Q else next (F.put o.dst undef) s:=by
 cases u with
 |run c z A y i q f=>
  rw[i m F (a.res _) o rfl,apR rfl];refine q.fk m F s (a.res _) g next Q λv b D ⟨d,j,w⟩ p=>?_
  exact k d _ b (f.tr (a.mono (j.le g)) w) j ⟨D,p,by rw[put_defers]⟩
 |skip y i f=>
  rw[i m F (a.res _) o rfl,apQ (by simp)];have:=f.tr (D:=F.defers) a (KR.v (ρ:=m) (x:=undef));exact k m _ s this (.refl g) ⟨[],by simp,by rw[put_defers];rfl⟩
def Wt(z:gw P T)(v:∀b o u,GT b o u->w0.cell? ⟨b,o,none⟩=some u)(y:jM Dk ID)(A:gJ P w0 call){c:bp}{k:KK R}:∀(l:bp) (i:Nat) {t:Tr CV} {h:Tr cX} {n:Nat},c.drop i=l->YX T ID call c l k t h n=some r->
 ∃t' h' n',k t' h' n'=some r/\∀ρ a w Q,mJ ρ t a->HR P w0 ρ h.get n w->(∀f d e,mJ f t' d->KP P w0 ρ h.get n w f h'.get n' e->Df Dk a d->Q .normal d e)->wpOps P c.toArray Q (List.range' i l.length) a w
 |[],i,t,h,n,g,j=>⟨t,h,n,j,λρ a w Q q p m=>m ρ a w q (.refl p) (Df.refl a)⟩
 |o::l,i,t,h,n,g,j=>by
  obtain⟨t1,Y,Z,N,H⟩:=Ft z v y A j;have E:c.drop (i+1)=l:=by rw[<-arX,g];rfl
  have K:c[i]? =some o:=by
   have:=ap5 (·[0]?) g;simpa using this
  obtain⟨V,D,U,I,M⟩:=Wt z v y A l (i+1) E H;refine⟨V,D,U,I,λρ a w Q q p m=>?_⟩;rw[aqf,auA];unfold wpOps;have L:c.toArray[i]? =some o:=by simpa using K
  simp only[L];have:=N.wp (P:=P) q p (next:=wpOps P c.toArray Q (List.range' (i+1) l.length)) (Q:=Q) λf d e O B F=>M f d e Q O B.hr λX C W S J G=>m X C W S (B.trans J) (F.trans G);split
  ·rename_i s
   rw[apR s]at this;exact .inl this
  ·rename_i s
   rw[apQ s]at this;exact this
end
end
end
variable{R:Value}
section
open Go Go.RowKit MapKept
section
variable{P:Program}{Dk:Deferred->Prop}{w0:World}
def Nm.cut(ρ:Nm)(n:Nat):Nm:=λk=>if k<n then ρ k else none
section
variable{ρ:Nm}{n m k:Nat}{p:Nat×Nat}
def Nm.iK(h:k<n):Nm.cut ρ n k=ρ k:=apR h
def Nm.Rv(h:n<=k):Nm.cut ρ n k=none:=apQ (by omega)
def Nm.oN(h:Nm.cut ρ n k=some p):k<n/\ρ k=some p:=by
 by_cases a:k<n
 ·rw[Nm.iK a]at h;exact⟨a,h⟩
 ·rw[Nm.Rv (by omega)]at h;cases h
def Nm.J6(ρ:Nm)(h:n<=m):Ab (Nm.cut ρ n) (Nm.cut ρ m):=λk p b=>by
 obtain⟨c,a⟩:=Nm.oN b;rw[Nm.iK (by omega)];exact a
def Nm.J7(ρ:Nm)(n:Nat):Ab (Nm.cut ρ n) ρ:=λk p a=>(Nm.oN a).2
def Ab.cut{ρ a:Nm}(h:Ab ρ a)(n:Nat):Ab (Nm.cut ρ n) (Nm.cut a n):=λk p d=>by
 obtain⟨b,c⟩:=Nm.oN d;rw[Nm.iK b];exact h _ _ c
end
def Bel(n:Nat)(c:CV):Prop:=∀ρ u,KR ρ c u->KR (Nm.cut ρ n) c u
def KR.FM{ρ1:Nm}{n:Nat}(H:∀k,n<=k->ρ1 k=none)(h:KR ρ1 d j):Bel n d:=by
 have s:∀{k p},ρ1 k=some p->k<n:=λ{k p} x=>by
  by_cases h:k<n
  ·exact h
  ·rw[H k (by omega)]at x;cases x
 induction h with
 |v=>intro ρ u b;cases b;exact .v
 |pt h=>intro ρ u b;cases b with|pt g=>exact .pt (by rw[Nm.iK (s h)];exact g)
 |sl h Q K L M=>intro ρ u b;cases b with|sl g G z A B=>exact .sl (by rw[Nm.iK (s h)];exact g) G z A B
 |mp h=>intro ρ u b;cases b with|mp g=>exact .mp (by rw[Nm.iK (s h)];exact g)
 |gl=>intro ρ u b;cases b;exact .gl
 |ag e l t q=>
  intro ρ u b;cases b with
  |ag r o i=>
   refine .ag r o λa d u c b=>?_;have f:a<e.length:=by rw[l];exact(apV.1 c).1
   exact q a d e[a] c (ap0 f) ρ u (i a d u c b)
 |tu e l t q=>
  intro ρ u b;cases b with
  |tu r o i=>
   refine .tu r o λa d u c b=>?_;have f:a<e.length:=by rw[l];exact(apV.1 c).1
   exact q a d e[a] c (ap0 f) ρ u (i a d u c b)
 |cl e y l E t O q I=>
  intro ρ u b;cases b with
  |cl r J o F i D=>
   refine .cl r J o F (λa d u c b=>?_) (λa d u c b=>?_)
   ·have f:a<e.length:=by rw[l];exact(apV.1 c).1
    exact q a d e[a] c (ap0 f) ρ u (i a d u c b)
   ·have f:a<y.length:=by rw[E];exact(apV.1 c).1
    exact I a d y[a] c (ap0 f) ρ u (D a d u c b)
def Fv(P:Program)(n:Nat)(y:cX):Prop:=∀ρ w b m,BR P ρ w b m y->BR P (Nm.cut ρ n) w b m y
def Fv.mono{n m:Nat}(h:n<=m){y:cX}(a:Fv P n y):Fv P m y:=λρ w b q c=>(a ρ w b q c).mono (Nm.J6 ρ h) rfl
def BR.FM{ρ1:Nm}{n:Nat}(s:∀k,n<=k->ρ1 k=none){w1:World}{B Q:Nat}{y:cX}(h:BR P ρ1 w1 B Q y):Fv P n y:=by
 intro ρ w b m o;cases y with
 |ce W N ext wr=>
  obtain⟨t,us,F,G,e,Y⟩:=h;obtain⟨R,S,g,i,a,H⟩:=o;refine⟨R,S,g,i,λj c q=>?_,H⟩;obtain⟨K,u,O,I,M⟩:=a j c q;obtain⟨_,Z,_,J,_⟩:=e j c q;exact⟨K,u,O,J.FM s ρ u I,M⟩
 |ma t X wr=>
  obtain⟨d,z,l,V,F,G,e⟩:=h;obtain⟨E,U,A,D,g,i,a⟩:=o;refine⟨E,U,A,D,g,i,⟨a.len,λj x v f r=>⟨(a.key j x v f r).1,?_⟩,a.isk,a.jV,a.Pe,a.clk⟩⟩;have L:j<l.size:=by rw[e.len];exact(apV.1 f).1
  exact(e.key j x l[j] f (aqA L)).2.FM s ρ _ (a.key j x v f r).2
section
variable{ρ ρ0 ρ1:Nm}{C h0 Hj H1:KH}{n0 N nj n1:Nat}{ws w w1:World}
def HR.sub(g:HR P w0 ρ C N w)(l:∀k,k<nj->ρ k≠none->Hj k=C k)(o:∀k y,k<nj->ρ k≠none->Hj k=some y->Fv P nj y)(s:∀k,nj<=k->Hj k=none):HR P w0 (Nm.cut ρ nj) Hj nj w:=by
 have h:∀{k x p},Hj k=some x->Nm.cut ρ nj k=some p->k<nj/\C k=some x/\ρ k=some p:=λ{k x p} c r=>by
  obtain⟨e,a⟩:=Nm.oN r;exact⟨e,by rw[<-l k e (by rw[a];simp)];exact c,a⟩
 refine⟨g.ext,λk x b m c d=>?_,λk x b m c d=>?_,λk v x A b m z c u d q t=>?_,λk d=>Nm.Rv d,s⟩
 ·obtain⟨e,a,f⟩:=h c d
  exact o k x e (by rw[f];simp) c _ _ _ _ (g.ob k x b m a f)
 ·obtain⟨e,a,f⟩:=h c d
  exact g.lo k x b m a f
 ·obtain⟨e,a,f⟩:=h c d
  obtain⟨B,i,j⟩:=h u q;exact g.inj k v x A b m z a i f j t
def HR.empty(b:Ext w0 w):HR P w0 (Nm.cut ρ nj) (λ_=>none) nj w:=
 ⟨b,λ_ _ _ _ h=>(by cases h),λ_ _ _ _ h=>(by cases h),λ_ _ _ _ _ _ _ h=>(by cases h),λk a=>Nm.Rv a,λ_ _=>rfl⟩
def HR.same(c:HR P w0 ρ C N w)(e:∀k y,ρ k≠none->Hj k=some y->C k=some y)(i:∀k,nj<=k->Hj k=none)(q:nj<=N):HR P w0 ρ Hj N w:=
 ⟨c.ext,λk x b m d a=>c.ob k x b m (e k x (by rw[a];simp) d) a,λk x b m d a=>c.lo k x b m (e k x (by rw[a];simp) d) a,
  λk g x h b m o d l a f j=>c.inj k g x h b m o (e k x (by rw[a];simp) d) (e g h (by rw[f];simp) l) a f j,c.top,λk a=>i k (by omega)⟩
def KP.agree(c:KP P w0 ρ0 h0 n0 ws ρ C N w)(e:∀k,(k<n0\/ρ k≠none)->Hj k=C k)(i:∀k,N<=k->Hj k=none):KP P w0 ρ0 h0 n0 ws ρ Hj N w:=
 ⟨c.hr.same (λk y a l=>by rw[<-e k (.inr a)];exact l) i (apT _),c.nn,c.ro,c.sz,λb f g=>⟨(c.fr b f g).1,λk x m a d h=>(c.fr b f g).2 k x m a (by rw[<-e k (.inr (by rw[h];simp))];exact d) h⟩,
  λk x a d=>c.ol k x a (by rw[<-e k (.inl a)];exact d),λk x a d j=>by rw[e k (.inl a)];exact c.fz k x a d j⟩
def KP.wide(a:HR P w0 ρ C n0 w)(b:n0<=N):KP P w0 ρ C n0 w ρ C N w:=by
 have k:=KP.refl a;exact⟨⟨a.ext,a.ob,a.lo,a.inj,λx c=>a.top x (by omega),λx c=>a.CE x (by omega)⟩,b,k.ro,k.sz,k.fr,k.ol,k.fz⟩
def vN(n1:Nat)(c b:Nat->Option a):Nat->Option a:=λk=>if k<n1 then c k else b k
def eu{n1 k:Nat}{c b:Nat->Option a}(h:k<n1):vN n1 c b k=c k:=apR h
def hC{n1 k:Nat}{c b:Nat->Option a}(h:n1<=k):vN n1 c b k=b k:=apQ (by omega)
def KP.merge(A:KP P w0 ρ0 h0 n0 ws ρ C N w)(B:KP P w0 (Nm.cut ρ nj) Hj nj w ρ1 H1 n1 w1)(Z:n0<=nj)(a0:n1<=N)(v:∀k,k<nj->(k<n0\/ρ k≠none)->Hj k=C k)(W:∀k,nj<=k->k<n1->ρ k=none):
 KP P w0 ρ0 h0 n0 ws (vN n1 ρ1 ρ) (vN n1 H1 C) N w1/\Ab ρ1 (vN n1 ρ1 ρ)/\Ab ρ (vN n1 ρ1 ρ):=by
 have a3:=B.nn;have L:Ab ρ1 (vN n1 ρ1 ρ):=λk p a=>by rw[eu (B.hr.lt a)];exact a
 have H:∀k,k<nj->ρ1 k=ρ k:=λk a=>by rw[B.ro k a,Nm.iK a]
 have M:Ab ρ (vN n1 ρ1 ρ):=λk p a=>by
  by_cases h:k<n1
  ·rw[eu h]
   by_cases u:k<nj
   ·rw[H k u];exact a
   ·rw[W k (by omega) h]at a;cases a
  ·rw[hC (by omega)];exact a
 have G:∀{k x b m},k<nj->H1 k=some x->ρ1 k=some (b,m)->∃f,C k=some f/\ρ k=some (b,m)/\f.wr=x.wr:=λ{k x b m} a c l=>by
  obtain⟨f,r,g⟩:=B.ol k x a c;rw[H k a]at l;exact⟨f,by rw[<-v k a (.inr (by rw[l];simp))];exact r,l,g⟩
 have E:∀{k x b m},n1<=k->C k=some x->ρ k=some (b,m)->aea (Nm.cut ρ nj) Hj b:=λ{k x b m} a c l d i q e o F=>by
  obtain⟨r,g⟩:=Nm.oN F;have:=A.hr.inj d k i x b q m (by rw[<-v d r (.inr (by rw[g];simp))];exact e) c g l o;omega
 refine⟨⟨⟨B.hr.ext,λk x b m c a=>?_,λk x b m c a=>?_,λk d x i b m q c e a j o=>?_,λk a=>?_,λk a=>?_⟩,A.nn,λk a=>?_,aqM A.sz B.sz,λb z K=>?_,λk i a c=>?_,λk x a c o=>?_⟩,L,M⟩
 ·by_cases h:k<n1
  ·rw[eu h]at c a
   exact(B.hr.ob k x b m c a).mono L rfl
  ·rw[hC (by omega)]at c a
   have z:=A.hr.ob k x b m c a;exact z.mono M (B.fr b z.lt (E (by omega) c a)).1
 ·by_cases h:k<n1
  ·rw[eu h]at c a
   exact B.hr.lo k x b m c a
  ·rw[hC (by omega)]at c a
   exact A.hr.lo k x b m c a
 ·by_cases h:k<n1
  ·rw[eu h]at c a
   by_cases u:d<n1
   ·rw[eu u]at e j
    exact B.hr.inj k d x i b m q c e a j o
   ·rw[hC (by omega)]at e j
    by_cases y:k<nj
    ·obtain⟨f,r,g,I⟩:=G y c a
     exact A.hr.inj k d f i b m q r e g j (I.trans o)
    ·exact absurd a ((B.fr b (A.hr.ob d i b q e j).lt (E (by omega) e j)).2 k x m (by omega) c)
  ·rw[hC (by omega)]at c a
   by_cases u:d<n1
   ·rw[eu u]at e j
    by_cases y:d<nj
    ·obtain⟨f,r,g,I⟩:=G y e j
     exact A.hr.inj k d x f b m q c r a g o
    ·exact absurd j ((B.fr b (A.hr.ob k x b m c a).lt (E (by omega) c a)).2 d i q (by omega) e)
   ·rw[hC (by omega)]at e j
    exact A.hr.inj k d x i b m q c e a j o
 ·rw[hC (by omega)];exact A.hr.top k a
 ·rw[hC (by omega)];exact A.hr.CE k a
 ·rw[eu (by omega),H k (by omega)];exact A.ro k a
 ·obtain⟨O,D⟩:=A.fr b z K
  have V:aea (Nm.cut ρ nj) Hj b:=λd i q e o F=>by
   obtain⟨r,g⟩:=Nm.oN F;have J:C d=some i:=by rw[<-v d r (.inr (by rw[g];simp))];exact e
   by_cases h:d<n0
   ·obtain⟨f,s,t⟩:=A.ol d i h J
    rw[A.ro d h]at g;exact K d f q s (t.trans o) g
   ·exact D d i q (by omega) J g
  obtain⟨Q,R⟩:=B.fr b (by have:=A.sz;omega) V;refine⟨Q.trans O,λk x m a c l=>?_⟩;by_cases h:k<n1
  ·rw[eu h]at c l
   by_cases y:k<nj
   ·obtain⟨f,s,t,Y⟩:=G y c l
    exact D k f m a s t
   ·exact R k x m (by omega) c l
  ·rw[hC (by omega)]at c l
   exact D k x m a c l
 ·rw[eu (by omega)]at c
  obtain⟨f,s,t⟩:=B.ol k i (by omega) c;rw[v k (by omega) (.inl a)]at s;obtain⟨X,S,U⟩:=A.ol k f a s;exact⟨X,S,U.trans t⟩
 ·rw[eu (by omega)]
  have:=A.fz k x a c o;exact B.fz k x (by omega) (by rw[v k (by omega) (.inl a)];exact this) o
def KP.add(A:KP P w0 ρ0 h0 n0 ws ρ C N w)(B:KP P w0 (Nm.cut ρ nj) (λ_=>none) nj w ρ1 H1 n1 w1)(H:n0<=nj)(I:n1<=N)(F:∀k,nj<=k->k<n1->ρ k=none):
 KP P w0 ρ0 h0 n0 ws (vN n1 ρ1 ρ) (λk=>if nj<=k/\k<n1 then H1 k else C k) N w1/\Ab ρ1 (vN n1 ρ1 ρ)/\Ab ρ (vN n1 ρ1 ρ):=by
 have J:=B.nn;have t:Ab ρ1 (vN n1 ρ1 ρ):=λk p a=>by rw[eu (B.hr.lt a)];exact a
 have G:∀k,k<nj->ρ1 k=ρ k:=λk a=>by rw[B.ro k a,Nm.iK a]
 have f:∀k,¬(nj<=k/\k<n1)->vN n1 ρ1 ρ k=ρ k:=λk a=>by
  by_cases h:k<n1
  ·rw[eu h,G k (by omega)]
  ·rw[hC (by omega)]
 have u:Ab ρ (vN n1 ρ1 ρ):=λk p a=>by
  by_cases h:nj<=k/\k<n1
  ·rw[F k h.1 h.2]at a;cases a
  ·rw[f k h];exact a
 have o:∀b,b<w.heap.size->w1.heap[b]? =w.heap[b]? /\∀k x m,nj<=k->H1 k=some x->ρ1 k≠some (b,m):=λb j=>B.fr b j λ_ _ _ h=>(by cases h);refine⟨⟨⟨B.hr.ext,λk x b m c a=>?_,λk x b m c a=>?_,λk e x l b m s c i a g r=>?_,λk a=>?_,λk a=>?_⟩,A.nn,λk a=>?_,aqM A.sz B.sz,λb j E=>?_,λk l a c=>?_,λk x a c r=>?_⟩,t,u⟩
 ·by_cases h:nj<=k/\k<n1
  ·rw[eu h.2]at a
   simp only[apR h]at c;exact(B.hr.ob k x b m c a).mono t rfl
  ·rw[f k h]at a
   simp only[apQ h]at c;have j:=A.hr.ob k x b m c a;exact j.mono u (o b j.lt).1
 ·by_cases h:nj<=k/\k<n1
  ·rw[eu h.2]at a
   simp only[apR h]at c;exact B.hr.lo k x b m c a
  ·rw[f k h]at a
   simp only[apQ h]at c;exact A.hr.lo k x b m c a
 ·by_cases h:nj<=k/\k<n1
  ·rw[eu h.2]at a
   simp only[apR h]at c;by_cases d:nj<=e/\e<n1
   ·rw[eu d.2]at g
    simp only[apR d]at i;exact B.hr.inj k e x l b m s c i a g r
   ·rw[f e d]at g
    simp only[apQ d]at i;exact absurd a ((o b (A.hr.ob e l b s i g).lt).2 k x m h.1 c)
  ·rw[f k h]at a
   simp only[apQ h]at c;by_cases d:nj<=e/\e<n1
   ·rw[eu d.2]at g
    simp only[apR d]at i;exact absurd g ((o b (A.hr.ob k x b m c a).lt).2 e l s d.1 i)
   ·rw[f e d]at g
    simp only[apQ d]at i;exact A.hr.inj k e x l b m s c i a g r
 ·rw[f k (by omega)];exact A.hr.top k a
 ·rw[apQ (by omega)];exact A.hr.CE k a
 ·rw[f k (by omega)];exact A.ro k a
 ·obtain⟨v,y⟩:=A.fr b j E
  obtain⟨z,D⟩:=o b (by have:=A.sz;omega);refine⟨z.trans v,λk x m a c q=>?_⟩;by_cases h:nj<=k/\k<n1
  ·rw[eu h.2]at q
   simp only[apR h]at c;exact D k x m h.1 c q
  ·rw[f k h]at q
   simp only[apQ h]at c;exact y k x m a c q
 ·rw[apQ (by omega)]at c
  exact A.ol k l a c
 ·rw[apQ (by omega)]
  exact A.fz k x a c r
end
def Rx(h:Nat.blt b e=true):b<e:=apY h
def sH{n:Nat}(h:H2 n d=true):Bel n d:=by
 intro ρ u b;cases d with
 |v x=>cases b;exact .v
 |gl=>cases b;exact .gl
 |pt k o=>cases b with|pt a=>exact .pt (by rw[Nm.iK (Rx h)];exact a)
 |sl k o m d=>cases b with|sl a g c e f=>exact .sl (by rw[Nm.iK (Rx h)];exact a) g c e f
 |mp k=>cases b with|mp a=>exact .mp (by rw[Nm.iK (Rx h)];exact a)
 |_=>cases h
def ag4{n:Nat}(h:aj9 n d=true):Bel n d:=by
 unfold aj9 at h;split at h
 ·rename_i l
  intro ρ u a;cases a with
  |ag f e c=>exact .ag f e λj d u b a=>sH (aqg.1 h d (ap_ b)) ρ u (c j d u b a)
 ·rename_i l
  intro ρ u a;cases a with
  |tu f e c=>exact .tu f e λj d u b a=>sH (aqg.1 h d (ap_ b)) ρ u (c j d u b a)
 ·rename_i l k
  intro ρ u a;obtain⟨g,i⟩:=auU.1 h;cases a with
  |cl f r e q c o=>exact .cl f r e q (λj d u b a=>sH (aqg.1 g d (ap_ b)) ρ u (c j d u b a)) λj d u b a=>sH (aqg.1 i d (ap_ b)) ρ u (o j d u b a)
 ·exact sH h
def akc(h:vEq j R=true):j=R:=by
 unfold vEq at h;split at h
 ·simp only[apS,aqQ,sB]at h
  obtain⟨rfl,rfl⟩:=h;rfl
 ·simp at h;rw[h]
 ·rfl
 ·rfl
 ·rfl
 ·rfl
 ·rfl
 ·rw[ei h]
 ·cases h
def J8(h:aet d v=true):d=v:=by
 unfold aet at h;split at h
 ·rw[akc h]
 ·simp at h;rw[h.1,h.2]
 ·simp at h;rw[h.1.1.1,h.1.1.2,h.1.2,h.2]
 ·simp at h;rw[h]
 ·cases h
def yX:∀{l m:List CV},Rr l m=true->l=m
 |[],[],_=>rfl
 |a::l,b::m,h=>by
  simp only[Rr,apS]at h;rw[J8 h.1,yX h.2]
 |[],_::_,h=>by cases h
 |_::_,[],h=>by cases h
def aeA(h:cEq d v=true):d=v:=by
 unfold cEq at h;split at h
 ·rw[yX h]
 ·rw[yX h]
 ·simp only[apS]at h
  rw[ei h.1.1,yX h.1.2,yX h.2]
 ·exact J8 h
def J9:∀{l m:Tr CV},aeu l m=true->l=m
 |.lf,.lf,_=>rfl
 |.nd l x r,.nd f b g,h=>by
  simp only[aeu,apS]at h;obtain⟨⟨c,a⟩,d⟩:=h;have e:x=b:=by
   cases x<;>cases b<;>simp at a
   ·rfl
   ·rw[J8 a]
  rw[J9 c,J9 d,e]
 |.lf,.nd ..,h=>by cases h
 |.nd ..,.lf,h=>by cases h
def Wu{x y:Option cX}(h:ag0 x y=true):x=y:=by
 unfold ag0 at h;split at h
 ·simp at h
  obtain⟨⟨⟨a,b⟩,c⟩,d⟩:=h;rw[J9 a,b,c,d]
 ·simp at h
  rw[h.1,h.2]
 ·cases h
end
end
section
open Go Go.RowKit MapKept
section
variable{P:Program}{Dk:Deferred->Prop}{w0:World}{T:TypeId->bs}
structure TX(l:bp):Prop where
 back:∀(j:Nat) o,l[j]? =some o->∀e∈o.after,Region.binds .any e=true->e.on<j
 inj:Ak l=true
 see:∀(i j:Nat) p o x,l[i]? =some p->l[j]? =some o->x∈tmpsOf o->p.dst=some x->i=j\/nN l i j=true
 gd:∀(j:Nat) o g,l[j]? =some o->o.guard=some g->ee l j g.1=true/\g.1≠j
 row:∀(i j:Nat) p o,l[i]? =some p->l[j]? =some o->eZ p.op=2->eZ o.op=2->i=j\/nN l i j=true
 rd:∀(i j:Nat) o p,l[i]? =some o->l[j]? =some p->eZ o.op=1->eZ p.op=2->nN l i j=false->∀(i':Nat) q x,l[i']? =some q->x∈tmpsOf o->q.dst=some x->ee l i i'=true/\i'≠i
def vO{l:bp}{o p:Oper}(a:l[b]? =some o)(c:l[e]? =some p)(d:eZ o.op=1)(f:eZ p.op=2)(h:nN l b e=false):(b,e)∈Fq l:=by
 refine aq9.2 ⟨b,aqR.2 (apV.1 a).1,atE.2 ⟨e,aqR.2 (apV.1 c).1,?_⟩⟩;simp[a,c,d,f,h]
def Ry{l:bp}{o p:Oper}(a:l[b]? =some o)(c:l[e]? =some p)(d:eZ o.op=0)(f:eZ p.op=2)(g:b<e)(h:ee l e b=false):(b,e)∈aev l:=by
 refine aq9.2 ⟨b,aqR.2 (apV.1 a).1,atE.2 ⟨e,aqR.2 (apV.1 c).1,?_⟩⟩;have:Nat.blt b e=true:=aub g;simp[a,c,d,f,h,this]
def ag5{l:bp}(h:aj8 l=true):TX l:=by
 unfold aj8 at h;simp only[apS]at h;obtain⟨⟨⟨⟨v,w⟩,s⟩,y⟩,z⟩:=h;have c:∀{j:Nat} {o},l[j]? =some o->j∈List.range l.length:=λ{j o} a=>aqR.2 (apV.1 a).1;refine⟨λj o a e C A=>by have:=zi v j o a e C A;omega,w,λi j p o x b a m k=>?_,λj o g a D=>?_,λi j p o b a d f=>?_,λi j o p a b d f B E q x u m k=>?_⟩
 ·have:=aqg.1 s j (c a)
  simp only[a,apS]at this;have:=aqg.1 (aqg.1 this.1 x m) i (c b);simp only[b,k]at this;simpa using this
 ·have:=aqg.1 s j (c a)
  simp only[a,D,apS]at this;exact⟨this.2.1,iV (by simpa using this.2.2)⟩
 ·have:=aqg.1 (aqg.1 y j (c a)) i (c b)
  simp only[a,b,d,f]at this;simpa using this
 ·have:=aqg.1 z _ (vO a b d f B)
  simp only[a]at this;have:=aqg.1 (aqg.1 this x m) E (c u);simp only[u,k,aqO,apS]at this;rcases this with h|h
  ·simp at h
  ·exact⟨h.1,iV (by simpa using h.2)⟩
def TX.le{l:bp}(j:TX l)(h:ee l e b=true):b<=e:=by
 have c:oV l (λk=>decide (k<=e)):=λk o i g a f d=>by
  have m:=j.back k o i a f d;have p:k<=e:=by simpa using g
  simp only[aqQ];omega
 have:=fb c e b h (by simp);simpa using this
def u0(a:bp)(i:Nat):Prop:=∃o,a[i]? =some o/\eZ o.op=2
def Bt(P:Program)(w0:World)(a:bp)(o:Oper)(t:Tr CV)(h:Tr cX):Prop:=Br a o.guard (t.res (mK a o)) false\/∃d c,o.dst=some d/\t.get d=some c/\PK P w0 o (t.res (mK a o)) h c
structure H3(P:Program)(Dk:Deferred->Prop)(w0:World)(ops:bp)(ts:Nat->Tr CV)(hs:Nat->Tr cX)(ns:Nat->Nat):Prop where
 jV:∀(i:Nat) o,ops[i]? =some o->Ru P Dk w0 ops o (ts i) (hs i) (ns i) (ts (i+1)) (hs (i+1)) (ns (i+1))
 mono:∀(i:Nat),i<ops.length->ns i<=ns (i+1)
 made:∀(i j:Nat) p o,ops[i]? =some p->ops[j]? =some o->eZ p.op=0->eZ o.op=2->i<j->ee ops j i=false->ns i=ns (i+1)\/(hs (i+1)).get (ns i)=(hs (j+1)).get (ns i)
 rd:∀(i j:Nat) o p,ops[i]? =some o->ops[j]? =some p->eZ o.op=1->eZ p.op=2->nN ops i j=false->Bt P w0 ops o (ts ops.length) (hs j)/\Bt P w0 ops o (ts ops.length) (hs (j+1))
 bl:∀(i j:Nat) o p d c,ops[i]? =some o->ops[j]? =some p->eZ o.op=1->eZ p.op=2->nN ops i j=false->o.dst=some d->(ts ops.length).get d=some c->Bel (ns i) c
section
variable{t:Tr CV}{h:Tr cX}{n:Nat}{R:Type}{r:R}{ID:FuncId->Bool}{call:KC R}
def H4(w:gw P T)(s:∀b o u,GT b o u->w0.cell? ⟨b,o,none⟩=some u)(v:jM Dk ID)(x:gJ P w0 call){a:bp}{o:Oper}(i:eZ o.op=1){k:Option R}(f:sameAt T ID call a o t n h k=some r):k=some r/\Bt P w0 a o t h:=by
 unfold sameAt at f;rw[Fs (Ws (ops:=a) (o:=o))]at f;rcases O4 f with⟨g,l⟩|⟨g,l⟩
 ·obtain⟨d,z,B⟩:=bA g
  obtain⟨G,y,j⟩:=bA B;rw[O6 (Wr (ops:=a) (o:=o))]at j;obtain⟨p,J,F,E,m,q⟩:=o;obtain⟨c,H,I,e,C⟩:=aey (d:=p) (ty:=F) (pos:=E) (af:=m) (gd:=q) w s v x j;obtain⟨A,D⟩:=bg C;obtain rfl:=aeA A;unfold js at e;simp only at i;rw[i]at e;exact⟨D,.inr ⟨d,c,z,y,e.2.2⟩⟩
 ·exact⟨g,.inl l⟩
def Wv(w:gw P T)(s:∀b o u,GT b o u->w0.cell? ⟨b,o,none⟩=some u)(v:jM Dk ID)(y:gJ P w0 call){a:bp}{c:Acc}{k:Option R}:∀{l:bH},(∀p∈l,∀o,a[p.1]? =some o->eZ o.op=1)->am3 T ID call a c t n l k=some r->
 k=some r/\∀p∈l,∀o,a[p.1]? =some o->∀e∈c,e.1=p.2->Bt P w0 a o t e.2.1.2/\Bt P w0 a o t e.2.2.2
 |[],_,f=>⟨f,λp O=>by cases O⟩
 |p::l,G,f=>by
  obtain⟨o,I,g⟩:=bA f;have H:=G p (by simp) o I;have Q:∀{c:Acc} {j:Option R},(List.rec (motive:=λ_=>Option R) j (λe _ M=>bB (Nat.beq e.1 p.2) (sameAt T ID call a o t n e.2.1.2 (sameAt T ID call a o t n e.2.2.2 M)) M) c:Option R)=some r->
   j=some r/\∀e∈c,e.1=p.2->Bt P w0 a o t e.2.1.2/\Bt P w0 a o t e.2.2.2:=by
   intro c
   induction c with
   |nil=>intro j f;exact⟨f,λe i=>by cases i⟩
   |cons e c L=>
    intro j f;rcases dC f with⟨x,g⟩|⟨x,g⟩
    ·obtain⟨A,D⟩:=H4 w s v y H g
     obtain⟨B,E⟩:=H4 w s v y H A;obtain⟨C,F⟩:=L B;exact⟨C,λm z d=>(aqj.1 z).elim (λq=>by subst q;exact⟨D,E⟩) (λq=>F m q d)⟩
    ·obtain⟨C,F⟩:=L g
     refine⟨C,λm z d=>(aqj.1 z).elim (λq=>?_) (λq=>F m q d)⟩;subst q;rw[d]at x;simp at x
  obtain⟨A,D⟩:=Q g;obtain⟨B,E⟩:=Wv w s v y (λq d=>G q (by simp[d])) A;refine⟨B,λq d S J e i K=>(aqj.1 d).elim (λN=>?_) (λU=>E q U S J e i K)⟩;subst N;obtain rfl:=apZ (I.symm.trans J);exact D e i K
def Ww(E:gw P T)(C:∀b o u,GT b o u->w0.cell? ⟨b,o,none⟩=some u)(D:jM Dk ID)(F:gJ P w0 call){c:bp}{k:Acc->KK R}:∀(l:bp) (i:Nat) {t:Tr CV} {h:Tr cX} {n:Nat} {m:Acc},c.drop i=l->am4 T ID call c l i m k t h n=some r->
 ∃(g:Nat->Tr CV) (d:Nat->Tr cX) (f:Nat->Nat) (p:Acc),g i=t/\d i=h/\f i=n/\(∀(j:Nat) o,i<=j->c[j]? =some o->Ru P Dk w0 c o (g j) (d j) (f j) (g (j+1)) (d (j+1)) (f (j+1)))/\
  (∀(j:Nat),i<=j->j<c.length->(j,(f j,d j),(f (j+1),d (j+1)))∈p)/\(∀e∈m,e∈p)/\k p (g c.length) (d c.length) (f c.length)=some r
 |[],i,t,h,n,m,q,y=>by
  have z:c.length<=i:=List.drop_eq_nil_iff.1 q;exact⟨λ_=>t,λ_=>h,λ_=>n,m,rfl,rfl,rfl,λj o w s=>by have:=(apV.1 s).1;omega,λj w z=>by omega,λe v=>v,y⟩
 |o::l,i,t,h,n,m,q,y=>by
  obtain⟨W,S,V,d,L⟩:=Ft E C D F y;have K:c.drop (i+1)=l:=by rw[<-arX,q];rfl
  have s:c[i]? =some o:=by
   have:=ap5 (·[0]?) q;simpa using this
  have U:=(apV.1 s).1;obtain⟨g,N,f,p,I,A,B,O,J,H,M⟩:=Ww E C D F l (i+1) K L;refine⟨λj=>if j<=i then t else g j,λj=>if j<=i then h else N j,λj=>if j<=i then n else f j,p,by simp,by simp,by simp,λj Q w G=>?_,λj w z=>?_,λe v=>H e (by simp[v]),?_⟩
  ·by_cases x:j=i
   ·subst x
    obtain rfl:=apZ (s.symm.trans G);have a:¬j+1<=j:=by omega
    simp only[apT,aqs,apQ a,I,A,B];exact d
   ·have a:¬j<=i:=by omega
    have b:¬j+1<=i:=by omega
    simp only[apQ a,apQ b];exact O j Q (by omega) G
  ·by_cases x:j=i
   ·subst x
    have a:¬j+1<=j:=by omega
    simp only[apT,aqs,apQ a,A,B];exact H _ (by simp)
   ·have a:¬j<=i:=by omega
    have b:¬j+1<=i:=by omega
    simp only[apQ a,apQ b];exact J j (by omega) z
  ·have a:¬c.length<=i:=by omega
   simp only[apQ a];exact M
def Y2(C:gw P T)(A:∀b o u,GT b o u->w0.cell? ⟨b,o,none⟩=some u)(B:jM Dk ID)(g:gJ P w0 call){f:bp}{k:KK R}(O:Wp T ID call f k t h n=some r):
 TX f/\∃(x:Nat->Tr CV) (v:Nat->Tr cX) (w:Nat->Nat),x 0=t/\v 0=h/\w 0=n/\H3 P Dk w0 f x v w/\k (x f.length) (v f.length) (w f.length)=some r:=by
 obtain⟨W,Q⟩:=bg O;have Z:=ag5 W;obtain⟨x,v,w,a0,F,G,H,Y,s,_,S⟩:=Ww C A B g f 0 rfl Q;obtain⟨y,U⟩:=bg S;simp only[apS]at y;have K:∀p∈Fq f,∀o,f[p.1]? =some o->eZ o.op=1:=λp a o e=>by
  obtain⟨i,E,a⟩:=aq9.1 a;obtain⟨j,hj,a⟩:=atE.1 a;split at a
  ·rename_i o1 p1 q h2
   split at a
   ·rename_i D
    cases a;obtain rfl:=apZ (q.symm.trans e);simp only[apS]at D;exact ei D.1.1
   ·cases a
  ·cases a
 obtain⟨V,X⟩:=Wv C A B g K U;have z:∀{i:Nat} {o},f[i]? =some o->i<f.length:=λe=>(apV.1 e).1;refine⟨Z,x,v,w,F,G,H,⟨λi o e=>Y i o (aql _) e,λi E=>?_,λi j p o a e l m N I=>?_,λi j o p e a l m g=>?_,λi j o p d c e a l m g L J=>?_⟩,V⟩
 ·have:=aqg.1 y.2 _ (s i (aql _) E)
  simp only[apS]at this;exact apY this.1
 ·have:=aqg.1 y.1 _ (Ry a e l m N I)
  have:=aqg.1 this _ (s i (aql _) (z a));simp only[aqO,aqp,ap9,aru,false_or]at this;rcases this with q|q
  ·exact .inl (ei q)
  ·have:=aqg.1 q _ (s j (aql _) (z e))
   simp only[aqO,aqp,ap9,aru,false_or]at this;exact .inr (Wu this)
 ·exact X _ (vO e a l m g) o e _ (s j (aql _) (z a)) rfl
 ·have:=aqg.1 y.2 _ (s i (aql _) (z e))
  simp only[apS]at this;have:=aqg.1 this.2 _ (vO e a l m g);have M:oM f i=some d:=by simp[oM,e,L]
  simp only[aqp,ap9,M,J,atT]at this;exact ag4 this
end
end
end
variable{M:KH}{B L:Tr cX}
section
open Go Go.RowKit MapKept
section
variable{P:Program}{Dk:Deferred->Prop}{w0:World}{T:TypeId->bs}
def Ru.non{ops:bp}{o:Oper}{h i:Tr cX}(hs:Ru P Dk w0 ops o u h b H i e)(p:eZ o.op≠2):∃d,e=yT b d/\(∀k,i.get k=tW h.get b d k)/\(d≠none->eZ o.op=0):=by
 cases hs with
 |run c l v s r f q=>
  unfold js at f;split at f
  ·rename_i g
   obtain⟨t,d,_,l,n,_⟩:=f;exact⟨d,l,n,λ_=>g⟩
  ·obtain⟨rfl,rfl,_⟩:=f
   exact⟨none,rfl,λ_=>rfl,λh=>absurd rfl h⟩
  ·rename_i g m
   exfalso;have:eZ o.op=0\/eZ o.op=1\/eZ o.op=2:=by
    unfold eZ;split<;>simp
   rcases this with h|h|h
   ·exact g h
   ·exact m h
   ·exact p h
 |skip s r q=>exact⟨none,rfl,λ_=>rfl,λh=>absurd rfl h⟩
def Ru.keep{ops:bp}{o:Oper}(hs:Ru P Dk w0 ops o u B b H L e)(f:eZ o.op≠2)(h:D<b):L.get D=B.get D:=by
 obtain⟨g,_,d,_⟩:=hs.non f;rw[d];cases g with
 |none=>rfl
 |some c=>exact apQ (by omega)
def Ru.put{ops:bp}{o:Oper}(hs:Ru P Dk w0 ops o u B b H L e):∃c,BJ o.dst c u H:=by
 cases hs with
 |run c h k g f i d=>exact⟨c,d⟩
 |skip g f d=>exact⟨_,d⟩
section
variable{ops:bp}{ts:Nat->Tr CV}{hs:Nat->Tr cX}{ns:Nat->Nat}
def H3.le(c:H3 P Dk w0 ops ts hs ns){a b:Nat}(h:a<=b)(f:b<=ops.length):ns a<=ns b:=by
 induction b with
 |zero=>obtain rfl:a=0:=by omega
        exact apT _
 |succ b d=>
  by_cases e:a=b+1
  ·subst e;exact apT _
  ·exact aqM (d (by omega) (by omega)) (c.mono b (by omega))
def H3.ub(q:H3 P Dk w0 ops ts hs ns){x a b:Nat}(h:a<=b)(t:b<=ops.length)(g:∀i,a<=i->i<b->∀o,ops[i]? =some o->o.dst≠some x):(ts b).get x=(ts a).get x:=by
 induction b with
 |zero=>obtain rfl:a=0:=by omega
        rfl
 |succ b r=>
  by_cases e:a=b+1
  ·subst e;rfl
  ·have n:b<ops.length:=by omega
   have k:ops[b]? =some ops[b]:=ap0 n;rw[<-r (by omega) (by omega) λi m s=>g i m (by omega)];obtain⟨c,l⟩:=(q.jV b _ k).put;have p:=g b (by omega) (by omega) _ k;cases f:(ops[b]).dst with
   |none=>rw[l.1 f]
   |some d=>
    rw[(l.2 d f).2 x,apQ];intro e;subst e;exact p f
def H3.RM(f:H3 P Dk w0 ops ts hs ns){k a b:Nat}(h:a<=b)(r:b<=ops.length)(c:∀i,a<=i->i<b->¬u0 ops i)(m:k<ns a):(hs b).get k=(hs a).get k:=by
 induction b with
 |zero=>obtain rfl:a=0:=by omega
        rfl
 |succ b p=>
  by_cases e:a=b+1
  ·subst e;rfl
  ·have n:b<ops.length:=by omega
   have d:ops[b]? =some ops[b]:=ap0 n;rw[<-p (by omega) (by omega) λi g q=>c i g (by omega)];exact(f.jV b _ d).keep (λl=>c b (by omega) (by omega) ⟨_,d,l⟩) (arV m (f.le (by omega) (by omega)))
def H3.ahS(t:H3 P Dk w0 ops ts hs ns){a b:Nat}(h:a<=b)(y:b<=ops.length)(f:∀i,a<=i->i<b->¬u0 ops i)(d:∀k,ns a<=k->(hs a).get k=none):∀k,ns b<=k->(hs b).get k=none:=by
 induction b with
 |zero=>obtain rfl:a=0:=by omega
        exact d
 |succ b u=>
  by_cases e:a=b+1
  ·subst e;exact d
  ·have s:b<ops.length:=by omega
   have g:ops[b]? =some ops[b]:=ap0 s;have l:=u (by omega) (by omega) λi q x=>f i q (by omega);obtain⟨v,n,p,_⟩:=(t.jV b _ g).non (λr=>f b (by omega) (by omega) ⟨_,g,r⟩);intro k c;rw[p];rw[n]at c;cases v with
   |none=>exact l k c
   |some m=>
    have:ns b+1<=k:=c;show(if k=ns b then some m else(hs b).get k)=none;rw[apQ (by omega)];exact l k (by omega)
def Gd(ops:bp)(ns:Nat->Nat)(S:Nat->Bool)(k x:Nat):Prop:=x<=ops.length/\k<ns x/\(∀i,u0 ops i->S i=true->i<x)/\∀i,u0 ops i->i<x->S i=false->ns i<=k
structure jU(P:Program)(Dk:Deferred->Prop)(w0:World)(ops:bp)(ts:Nat->Tr CV)(hs:Nat->Tr cX)(ns:Nat->Nat)(ρ0:Nm)(a0:Act)(ws:World)(S:Nat->Bool)(ρ:Nm)(C:KH)(a:Act)(w:World):Prop where
 kp:KP P w0 ρ0 (hs 0).get (ns 0) ws ρ C (ns ops.length) w
 t1:∀(i:Nat) o x c,ops[i]? =some o->o.dst=some x->S i=true->(ts ops.length).get x=some c->∃v,a.tmps[x]? =some v/\KR (Nm.cut ρ (ns (i+1))) c v
 t0:∀x c,(∀(i:Nat) o,ops[i]? =some o->o.dst=some x->S i=false)->(ts 0).get x=some c->∃v,a.tmps[x]? =some v/\KR (Nm.cut ρ (ns 0)) c v
 hg:∀k x,(k<ns 0\/ρ k≠none)->Gd ops ns S k x->C k=(hs x).get k
 hb:∀k x y,ρ k≠none->Gd ops ns S k x->(hs x).get k=some y->Fv P (ns x) y
 CE:∀x,x<=ops.length->(∀i,i<x->u0 ops i->S i=true)->∀k,ns x<=k->(hs x).get k=none
 own:∀k,ρ k≠none->k<ns 0\/∃i,i<ops.length/\S i=true/\ns i<=k/\k<ns (i+1)
 df:Df Dk a0 a
variable{ρ0 ρ:Nm}{a0 a:Act}{ws w:World}{S:Nat->Bool}{C:KH}
def jU.at(r:H3 P Dk w0 ops ts hs ns)(d:jU P Dk w0 ops ts hs ns ρ0 a0 ws S ρ C a w){x:Nat}(g:x<=ops.length)(p:∀i,u0 ops i->S i=true->i<x)(l:∀i,i<x->u0 ops i->S i=true):
 (∀k,k<ns x->(k<ns 0\/ρ k≠none)->(hs x).get k=C k)/\HR P w0 (Nm.cut ρ (ns x)) (hs x).get (ns x) w/\HR P w0 ρ (hs x).get (ns ops.length) w:=by
 have m:∀k,k<ns x->Gd ops ns S k x:=λk b=>⟨g,b,p,λi q c n=>by rw[l i c q]at n;cases n⟩;have f:∀k,k<ns x->(k<ns 0\/ρ k≠none)->(hs x).get k=C k:=λk b c=>(d.hg k x c (m k b)).symm;have h:=d.CE x g l;refine⟨f,d.kp.hr.sub (λk b c=>f k b (.inr c)) (λk y b c e=>d.hb k x y c (m k b) e) h,d.kp.hr.same (λk y c e=>?_) h (r.le g (apT _))⟩;by_cases b:k<ns x
 ·rw[<-f k b (.inr c)];exact e
 ·rw[h k (by omega)]at e;cases e
section
variable{j:Nat}{o:Oper}
structure Y7(ops:bp)(S:Nat->Bool)(j:Nat):Prop where
 no:S j=false
 ah:∀i,ee ops j i=true->i≠j->S i=true
 be:∀i,S i=true->ee ops i j=false
 cl:∀i i',S i'=true->ee ops i' i=true->S i=true
def Y7.of(q:ops[j]? =some o)(d:oV ops S)(f:S j=false)(r:∀e∈o.after,Region.binds .any e=true->S e.on=true):Y7 ops S j:=by
 have p:oV ops (λi=>S i||i==j):=λi t l g e k b=>by
  by_cases c:i=j
  ·subst c
   obtain rfl:=apZ (q.symm.trans l);simp[r e k b]
  ·have:S i=true:=by simpa[c]using g
   simp[d i t l this e k b]
 refine⟨f,λi b c=>?_,λi g=>?_,λi s m n=>fb d s i n m⟩
 ·have:=fb p j i b (by simp)
  simpa[c]using this
 ·cases h:ee ops i j with
  |false=>rfl
  |true=>rw[fb d i j h g]at f;cases f
def jU.free(c:H3 P Dk w0 ops ts hs ns)(g:jU P Dk w0 ops ts hs ns ρ0 a0 ws S ρ C a w)(f:Y7 ops S j)(t:j<ops.length):∀k,ns j<=k->k<ns (j+1)->ρ k=none:=λk m n=>by
 cases l:ρ k with
 |none=>rfl
 |some p=>
  exfalso;rcases g.own k (by rw[l];simp)with h|⟨i,s,d,q,r⟩
  ·have:=c.le (aql j) (by omega)
   omega
  ·rcases arx i j with e|e|e
   ·have:=c.le (a:=i+1) (b:=j) (by omega) (by omega)
    omega
   ·subst e;rw[f.no]at d;cases d
   ·have:=c.le (a:=j+1) (b:=i) (by omega) (by omega)
    omega
def jU.am7(t:TX ops)(s:H3 P Dk w0 ops ts hs ns)(D:jU P Dk w0 ops ts hs ns ρ0 a0 ws S ρ C a w)(z:Y7 ops S j)(E:ops[j]? =some o):mJ (Nm.cut ρ (ns j)) ((ts j).res (mK ops o)) a:=by
 have O:=(apV.1 E).1;intro x c n;rw[Tr.ng]at n;have A:mK ops o x=true:=by
  cases h:mK ops o x with
  |true=>rfl
  |false=>rw[h]at n;cases n
 rw[apR A]at n;have M:∀(i:Nat) p,ops[i]? =some p->p.dst=some x->i=j\/nN ops i j=true:=λi p q r=>by
  unfold mK at A;rw[aqO]at A;rcases A with h|h
  ·exact t.see i j p o x q E (auz.1 h) r
  ·split at h
   ·rename_i g K
    obtain⟨b,f,k⟩:=ar9.1 (by simpa using h:oM ops g.1=some x);have J:=t.gd j o g E K;obtain rfl:i=g.1:=gR t.inj i g.1 p b x q f r k;exact .inr (by simp[nN,J.1])
   ·cases h
 by_cases B:∃(i:Nat) (p:Oper),ops[i]? =some p/\p.dst=some x
 ·obtain⟨i,p,q,r⟩:=B
  have N:=(apV.1 q).1;have G:∀d b,ops[d]? =some b->b.dst=some x->d=i:=λd b f k=>gR t.inj d i b p x f q k r;have F:S i=false->j<=i->∃u,a.tmps[x]? =some u/\KR (Nm.cut ρ (ns j)) c u:=λy L=>by
   rw[s.ub (aql j) (by omega) λd f k b l m=>by have:=G d b l m;omega]at n;obtain⟨v,f,k⟩:=D.t0 x c (λd b l m=>by rw[G d b l m];exact y) n;exact⟨v,f,k.mono (Nm.J6 ρ (s.le (aql j) (by omega)))⟩
  rcases M i p q r with e|e
  ·subst e;exact F z.no (apT _)
  ·simp only[nN,aqO]at e
   by_cases H:i=j
   ·subst H;exact F z.no (apT _)
   rcases e with e|e
   ·have y:=z.ah i e H
    have L:=t.le e;have I:(ts ops.length).get x=some c:=by
     rw[s.ub (a:=j) (by omega) (apT _) λd f k b l m=>by have:=G d b l m;omega];exact n
    obtain⟨v,f,k⟩:=D.t1 i p x c q r y I;exact⟨v,f,k.mono (Nm.J6 ρ (s.le (by omega) (by omega)))⟩
   ·have y:S i=false:=by
     cases h:S i with
     |false=>rfl
     |true=>rw[z.be i h]at e;cases e
    exact F y (t.le e)
 ·rw[s.ub (aql j) (by omega) λd f k b l m=>B ⟨d,b,l,m⟩]at n
  obtain⟨v,f,k⟩:=D.t0 x c (λd b l m=>absurd ⟨d,b,l,m⟩ B) n;exact⟨v,f,k.mono (Nm.J6 ρ (s.le (aql j) (by omega)))⟩
def jU.next(A:TX ops)(J:H3 P Dk w0 ops ts hs ns)(v:jU P Dk w0 ops ts hs ns ρ0 a0 ws S ρ C a w)(U:Y7 ops S j)(g:ops[j]? =some o)(Y:BJ o.dst d (ts j) (ts (j+1))){D:vV}
 (H:Ab ρ m) (hv:KR (Nm.cut m (ns (j+1))) d R) (N:∀b∈D,Dk b)
 (kp:KP P w0 ρ0 (hs 0).get (ns 0) ws m M (ns ops.length) s)
 (W:∀k x,(k<ns 0\/m k≠none)->Gd ops ns (λi=>S i||i==j) k x->M k=(hs x).get k)
 (Q:∀k x y,m k≠none->Gd ops ns (λi=>S i||i==j) k x->(hs x).get k=some y->Fv P (ns x) y)
 (a2:∀x,x<=ops.length->(∀i,i<x->u0 ops i->(S i||i==j)=true)->∀k,ns x<=k->(hs x).get k=none)
 (own:∀k,m k≠none->k<ns 0\/∃i,i<ops.length/\(S i||i==j)=true/\ns i<=k/\k<ns (i+1)):
 jU P Dk w0 ops ts hs ns ρ0 a0 ws (λi=>S i||i==j) m M (({a with defers:=D++a.defers}:Act).put o.dst R) s:=by
 have a3:=(apV.1 g).1;have K:∀{x},o.dst≠some x->(({a with defers:=D++a.defers}:Act).put o.dst R).tmps[x]? =a.tmps[x]? :=λ{x} z=>by
  cases V:o.dst with
  |none=>rfl
  |some b=>
   rw[V]at z;simp only[Act.put];rw[atf (λe=>z (by rw[e]))]
 refine⟨kp,λi p x B F h Z q=>?_,λx B I q=>?_,W,Q,a2,own,v.df.trans ⟨D,N,by rw[put_defers]⟩⟩
 ·by_cases E:i=j
  ·subst E
   obtain rfl:=apZ (g.symm.trans F);obtain⟨⟨L,G⟩,O⟩:=Y.2 x h;rw[J.ub (a:=i+1) (by omega) (apT _) λr l n t c f=>by have:=gR A.inj r i t o x c g f h;omega,O x,apR rfl]at q;cases q;rw[J.ub (a:=0) (aql _) (by omega) λr l n t c f=>by have:=gR A.inj r i t o x c g f h;omega]at G;obtain⟨u,hu,_⟩:=v.t0 x L (λr t c f=>by rw[gR A.inj r i t o x c g f h];exact U.no) G;have X:=(aqx.1 hu).1;exact⟨R,by rw[h];simp[Act.put,X],hv⟩
  ·have a1:S i=true:=by simpa[E]using Z
   rw[K λe=>E (gR A.inj i j p o x F g h e)];obtain⟨u,l,n⟩:=v.t1 i p x B F h a1 q;exact⟨u,l,n.mono (H.cut _)⟩
 ·have z:o.dst≠some x:=λe=>by have:=I j o g e;simp at this
  rw[K z];obtain⟨u,l,n⟩:=v.t0 x B (λi p c f=>by have:=I i p c f;simp at this;exact this.1) q;exact⟨u,l,n.mono (H.cut _)⟩
end
end
end
end
section
open Go Go.RowKit MapKept
section
variable{P:Program}{Dk:Deferred->Prop}{w0:World}{T:TypeId->bs}
section
variable{ops:bp}{ts:Nat->Tr CV}{hs:Nat->Tr cX}{ns:Nat->Nat}{ρ0 ρ ρ1:Nm}{a0 a:Act}{ws w w1:World}{S:Nat->Bool}{C:KH}{j:Nat}{o:Oper}{c:CV}{v:Value}{D:vV}
def jU.aeB(hx:TX ops)(l:H3 P Dk w0 ops ts hs ns)(n:jU P Dk w0 ops ts hs ns ρ0 a0 ws S ρ C a w)(I:Y7 ops S j)(z:ops[j]? =some o)(hp:BJ o.dst c (ts j) (ts (j+1)))(a3:eZ o.op≠2){nb:Option cX}(t:ns (j+1)=yT (ns j) nb)
 (hh:∀k,(hs (j+1)).get k=tW (hs j).get (ns j) nb k) (a8:nb≠none->eZ o.op=0) (B:KP P w0 (Nm.cut ρ (ns j)) (λ_=>none) (ns j) w ρ1 (tW (λ_=>none) (ns j) nb) (yT (ns j) nb) w1)
 (hv:KR ρ1 c v) (hD:∀d∈D,Dk d):∃ρ2 Z,jU P Dk w0 ops ts hs ns ρ0 a0 ws (λi=>S i||i==j) ρ2 Z (({a with defers:=D++a.defers}:Act).put o.dst v) w1:=by
 have J:=(apV.1 z).1;have a4:=n.free l I J;have ad:=l.mono j J;have a1:=l.le (aql j) (by omega);have a5:=l.le (a:=j+1) (by omega) (apT _);rw[<-t]at B;obtain⟨kp,l1,l2⟩:=n.kp.add B a1 a5 a4;have W:∀{i},u0 ops i->i≠j:=λ{i} f e=>by
  subst e;obtain⟨o',r,V⟩:=f;obtain rfl:=apZ (z.symm.trans r);exact a3 V
 have M:∀k,¬(ns j<=k/\k<ns (j+1))->vN (ns (j+1)) ρ1 ρ k=ρ k:=λk g=>by
  by_cases h:k<ns (j+1)
  ·rw[eu h,B.ro k (by omega),Nm.iK (by omega)]
  ·rw[hC (by omega)]
 have U:∀{k x},Gd ops ns (λi=>S i||i==j) k x->Gd ops ns S k x:=λ{k x} ⟨O,Q,R,G⟩=>⟨O,Q,λi f L=>R i f (by simp[L]),λi f m L=>G i f m (by simp[L,W f])⟩;have Y:∀{k x},ns j<=k->k<ns (j+1)->Gd ops ns (λi=>S i||i==j) k x->j+1<=x/\(hs x).get k=tW (λ_=>none) (ns j) nb k:=λ{k x} r V ⟨O,Q,R,G⟩=>by
  have X:j+1<=x:=by
   by_cases h:x<=j
   ·have:=l.le h (by omega);omega
   ·omega
  cases u:nb with
  |none=>rw[u]at t;simp only[yT]at t;omega
  |some b=>
   have g:k=ns j:=by rw[u]at t;simp only[yT]at t;omega
   have h0:=a8 (by rw[u];simp);refine⟨X,?_⟩;have N:(hs (j+1)).get k=some b:=by rw[hh,u];exact apR g
   have ac:∀y,j+1<=y->y<=x->(hs y).get k=some b:=by
    intro y A ae
    induction y with
    |zero=>omega
    |succ y ih=>
     by_cases e:y=j
     ·subst e;exact N
     ·have ab:=ih (by omega) (by omega)
      have a7:y<ops.length:=by omega
      have K:ops[y]? =some ops[y]:=ap0 a7;have a6:k<ns y:=by have:=l.le (a:=j+1) (b:=y) (by omega) (by omega);omega
      by_cases H:eZ (ops[y]).op=2
      ·have f:u0 ops y:=⟨_,K,H⟩
       have a9:S y=true:=by
        cases h:S y with
        |true=>rfl
        |false=>have:=G y f (by omega) (by simp[h,e]);omega
       rcases l.made j y o _ z K h0 H (by omega) (I.be y a9)with h|h
       ·omega
       ·rw[<-g]at h
        rw[<-h];exact N
      ·rw[(l.jV y _ K).keep H a6];exact ab
   rw[ac x X (apT _)];exact(apR g).symm
 refine⟨_,_,n.next hx l I z hp l2 (hv.mono λk p g=>?_) hD kp (λk x m s=>?_) (λk x y m s A=>?_) (λx aa a2=>n.CE x aa λi r f=>?_) (λk g=>?_)⟩
 ·have:=B.hr.lt g
  rw[Nm.iK this];exact l1 k p g
 ·by_cases h:ns j<=k/\k<ns (j+1)
  ·rw[apR h]
   exact(Y h.1 h.2 s).2.symm
  ·rw[apQ h]
   rw[M k h]at m;exact n.hg k x m (U s)
 ·by_cases h:ns j<=k/\k<ns (j+1)
  ·obtain⟨E,F⟩:=Y h.1 h.2 s
   rw[eu h.2]at m;rw[F]at A;obtain⟨q,hq⟩:=atc.1 m;exact((B.hr.ob k y q.1 q.2 A hq).FM B.hr.top).mono (l.le E s.1)
  ·rw[M k h]at m
   exact n.hb k x y m (U s) A
 ·have:=a2 i r f
  simpa[W f]using this
 ·by_cases h:ns j<=k/\k<ns (j+1)
  ·exact .inr ⟨j,J,by simp,h.1,h.2⟩
  ·rw[M k h]at g
   rcases n.own k g with r|⟨i,E,F,e3⟩
   ·exact .inl r
   ·exact .inr ⟨i,E,by simp[F],e3⟩
def Y7.row(g:TX ops)(f:Y7 ops S j)(b:u0 ops j):(∀i,u0 ops i->S i=true->i<j)/\∀i,i<j->u0 ops i->S i=true:=by
 obtain⟨o,q,m⟩:=b;have h:∀i,u0 ops i->i=j\/nN ops i j=true:=λi ⟨p,k,l⟩=>g.row i j p o k q l m;refine⟨λi b d=>?_,λi r b=>?_⟩
 ·rcases h i b with e|e
  ·subst e;rw[f.no]at d;cases d
  ·simp only[nN,aqO]at e
   rcases e with e|e
   ·by_cases n:i=j
    ·subst n;rw[f.no]at d;cases d
    ·have:=g.le e;omega
   ·rw[f.be i d]at e;cases e
 ·rcases h i b with e|e
  ·omega
  ·simp only[nN,aqO]at e
   rcases e with e|e
   ·exact f.ah i e (by omega)
   ·have:=g.le e;omega
def jU.ahT(R:TX ops)(l:H3 P Dk w0 ops ts hs ns)(m:jU P Dk w0 ops ts hs ns ρ0 a0 ws S ρ C a w)(I:Y7 ops S j)(K:ops[j]? =some o)(hp:BJ o.dst c (ts j) (ts (j+1)))(a3:eZ o.op=2)
 (B:KP P w0 (Nm.cut ρ (ns j)) (hs j).get (ns j) w ρ1 (hs (j+1)).get (ns (j+1)) w1)
 (hv:KR ρ1 c v) (hD:∀d∈D,Dk d):∃ρ2 Y,jU P Dk w0 ops ts hs ns ρ0 a0 ws (λi=>S i||i==j) ρ2 Y (({a with defers:=D++a.defers}:Act).put o.dst v) w1:=by
 have J:=(apV.1 K).1;have Q:u0 ops j:=⟨o,K,a3⟩;have a4:=m.free l I J;have a6:=l.mono j J;have a1:=l.le (aql j) (by omega);have a5:=l.le (a:=j+1) (by omega) (apT _);obtain⟨M,r2⟩:=I.row R Q;obtain⟨a2,_,_⟩:=m.at l (by omega:j<=ops.length) M r2;obtain⟨kp,l1,l2⟩:=m.kp.merge B a1 a5 a2 a4;have X:∀{k x},k<ns (j+1)->Gd ops ns (λi=>S i||i==j) k x->j+1<=x/\(hs x).get k=(hs (j+1)).get k:=λ{k x} g ⟨E,N,F,G⟩=>by
  have U:j<x:=F j Q (by simp);refine⟨U,l.RM U E (λi r H f=>?_) g⟩;have z:S i=false:=by
   cases h:S i with
   |false=>rfl
   |true=>have:=M i f h;omega
  have:=G i f H (by simp[z];omega);have:=l.le (a:=j+1) (b:=i) r (by omega);omega
 have W:∀{k x},ns (j+1)<=k->Gd ops ns (λi=>S i||i==j) k x->Gd ops ns S k x:=λ{k x} g ⟨E,N,F,G⟩=>⟨E,N,λi f z=>F i f (by simp[z]),λi f n z=>by
  by_cases e:i=j
  ·subst e;omega
  ·exact G i f n (by simp[z,e])⟩
 refine⟨_,_,m.next R l I K hp l2 (hv.mono λk p g=>?_) hD kp (λk x n s=>?_) (λk x y n s L=>?_) (λx V O=>?_) (λk g=>?_)⟩
 ·have:=B.hr.lt g
  rw[Nm.iK this];exact l1 k p g
 ·by_cases h:k<ns (j+1)
  ·rw[eu h]
   exact(X h s).2.symm
  ·rw[hC (by omega)]at n⊢
   exact m.hg k x n (W (by omega) s)
 ·by_cases h:k<ns (j+1)
  ·obtain⟨t,u⟩:=X h s
   rw[eu h]at n;rw[u]at L;obtain⟨q,hq⟩:=atc.1 n;exact((B.hr.ob k y q.1 q.2 L hq).FM B.hr.top).mono (l.le t s.1)
  ·rw[hC (by omega)]at n
   exact m.hb k x y n (W (by omega) s) L
 ·by_cases h:x<=j
  ·exact m.CE x V λi r f=>by
    have:=O i r f;have e:i≠j:=by omega
    simpa[e]using this
  ·refine l.ahS (a:=j+1) (by omega) V (λi r H f=>?_) B.hr.CE
   have:=O i H f;have e:i≠j:=by omega
   have:S i=true:=by simpa[e]using this
   have:=M i f this;omega
 ·by_cases h:k<ns (j+1)
  ·by_cases Z:ns j<=k
   ·exact .inr ⟨j,J,by simp,Z,h⟩
   ·rw[eu h,B.ro k (by omega),Nm.iK (by omega)]at g
    rcases m.own k g with r|⟨i,t,u,A⟩
    ·exact .inl r
    ·exact .inr ⟨i,t,by simp[u],A⟩
  ·rw[hC (by omega)]at g
   rcases m.own k g with r|⟨i,t,u,A⟩
   ·exact .inl r
   ·exact .inr ⟨i,t,by simp[u],A⟩
def jU.reads(n:TX ops)(t:H3 P Dk w0 ops ts hs ns)(O:jU P Dk w0 ops ts hs ns ρ0 a0 ws S ρ C a w)(H:Y7 ops S j)(s:ops[j]? =some o)(hp:BJ o.dst c (ts j) (ts (j+1)))(L:eZ o.op=1)(hw:Br ops o.guard ((ts j).res (mK ops o)) true)
 (hf:PK P w0 o ((ts j).res (mK ops o)) (hs j) c):∃v,(execOp a.eval o).run P w=.ok (.value v) w/\KR (Nm.cut ρ (ns j)) c v:=by
 have aj:=(apV.1 s).1;have W:=O.am7 n t H s;by_cases K:(∀i,u0 ops i->S i=true->i<j)/\∀i,i<j->u0 ops i->S i=true
 ·exact hf _ a w _ W (O.at t (by omega:j<=ops.length) K.1 K.2).2.1
 have ac:∀{i},u0 ops i->i≠j:=λ{i} Q e=>by
  subst e;obtain⟨o',f,k⟩:=Q;obtain rfl:=apZ (s.symm.trans f);omega
 have a4:∀i b,u0 ops i->u0 ops b->i<b->S b=true->S i=true:=λi b ⟨p,f,k⟩ ⟨G,a5,a6⟩ E ae=>by
  rcases n.row i b p G f a5 k a6 with e|e
  ·omega
  ·simp only[nN,aqO]at e
   rcases e with e|e
   ·exact H.cl i b ae e
   ·have:=n.le e;omega
 obtain⟨m,x,Q,ah,M,e1,e2⟩:∃m x,u0 ops m/\(x=m\/x=m+1)/\nN ops j m=false/\(∀i,u0 ops i->S i=true->i<x)/\∀i,i<x->u0 ops i->S i=true:=by
  by_cases Y:∃i,i<ops.length/\(u0 ops i/\S i=true/\j<i)
  ·obtain⟨m,ab,⟨F,A,ak⟩,a9⟩:=Ib (λi=>u0 ops i/\S i=true/\j<i) ops.length Y
   refine⟨m,m+1,F,.inr rfl,?_,λi l z=>?_,λi E l=>?_⟩
   ·cases h:nN ops j m with
    |false=>rfl
    |true=>
     simp only[nN,aqO]at h;rcases h with h|h
     ·rw[H.be m A]at h;cases h
     ·have:=n.le h;omega
   ·by_cases h:i<m+1
    ·exact h
    ·exact absurd ⟨l,z,by omega⟩ (a9 i (by omega) (by obtain⟨p,f,_⟩:=l;exact(apV.1 f).1))
   ·by_cases h:i=m
    ·subst h;exact A
    ·exact a4 i m l F (by omega) A
  ·have a1:∀i,u0 ops i->S i=true->i<j:=λi l z=>by
    by_cases h:i<j
    ·exact h
    ·exact absurd ⟨i,by obtain⟨p,f,_⟩:=l;exact(apV.1 f).1,l,z,by have:=ac l;omega⟩ Y
   obtain⟨i0,h0⟩:∃i,i<j/\u0 ops i/\S i=false:=by
    apply Classical.byContradiction;intro R;refine K ⟨a1,λi E l=>?_⟩;cases h:S i with
    |true=>rfl
    |false=>exact absurd ⟨i,E,l,h⟩ R
   have ai:∀i,(i<j/\u0 ops i/\S i=false)->∃m,(m<j/\u0 ops m/\S m=false)/\∀b,b<m->¬(b<j/\u0 ops b/\S b=false):=by
    intro i
    induction i using Nat.strongRecOn with
    |_ i ih=>
     intro h;by_cases hh:∃b,b<i/\(b<j/\u0 ops b/\S b=false)
     ·obtain⟨b,f,k⟩:=hh
      exact ih b f k
     ·exact⟨i,h,λb f k=>hh ⟨b,f,k⟩⟩
   obtain⟨m,⟨al,F,A⟩,aa⟩:=ai i0 h0;refine⟨m,m,F,.inl rfl,?_,λi l z=>?_,λi E l=>?_⟩
   ·cases h:nN ops j m with
    |false=>rfl
    |true=>
     simp only[nN,aqO]at h;rcases h with h|h
     ·have:=n.le h;omega
     ·have:=H.ah m h (by omega);rw[A]at this;cases this
   ·rcases arx i m with h|h|h
    ·exact h
    ·subst h;rw[A]at z;cases z
    ·have:=a4 m i F l h z
     rw[A]at this;cases this
   ·cases h:S i with
    |true=>rfl
    |false=>exact absurd ⟨by omega,l,h⟩ (aa i E)
 obtain⟨p,I,U⟩:=Q;have ab:=(apV.1 I).1;have af:Bt P w0 ops o (ts ops.length) (hs x):=by
  have:=t.rd j m o p s I L U M;rcases ah with e|e
  ·subst e;exact this.1
  ·subst e;exact this.2
 have a7:=(O.at t (by omega:x<=ops.length) e1 e2).2.2;have a3:mJ ρ ((ts ops.length).res (mK ops o)) a:=by
  intro y c' B;rw[Tr.ng]at B;have V:mK ops o y=true:=by
   cases h:mK ops o y with
   |true=>rfl
   |false=>rw[h]at B;cases B
  rw[apR V]at B;have ag:∀(i:Nat) q,ops[i]? =some q->q.dst=some y->i<j:=λi q hq a2=>by
   have k:=V;unfold mK at k;rw[aqO]at k;rcases k with h|h
   ·have r:=n.rd j m o p s I L U M i q y hq (auz.1 h) a2
    have:=n.le r.1;omega
   ·split at h
    ·rename_i g hg
     obtain⟨G,f,k⟩:=ar9.1 (by simpa using h:oM ops g.1=some y);have r:=n.gd j o g s hg;obtain rfl:i=g.1:=gR n.inj i g.1 q G y hq f a2 k;have:=n.le r.1;omega
    ·cases h
  rw[t.ub (a:=j) (by omega) (apT _) λi f k q r J=>by have:=ag i q r J;omega]at B;obtain⟨u,f,k⟩:=W y c' (by rw[Tr.ng,apR V];exact B);exact⟨u,f,k.mono (Nm.J7 ρ _)⟩
 rcases af with R|⟨d,X,N,Z,ad⟩
 ·have f:=hw _ a W o rfl
  have k:=R _ a a3 o rfl;rw[f]at k;cases k
 ·obtain⟨v,f,k⟩:=ad ρ a w _ a3 a7
  have a8:X=c:=by
   have r:=Z;rw[t.ub (a:=j+1) (by omega) (apT _) λb f k G r J=>by have:=gR n.inj b j G o d r s J N;omega,(hp.2 d N).2 d,apR rfl]at r;cases r;rfl
  subst a8;exact⟨v,f,t.bl j m o p d X s I L U M N Z ρ v k⟩
end
end
end
variable{y:FuncId->Bool}
section
open Go Go.RowKit MapKept
section
variable{P:Program}{Dk:Deferred->Prop}{w0:World}{T:TypeId->bs}
def Ru.inv{ops:bp}{o:Oper}(hs:Ru P Dk w0 ops o u B b H L e):
 (∃c,Br ops o.guard (u.res (mK ops o)) true/\js P Dk w0 o (u.res (mK ops o)) B b c L e/\BJ o.dst c u H)\/(L=B/\e=b/\Br ops o.guard (u.res (mK ops o)) false/\BJ o.dst (.v undef) u H):=by
 cases hs with
 |run c i k h f g d=>exact .inl ⟨c,f,g,d⟩
 |skip h f d=>exact .inr ⟨rfl,rfl,f,d⟩
section
variable{ops:bp}{ts:Nat->Tr CV}{hs:Nat->Tr cX}{ns:Nat->Nat}{ρ0 ρ:Nm}{a0 a:Act}{ws w:World}{S:Nat->Bool}{C:KH}{j:Nat}{o:Oper}
def jU.step(l:TX ops)(f:H3 P Dk w0 ops ts hs ns)(b:jU P Dk w0 ops ts hs ns ρ0 a0 ws S ρ C a w)(g:Y7 ops S j)(d:ops[j]? =some o){next:Act->World->Prop}{Q:Exit->Act->World->Prop}
 (q:∀Y L I y,jU P Dk w0 ops ts hs ns ρ0 a0 ws (λi=>S i||i==j) Y L I y->next I y):wpOp P ops.toArray Q j next a w:=by
 have a1:=(apV.1 d).1;have u:=b.am7 l f g d;have V:ops.toArray[j]? =some o:=by simpa using d
 unfold wpOp;rw[V];simp only;rcases(f.jV j o d).inv with⟨c,x,m,n⟩|⟨s,t,x,n⟩
 ·rw[x _ a u o rfl,apR rfl]
  refine .inl ?_;by_cases J:eZ o.op=0
  ·unfold js at m
   rw[J]at m;obtain⟨cf,nb,O,U,R,X⟩:=m;refine X _ a w (λ_=>none) (ns j) u (.empty b.kp.hr.ext) next Q λv y D ⟨Z,B,F⟩ A=>?_
   obtain⟨z,r,e⟩:=b.aeB l f g d n (by omega) U R (λ_=>J) B (by rw[O];exact F) A;exact q _ _ _ _ e
  ·by_cases K:eZ o.op=1
   ·unfold js at m
    rw[K]at m;obtain⟨s,t,W⟩:=m;obtain⟨v,M,N⟩:=b.reads l f g d n K x W;refine eo M ?_;obtain⟨z,r,e⟩:=b.aeB (nb:=none) (D:=[]) l f g d n (by omega) t (λk=>by rw[s];rfl) (λh=>absurd rfl h) (.refl (.empty b.kp.hr.ext)) N (by simp);exact q _ _ _ _ e
   ·have e:eZ o.op=2:=by
     have:eZ o.op=0\/eZ o.op=1\/eZ o.op=2:=by
      unfold eZ;split<;>simp
     omega
    obtain⟨G,H⟩:=g.row l ⟨o,d,e⟩;have E:=(b.at f (by omega:j<=ops.length) G H).2.1;refine m.fk _ a w u E next Q λv y D ⟨Z,B,F⟩ A=>?_
    obtain⟨z,r,p⟩:=b.ahT l f g d n e B F A;exact q _ _ _ _ p
 ·rw[x _ a u o rfl,apQ (by simp)]
  by_cases e:eZ o.op=2
  ·obtain⟨G,H⟩:=g.row l ⟨o,d,e⟩
   have E:=(b.at f (by omega:j<=ops.length) G H).2.1;obtain⟨z,r,p⟩:=b.ahT (D:=[]) (v:=undef) l f g d n e (by rw[s,t];exact .refl E) .v (by simp);exact q _ _ _ _ p
  ·obtain⟨z,r,p⟩:=b.aeB (nb:=none) (D:=[]) (v:=undef) l f g d n e t (λk=>by rw[s];rfl) (λh=>absurd rfl h) (.refl (.empty b.kp.hr.ext)) .v (by simp)
   exact q _ _ _ _ p
def jU.fin(G:TX ops)(s:H3 P Dk w0 ops ts hs ns)(d:jU P Dk w0 ops ts hs ns ρ0 a0 ws S ρ C a w)(l:∀i,i<ops.length->S i=true):
 mJ ρ (ts ops.length) a/\KP P w0 ρ0 (hs 0).get (ns 0) ws ρ (hs ops.length).get (ns ops.length) w/\Df Dk a0 a:=by
 have F:∀i,u0 ops i->i<ops.length:=λi ⟨p,b,_⟩=>(apV.1 b).1;obtain⟨b,_,_⟩:=d.at s (apT _) (λi B _=>F i B) (λi r _=>l i r);refine⟨λx c m=>?_,d.kp.agree (λk y=>?_) (d.CE _ (apT _) λi r _=>l i r),d.df⟩
 ·by_cases n:∃(i:Nat) (p:Oper),ops[i]? =some p/\p.dst=some x
  ·obtain⟨i,p,z,D⟩:=n
   obtain⟨v,b,e⟩:=d.t1 i p x c z D (l i (apV.1 z).1) m;exact⟨v,b,e.mono (Nm.J7 ρ _)⟩
  ·rw[s.ub (aql _) (apT _) λt b e u f g=>n ⟨t,u,f,g⟩]at m
   obtain⟨v,b,e⟩:=d.t0 x c (λt u f g=>absurd ⟨t,u,f,g⟩ n) m;exact⟨v,b,e.mono (Nm.J7 ρ _)⟩
 ·have A:k<ns ops.length:=by
   rcases y with h|h
   ·have:=s.le (aql ops.length) (apT _);omega
   ·obtain⟨q,E⟩:=atc.1 h
    exact d.kp.hr.lt E
  exact b k A y
def jU.any(D:TX ops)(M:H3 P Dk w0 ops ts hs ns){Q:Exit->Act->World->Prop}(Z:∀v p u,mJ v (ts ops.length) p->KP P w0 ρ0 (hs 0).get (ns 0) ws v (hs ops.length).get (ns ops.length) u->Df Dk a0 p->Q .normal p u):
 ∀(k:Nat) (c:Array Bool) (ρ:Nm) (C:KH) (a:Act) (w:World),c.size=ops.length->oV ops (λi=>c.getD i false)->(∀m,m=(c.toList.filter (·==false)).length->m=k)->jU P Dk w0 ops ts hs ns ρ0 a0 ws (λi=>c.getD i false) ρ C a w->
 wpAny P .any ops.toArray Q k c a w:=by
 intro k
 induction k with
 |zero=>
  intro c ρ C a w B x s y;have H:∀j,j<ops.length->c.getD j false=true:=λj g=>by
   have X:(c.toList.filter (·==false)).length=0:=s _ rfl;have f:c.toList.filter (·==false)=[]:=aqT X;have z:j<c.size:=by omega
   have:c[j]∈c.toList:=by simp
   have d:=auH.1 f _ this;have:c[j]=true:=by simpa using d
   simp[z,this]
  obtain⟨R,U,V⟩:=y.fin D M H;refine⟨?_,Z _ _ _ R U V⟩;rw[arz];intro j g;obtain⟨f,o,q,_⟩:=ast.1 g;have J:j<ops.length:=by
   have:=(aqx.1 q).1;simp at this;exact this
  have d:=H j J;rw[ati f]at d;cases d
 |succ k ih=>
  intro c ρ C a w B x s y;have aa:∃j,j<ops.length/\c.getD j false=false:=by
   have f:(c.toList.filter (·==false)).length=k+1:=s _ rfl;have d:c.toList.filter (·==false)≠[]:=λh=>by rw[h]at f;simp at f
   obtain⟨b,l⟩:=asU _ d;obtain⟨a1,a2⟩:=arN.1 l;obtain⟨j,g,a6⟩:=aqB a1;refine⟨j,by rw[<-B];simp at g;exact g,?_⟩;have z:j<c.size:=by simp at g;exact g
   have:c[j]=b:=by simpa using a6
   have a3:b=false:=by simpa using a2
   simp[z,this,a3]
  refine⟨λa9=>?_,λj g=>?_⟩
  ·exfalso
   obtain⟨j,a4,a5⟩:=aa;have:∀j,j<ops.length->c.getD j false=false->False:=by
    intro j
    induction j using Nat.strongRecOn with
    |_ j ae=>
     intro f d;have q:ops[j]? =some ops[j]:=ap0 f;by_cases A:∀e∈(ops[j]).after,Region.binds .any e=true->c.getD e.on false=true
     ·have:j∈Region.ready .any ops.toArray c:=ast.2 ⟨getD_in (by omega) d,ops[j],by simp,A⟩
      rw[a9]at this;cases this
     ·simp only[auI]at A
      obtain⟨e,he,l,a8⟩:=A;have r:=D.back j _ q e he l;exact ae e.on r (by omega) (by simpa using a8)
   exact this j a4 a5
  ·obtain⟨f,o,q,N⟩:=ast.1 g
   have t:ops[j]? =some o:=by simpa using q
   have J:j<ops.length:=(apV.1 t).1;have I:c.getD j false=false:=ati f;refine y.step D M (Y7.of t x I N) t λv O p u W=>?_;have F:(λi=>(c.setIfInBounds j true).getD i false)=λi=>c.getD i false||i==j:=by
    funext i;by_cases n:i=j
    ·subst n
     simp[aq8,show i<c.size by omega]
    ·have d:¬j=i:=λh=>n h.symm
     simp[aq8,atI,d,n]
   refine ih _ v O p u (by simpa using B) ?_ ?_ (by rw[F];exact W)
   ·rw[F]
    intro i oi K ab E G l;by_cases n:i=j
    ·subst n
     obtain rfl:=apZ (t.symm.trans K);simp[N E G l]
    ·have ac:c.getD i false=true:=by simpa[n]using ab
     have:=x i oi K ac E G l;simp[this]
   ·intro m a7
    have d:(c.toList.filter (·==false)).length=k+1:=s _ rfl;have Y:∀(L:bq) (j:Nat),L[j]? =some false->((L.set j true).filter (·==false)).length+1=(L.filter (·==false)).length:=by
     intro L
     induction L with
     |nil=>intro j h;simp at h
     |cons b L ad=>
      intro j h;cases j with
      |zero=>simp at h;subst h;simp
      |succ j=>
       have:=ad j (by simpa using h);cases b<;>simp_all<;>omega
    have h4:=Y c.toList j (by
     have r:j<c.size:=by omega
     have:c[j]=false:=by simpa[r]using I
     simp[r,this])
    rw[asA]at a7;omega
def jU.init(J:TX ops)(f:H3 P Dk w0 ops ts hs ns)(F:mJ ρ (ts 0) a)(d:HR P w0 ρ (hs 0).get (ns 0) w)(m:∀i,S i=false):jU P Dk w0 ops ts hs ns ρ a w S ρ (hs 0).get a w:=by
 have s:∀k,ρ k≠none->k<ns 0:=λk b=>by
  obtain⟨q,r⟩:=atc.1 b;exact d.lt r
 have z:∀{k x},k<ns 0->Gd ops ns S k x->(hs x).get k=(hs 0).get k:=λ{k x} b ⟨A,H,I,B⟩=>f.RM (aql _) A (λi l e n=>by
  have:=B i n e (m i);have:=f.le (aql i) (by omega);omega) b
 refine⟨.wide d (f.le (aql _) (apT _)),λi o x c _ _ t=>?_,λx c _ E=>?_,λk x h g=>?_,λk x y h g u=>?_,λx G D=>?_,λk b=>.inl (s k b),.refl a⟩
 ·rw[m i]at t;cases t
 ·obtain⟨v,l,e⟩:=F x c E
  exact⟨v,l,e.mono λk p b=>by rw[Nm.iK (d.lt b)];exact b⟩
 ·exact(z (h.elim id (s k)) g).symm
 ·rw[z (s k h) g]at u
  obtain⟨q,r⟩:=atc.1 h;exact((d.ob k y q.1 q.2 u r).FM d.top).mono (f.le (aql _) g.1)
 ·exact f.ahS (aql _) G (λi l e n=>by have:=D i e n;rw[m i]at this;cases this) d.CE
end
def aeC{R:Type}{r:R}{l:KC R}(L:P.follows .mixedOrders=true)(F:gw P T)(D:∀c o d,GT c o d->w0.cell? ⟨c,o,none⟩=some d)(E:jM Dk y)(G:gJ P w0 l){ops:tZ}{k:KK R}(J:Wp T y l ops.toList k u B b=some r):
 ∃v n t,k v n t=some r/\∀id ρ a w Q,mJ ρ u a->HR P w0 ρ B.get b w->(∀h e g,mJ h v e->KP P w0 ρ B.get b w h n.get t g->Df Dk a e->Q .normal e g)->(Code.region id ops true).wp P Q a w:=by
 obtain⟨s,ts,hs,ns,rfl,rfl,rfl,q,K⟩:=Y2 F D E G J;refine⟨_,_,_,K,λid ρ a w Q O p N=>wp_region_any L ?_⟩;have H:HR P w0 ρ (hs 0).get (ns 0) w.drew:=p.drew;have I:=jU.init (S:=λi=>(Array.replicate ops.size false).getD i false) s q O H λi=>asV ..;refine jU.any (ρ0:=ρ) (a0:=a) (ws:=w.drew) s q (λh e g x z A=>N h e g x ((KP.drew p).trans z) A) _ _ ρ _ a _ (by simp) ?_ ?_ I
 ·intro j o U f
  have f:(Array.replicate ops.size false).getD j false=true:=f;rw[asV]at f;cases f
 ·intro m M
  rw[M];simp
end
end
variable{N:Nat}
section
open Go Go.RowKit MapKept
section
variable{P:Program}{Dk:Deferred->Prop}{w0:World}{T:TypeId->bs}{R:Type}{r:R}
def ahU(a:KK R)(c:Nat->KK R)(b:KK R):Exit->KK R
 |.normal=>a
 |.exit i=>c i
 |.ret=>b
 |_=>λ_ _ _=>none
def CK(P:Program)(Dk:Deferred->Prop)(w0:World)(c:Code)(t:Tr CV)(h:Tr cX)(n:Nat)(x:Exit)(i:Tr CV)(f:Tr cX)(g:Nat):Prop:=
 ∀ρ a w Q,mJ ρ t a->HR P w0 ρ h.get n w->(∀e b d,mJ e i b->KP P w0 ρ h.get n w e f.get g d->Df Dk a b->Q x b d)->c.wp P Q a w
def O7{O:KC R}(hm:P.follows .mixedOrders=true)(hT:gw P T)(hG:∀b o u,GT b o u->w0.cell? ⟨b,o,none⟩=some u)(ac:jM Dk y)(hc:gJ P w0 O)(c:Code):
 ∀{A:KK R} {B:Nat->KK R} {D:KK R} {t:Tr CV} {h:Tr cX} {n:Nat},O1 T y O N c A B D t h n=some r->∃x J G I,ahU A B D x J G I=some r/\CK P Dk w0 c t h n x J G I:=by
 induction c with
 |skip=>intro A B D t h n j;exact⟨.normal,t,h,n,j,λρ a w Q d f g=>wp_skip (g ρ a w d (.refl f) (.refl a))⟩
 |label l=>intro A B D t h n j;exact⟨.normal,t,h,n,j,λρ a w Q d f g=>wp_label (g ρ a w d (.refl f) (.refl a))⟩
 |exit i=>intro A B D t h n j;exact⟨.exit i,t,h,n,j,λρ a w Q d f g=>wp_exit (g ρ a w d (.refl f) (.refl a))⟩
 |ret=>intro A B D t h n j;exact⟨.ret,t,h,n,j,λρ a w Q d f g=>wp_ret (g ρ a w d (.refl f) (.refl a))⟩
 |region id a0 dr=>
  intro A B D t h n j;cases dr with
  |true=>
   have p:Wp T y O a0.toList A t h n=some r:=j;obtain⟨J,G,I,C,hw⟩:=aeC hm hT hG ac hc p;exact⟨.normal,J,G,I,C,λρ a w Q d f g=>hw id ρ a w Q d f g⟩
  |false=>
   have p:YX T y O a0.toList a0.toList A t h n=some r:=j;obtain⟨J,G,I,C,hw⟩:=Wt hT hG ac hc a0.toList 0 rfl p;refine⟨.normal,J,G,I,C,λρ a w Q d f g=>wp_region ?_⟩;have:=hw ρ a w Q d f g;rw[<-au6]at this;simpa using this
 |seq a b a9 aa=>
  intro A B D t h n j;obtain⟨E,s,k,q,p,z⟩:=a9 j;cases E with
  |normal=>
   obtain⟨X,W,H,V,C,M⟩:=aa p;exact⟨X,W,H,V,C,λρ a w Q d f g=>arS (z ρ a w _ d f λρ1 a1 w1 a7 U a3=>M ρ1 a1 w1 Q a7 U.hr λρ2 a2 w2 a8 ab a4=>g ρ2 a2 w2 a8 (U.trans ab) (a3.trans a4))⟩
  |exit i=>exact⟨.exit i,s,k,q,p,λρ a w Q d f g=>arS (z ρ a w _ d f g)⟩
  |ret=>exact⟨.ret,s,k,q,p,λρ a w Q d f g=>arS (z ρ a w _ d f g)⟩
  |_=>cases p
 |cond x a b a9 aa=>
  intro A B D t h n j;obtain⟨v,hv,p⟩:=cg j;obtain⟨bb,rfl,C⟩:=Rh p;rcases dC C with⟨rfl,a5⟩|⟨rfl,a5⟩
  ·obtain⟨E,s,k,q,a6,z⟩:=a9 a5
   exact⟨E,s,k,q,a6,λρ a w Q d f g=>wp_cond_true (hv ρ a d).bN (z ρ a w Q d f g)⟩
  ·obtain⟨E,s,k,q,a6,z⟩:=aa a5
   exact⟨E,s,k,q,a6,λρ a w Q d f g=>wp_cond_false (hv ρ a d).bN (z ρ a w Q d f g)⟩
 |block id b S=>
  intro A B D t h n j;obtain⟨E,s,k,q,p,z⟩:=S j;cases E with
  |normal=>exact⟨.normal,s,k,q,p,λρ a w Q d f g=>wp_block (z ρ a w _ d f g)⟩
  |exit i=>
   have Z:bB (Nat.beq i id) A (B i) s k q=some r:=p;rcases hb:Nat.beq i id with _|_
   ·have e:=hb
    rw[e]at Z;have C:B i s k q=some r:=Z;have ad:=iV e;exact⟨.exit i,s,k,q,C,λρ a w Q d f g=>wp_block (z ρ a w _ d f λL F K k H h3=>by
     show(if i=id then Q .normal F K else Q (.exit i) F K);rw[apQ ad];exact g L F K k H h3)⟩
   ·have e:=hb
    rw[e]at Z;have C:A s k q=some r:=Z;obtain rfl:=ei e;exact⟨.normal,s,k,q,C,λρ a w Q d f g=>wp_block (z ρ a w _ d f λL F K k H h3=>by
     show(if i=i then Q .normal F K else _);rw[apR rfl];exact g L F K k H h3)⟩
  |ret=>exact⟨.ret,s,k,q,p,λρ a w Q d f g=>wp_block (z ρ a w _ d f g)⟩
  |_=>cases p
 |loop b S=>
  intro A B D t h n j;have ag:∀(Y:Nat) {t:Tr CV} {h:Tr cX} {n:Nat},aew Y (O1 T y O N b) B D t h n=some r->
   ∃m x J G I,x≠.normal/\ahU A B D x J G I=some r/\∀ρ a w Q,mJ ρ t a->HR P w0 ρ h.get n w->(∀L F K,mJ L J F->KP P w0 ρ h.get n w L G.get I K->Df Dk a F->Q x F K)->Code.rounds P b Q m a w:=by
   intro Y
   induction Y with
   |zero=>intro t h n j;cases j
   |succ Y af=>
    intro t h n j;obtain⟨E,s,k,q,p,z⟩:=S j;cases E with
    |normal=>
     obtain⟨m,X,W,H,V,ae,C,M⟩:=af p;exact⟨m+1,X,W,H,V,ae,C,λρ a w Q d f g=>z ρ a w _ d f λρ1 a1 w1 a7 U a3=>M ρ1 a1 w1 Q a7 U.hr λρ2 a2 w2 a8 ab a4=>g ρ2 a2 w2 a8 (U.trans ab) (a3.trans a4)⟩
    |exit i=>exact⟨1,.exit i,s,k,q,by simp,p,λρ a w Q d f g=>z ρ a w _ d f g⟩
    |ret=>exact⟨1,.ret,s,k,q,by simp,p,λρ a w Q d f g=>z ρ a w _ d f g⟩
    |_=>cases p
  obtain⟨m,X,W,H,V,_,C,M⟩:=ag N j;exact⟨X,W,H,V,C,λρ a w Q d f g=>wp_loop_rounds m (M ρ a w Q d f g)⟩
 |scope b S=>
  intro A B D t h n j;obtain⟨E,s,k,q,p,z⟩:=S j;cases E with
  |normal=>exact⟨.normal,s,k,q,p,λρ a w Q d f g=>auB (z ρ a w _ d f g)⟩
  |exit i=>exact⟨.exit i,s,k,q,p,λρ a w Q d f g=>auB (z ρ a w _ d f g)⟩
  |ret=>exact⟨.ret,s,k,q,p,λρ a w Q d f g=>auB (z ρ a w _ d f g)⟩
  |_=>cases p
 |_=>intro A B D t h n j;cases j
end
end
section
open Go Go.RowKit MapKept
section
variable{P:Program}{Dk:Deferred->Prop}{w0:World}{T:TypeId->bs}{R:Type}{r:R}
def KP.later{w i:World}(d:HR P w0 m M b w)(e:Ext w i):KP P w0 m M b w m M b i:=by
 have k:=KP.refl d;exact⟨⟨d.ext.trans e,λx y a c h g=>(d.ob x y a c h g).mono (Ab.refl m) (e.bS a (d.ob x y a c h g).lt),d.lo,d.inj,d.top,d.CE⟩,apT _,λ_ _=>rfl,e.size,
  λa f j=>⟨e.bS a f,(k.fr a f j).2⟩,k.ol,k.fz⟩
def sJ{g:Func}{k:eb}{Q:Ending->World->Prop}:∀(D:vV) (w:World),Ext w0 w->(∀d∈D,Fi P w0 d)->(∀a,Ext w a->∃v,(results g k).run P a=.ok v a/\Q (.returned v) a)->Leaves P g k Q D .returning w
 |[],w,_,_,b=>b w (Ext.refl w)
 |d::D,w,h,i,b=>by
  obtain⟨p,m,f,l,y,z⟩:=i d (by simp);obtain⟨q,s⟩:=z w h;refine⟨(by intro e;cases e),p,m,f,l,y,q,λc n u=>?_⟩;obtain⟨e,C,a,o,⟨⟨v,rfl⟩,rfl,j⟩,t⟩:=s c n u;exact⟨.returned v,.returning,a,o,sJ D a (h.trans j) (λd x=>i d (by simp[x])) λB A=>b B (j.trans A),t⟩
def Wx:∀{l:List CV} {i:Nat} {t:Tr CV} {k:Tr CV->Option R},am5 l i t k=some r->∃g,k g=some r/\(∀j,g.get j=if i<=j/\j<i+l.length then l[j - i]? else t.get j)/\∀j,i<=j->j<i+l.length->∃x,t.get j=some x
 |[],i,t,k,h=>⟨t,h,λj=>by rw[apQ (by simp only[aqI];omega)],λj d b=>by simp at b;omega⟩
 |c::l,i,t,k,h=>by
  obtain⟨u,d,⟨x,p⟩,e⟩:=Tr.mv h;obtain⟨q,b,n,o⟩:=Wx (l:=l) d;refine⟨q,b,λj=>?_,λj s m=>?_⟩
  ·rw[n,e]
   simp only[aqf];by_cases a:j=i
   ·subst a
    rw[apQ (by omega),apR rfl,apR (by omega)];simp
   ·by_cases f:i+1<=j/\j<i+1+l.length
    ·rw[apR f,apR (by omega),show j - i=(j - (i+1))+1 by omega]
     rfl
    ·rw[apQ f,apQ a,apQ (by omega)]
  ·by_cases a:j=i
   ·subst a;exact⟨x,p⟩
   ·have:=o j (by omega) (by simp at m;omega)
    rw[e,apQ a]at this;exact this
def ag6{cs:List CV}(f:LR (KR m) cs A)(a_:∀j,u.get j=if 0<=j/\j<0+cs.length then cs[j - 0]? else(Tr.fill (.v undef) 64 b).get j)(eW:∀j,0<=j->j<0+cs.length->∃x,(Tr.fill (CV.v undef) 64 b).get j=some x):
 mJ m u {tmps:=A.toArray++Array.replicate (b - A.toArray.size) undef,defers:=[]}:=by
 intro i c d;rw[a_]at d;have l:=f.1;by_cases k:i<cs.length
 ·rw[apR (by omega)]at d
  obtain⟨a,g,h⟩:=f.get (by simpa using d);refine⟨a,?_,h⟩;have e:i<A.length:=by omega
  simp[asR,e];rw[ap0 e]at g;simpa using g
 ·rw[apQ (by omega)]at d
  obtain⟨rfl,n⟩:=Tr.jw d;refine⟨undef,?_,.v⟩;have e:¬i<A.length:=by omega
  simp only[asR,arG,apQ e,Array.getElem?_replicate];rw[apR (by omega)]
def J_(q:gw P T)(n:∀b o u,GT b o u->w0.cell? ⟨b,o,none⟩=some u){h:Tr cX}{t:Tr CV}:∀{rs:List ResultVar} {k:List CV->Option R},aj_ T h t rs k=some r->
 ∃d,(∀ρ a w N,mJ ρ t a->HR P w0 ρ h.get N w->∃f,(rs.mapM (k_ a.tmps)).run P w=.ok f w/\LR (KR ρ) d f)/\k d=some r
 |[],k,g=>⟨[],λ_ _ _ _ _ _=>⟨[],by simp,LR.nil⟩,g⟩
 |.tmp i::rs,k,g=>by
  obtain⟨c,s,z⟩:=bA g;obtain⟨d,v,A⟩:=J_ q n (rs:=rs) z;refine⟨c::d,λρ a w N j l=>?_,A⟩;obtain⟨f,D,B⟩:=v ρ a w N j l;obtain⟨u,E,C⟩:=j i c s;refine⟨u::f,?_,LR.cons C B⟩;have e:a.tmps.getD i undef=u:=by simp[aq8,E]
  rw[asP];simp only[k_,ap6,ap8,ap7,D,e]
 |.cell x O::rs,k,g=>by
  obtain⟨p,I,z⟩:=bA g;obtain⟨⟨M,m⟩,J,A⟩:=bA z;obtain⟨c,s,F⟩:=aec (h:=h) n (q.ty _ _ J) A;obtain⟨d,v,G⟩:=J_ q n (rs:=rs) F;refine⟨c::d,λρ a w N j l=>?_,G⟩;obtain⟨f,D,B⟩:=v ρ a w N j l;obtain⟨u,E,C⟩:=j x p I;obtain⟨b,o,y,K,H,L⟩:=s ρ w u N l C;refine⟨y::f,?_,LR.cons L B⟩;have e:a.tmps.getD x undef=u:=by simp[aq8,E]
  rw[asP];simp only[k_,ap6,e,K,asAddr,ap8,ap7,H,D]
def ag7(a:LR (KR m) i A):KR m (YY i) (if h:A.toArray.size=1 then A.toArray[0]else .tuple A.toArray):=by
 match i,A,a with
 |[],[],a=>exact .tu [] rfl (by simp)
 |[c],[u],a=>simpa[YY]using a.2 0 c u rfl rfl
 |c::b::i,u::d::A,a=>
  have:¬(u::d::A).toArray.size=1:=by simp
  rw[dif_neg this];exact .tu _ a.1 a.2
 |[],u::A,a=>have:=a.1;simp at this
 |[c],[],a=>have:=a.1;simp at this
 |[c],u::d::A,a=>have:=a.1;simp at this
 |c::b::i,[],a=>have:=a.1;simp at this
 |c::b::i,[u],a=>have:=a.1;simp at this
def Fw{a:Func}{us:bD}(h:(a.results.toList.mapM (k_ G)).run P s=.ok us s):(results a G).run P s=.ok (if h:us.toArray.size=1 then us.toArray[0]else .tuple us.toArray) s:=by
 have b:(a.results.mapM (k_ G)).run P s=.ok us.toArray s:=by
  rw[at0];simp only[asT,h];rfl
 rw[va];simp only[ap6,b,ap7,ap8]
def Rz{α:Type}:∀(l:List α) (i:Nat),atL l i=l[i]?
 |[],i=>by cases i<;>rfl
 |x::l,0=>rfl
 |x::l,i+1=>by
  show atL l i=l[i]?;exact Rz l i
structure EOk(P:Program)(w0:World)(E:O2):Prop where
 fs:P.funcs.toList=E.fs
 may:∀f,Nat.testBit E.may f=true->Enters P f
 idle:jM (Fi P w0) λf=>Nat.testBit E.idle f
def O8{E:O2}{B:KC R}(hm:P.follows .mixedOrders=true)(F:gw P T)(C:∀b o u,GT b o u->w0.cell? ⟨b,o,none⟩=some u)(p:EOk P w0 E)(L:gJ P w0 B):gJ P w0 (O3 (R:=R) T E N B):=by
 intro f cs h n k r S;obtain⟨a0,U⟩:=bg S;obtain⟨m,G,V⟩:=bA U;obtain⟨c,K,W⟩:=bA V;obtain⟨t,X,a_,eW⟩:=Wx W;obtain⟨x,t',i,j,q,M⟩:=O7 hm F C p.idle L c X;have Q:P.funcs[f]? =some m:=by
  rw[Rz,<-p.fs]at G;simpa using G
 have z:(x=.normal\/x=.ret)/\(aj_ T i t' m.results.toList λl=>k (YY l) i j)=some r:=by
  cases x with
  |normal=>exact⟨.inl rfl,q⟩
  |ret=>exact⟨.inr rfl,q⟩
  |_=>cases q
 obtain⟨z,Y⟩:=z;obtain⟨l,a1,Z⟩:=J_ F C Y;refine⟨YY l,i,j,⟨p.may f a0,λρ w vs hs y=>aug Q K (M ρ _ w _ (ag6 y a_ eW) hs λa g A a3 s ⟨D,I,O⟩=>?_)⟩,Z⟩;have J:∀d∈g.defers,Fi P w0 d:=by rw[O];simpa using I
 have:Leaves P m g.tmps (λe A=>∃v a,e=.returned v/\KP P w0 ρ h.get n w a i.get j A/\KR a (YY l) v) g.defers .returning A:=by
  refine sJ _ _ s.hr.ext J λa5 a4=>?_;have H:=KP.later s.hr a4;obtain⟨us,a2,y⟩:=a1 a g a5 j a3 H.hr;exact⟨_,Fw a2,_,a,rfl,s.trans H,ag7 y⟩
 rcases z with rfl|rfl<;>exact this
end
end
variable{K:Nat->bU}
section
open Go Go.RowKit MapKept
section
variable{P:Program}{Dk:Deferred->Prop}{w0:World}{T:TypeId->bs}{R:Type}{r:R}
inductive nO(m:Nat->bU):CV->CV->Prop
 |v {x}:nO m (.v x) (.v x)
 |pt {k o k'} (h:m k=some k'):nO m (.pt k o) (.pt k' o)
 |sl {k o n c k'} (h:m k=some k'):nO m (.sl k o n c) (.sl k' o n c)
 |gl {g o}:nO m (.gl g o) (.gl g o)
 |ag {cs} (ds:List CV) (hl:ds.length=cs.length) (hc:∀(j:Nat) c d,cs[j]? =some c->ds[j]? =some d->nO m c d):nO m (.ag cs) (.ag ds)
 |tu {cs} (ds:List CV) (hl:ds.length=cs.length) (hc:∀(j:Nat) c d,cs[j]? =some c->ds[j]? =some d->nO m c d):nO m (.tu cs) (.tu ds)
 |cl {fn fs cs} (es ds:List CV) (hl:es.length=fs.length) (hl2:ds.length=cs.length) (hc:∀(j:Nat) c d,fs[j]? =some c->es[j]? =some d->nO m c d)
  (hc2:∀(j:Nat) c d,cs[j]? =some c->ds[j]? =some d->nO m c d):nO m (.cl fn fs cs) (.cl fn es ds)
def MLe(m a:Nat->bU):Prop:=∀j i,m j=some i->a j=some i
def nO.mono{m j:Nat->bU}(i:MLe m j){c d:CV}(h:nO m c d):nO j c d:=by
 induction h with
 |v=>exact .v
 |pt h=>exact .pt (i _ _ h)
 |sl h=>exact .sl (i _ _ h)
 |gl=>exact .gl
 |ag a b g e=>exact .ag a b e
 |tu a b g e=>exact .tu a b e
 |cl k a b l g o e n=>exact .cl k a b l e n
def nO.one(h:nO K d v):v.one=d.one:=by cases h<;>rfl
def nO.kr{ρ x:Nm}(w:∀j i,K j=some i->∀p,ρ j=some p->x i=some p){c d:CV}(h:nO K c d):∀{u:Value},KR ρ c u->KR x d u:=by
 induction h with
 |v=>intro u a;cases a;exact .v
 |pt h=>intro u a;cases a with|pt o=>exact .pt (w _ _ h _ o)
 |sl h=>intro u a;cases a with|sl o D y z A=>exact .sl (w _ _ h _ o) D y z A
 |gl=>intro u a;cases a;exact .gl
 |ag q g s m=>
  intro u a;cases a with
  |ag n l k=>
   refine .ag n (l.trans g.symm) λj d u e a=>?_;have b:=(apV.1 e).1;rw[g]at b;exact m j _ d (ap0 b) e (k j _ u (ap0 b) a)
 |tu q g s m=>
  intro u a;cases a with
  |tu n l k=>
   refine .tu n (l.trans g.symm) λj d u e a=>?_;have b:=(apV.1 e).1;rw[g]at b;exact m j _ d (ap0 b) e (k j _ u (ap0 b) a)
 |cl G q g t s H m E=>
  intro u a;cases a with
  |cl n F l C k B=>
   refine .cl n F (l.trans g.symm) (C.trans t.symm) (λj d u e a=>?_) (λj d u e a=>?_)
   ·have b:=(apV.1 e).1
    rw[g]at b;exact m j _ d (ap0 b) e (k j _ u (ap0 b) a)
   ·have b:=(apV.1 e).1
    rw[t]at b;exact E j _ d (ap0 b) e (B j _ u (ap0 b) a)
def Ka(m:Nat->bU)(t b:Tr CV):Prop:=∀q a,b.get q=some a->∃c,t.get q=some c/\nO m c a
def Ka.mono{m a:Nat->bU}(j:MLe m a){t b:Tr CV}(h:Ka m t b):Ka a t b:=λq c i=>let⟨d,e,g⟩:=h q c i;⟨d,e,g.mono j⟩
structure Sn(src:Tr cX)(fz:Bool)(d0:Tr cX)(n0:Nat)(m0 b0:Tr Nat)(d:Tr cX)(n:Nat)(m b:Tr Nat):Prop where
 le:n0<=n
 ml:MLe m0.get m.get
 nw:∀j i,m.get j=some i->m0.get j=some i\/(n0<=i/\i<n/\m0.get j=none/\b.get i=some j/\∃cs N e wr cs',src.get j=some (.ce cs N e wr)/\d.get i=some (.ce cs' N e (bB fz false wr))/\Ka m.get cs cs')
 bn:∀i,n0<=i->i<n->∃j,b.get i=some j/\m.get j=some i/\m0.get j=none
 bo:∀i,¬(n0<=i/\i<n)->b.get i=b0.get i
 dd:∀i,¬(n0<=i/\i<n)->d.get i=d0.get i
section
variable{src:Tr cX}{fz:Bool}{d0:Tr cX}{n0:Nat}{m0 b0:Tr Nat}
def Sn.refl:Sn src fz d0 n0 m0 b0 d0 n0 m0 b0:=⟨apT _,λ_ _ h=>h,λ_ _ h=>.inl h,λi a b=>by omega,λ_ _=>rfl,λ_ _=>rfl⟩
def ag8(src:Tr cX)(fz:Bool)(d0:Tr cX)(n0:Nat)(m0 b0:Tr Nat)(f:CV->Tr cX->Nat->Tr Nat->Tr Nat->Rs R CV->Option R):Prop:=
 ∀c d n m b k (r:R),Sn src fz d0 n0 m0 b0 d n m b->f c d n m b k=some r->∃g h i a e,Sn src fz d0 n0 m0 b0 h i a e/\MLe m.get a.get/\nO a.get c g/\k g h i a e=some r
variable{f:CV->Tr cX->Nat->Tr Nat->Tr Nat->Rs R CV->Option R}
def Ah(v:ag8 src fz d0 n0 m0 b0 f):∀{l:List CV} {d n m b} {k:Rs R (List CV)} {r:R},Sn src fz d0 n0 m0 b0 d n m b->snL f l d n m b k=some r->
 ∃a u z g t,Sn src fz d0 n0 m0 b0 u z g t/\MLe m.get g.get/\(a.length=l.length/\∀(j:Nat) c e,l[j]? =some c->a[j]? =some e->nO g.get c e)/\k a u z g t=some r
 |[],d,n,m,b,k,r,p,o=>⟨[],d,n,m,b,p,λ_ _ h=>h,⟨rfl,by simp⟩,o⟩
 |c::l,d,n,m,b,k,r,p,o=>by
  obtain⟨e,N,Q,O,M,E,I,L,G⟩:=v _ _ _ _ _ _ _ p o;obtain⟨a,B,K,J,A,F,w,⟨C,D⟩,H⟩:=Ah v (l:=l) E G;refine⟨e::a,B,K,J,A,F,λj i h=>w _ _ (I _ _ h),⟨by simp[C],λj x y q s=>?_⟩,H⟩;cases j with
  |zero=>simp at q s;subst q;subst s;exact L.mono w
  |succ j=>exact D j x y (by simpa using q) (by simpa using s)
def Kb(o:ag8 src fz d0 n0 m0 b0 f):∀{t:Tr CV} {d n m b} {k:Rs R (Tr CV)} {r:R},Sn src fz d0 n0 m0 b0 d n m b->snT f t d n m b k=some r->
 ∃U I O p H,Sn src fz d0 n0 m0 b0 I O p H/\MLe m.get p.get/\Ka p.get t U/\k U I O p H=some r
 |.lf,d,n,m,b,k,r,B,A=>⟨.lf,d,n,m,b,B,λ_ _ h=>h,λq c h=>(by cases h),A⟩
 |.nd l x S,d,n,m,b,k,r,B,A=>by
  obtain⟨N,d1,n1,m1,Y,L,J,Q,M⟩:=Kb o (t:=l) B A;cases x with
  |none=>
   obtain⟨F,u,E,D,s,z,e,G,C⟩:=Kb o (t:=S) L M;refine⟨.nd N none F,u,E,D,s,z,λj i h=>e _ _ (J _ _ h),λq c h=>?_,C⟩;rw[Tr.iJ]at h⊢;by_cases g:q=0
   ·rw[apR g]at h;cases h
   ·rw[apQ g]at h⊢
    by_cases a:q % 2=1
    ·rw[apR a]at h⊢;obtain⟨y,v,w⟩:=Q _ c h;exact⟨y,v,w.mono e⟩
    ·rw[apQ a]at h⊢;exact G _ c h
  |some x=>
   obtain⟨X,d3,n3,m3,Z,a,K,W,V⟩:=o _ _ _ _ _ _ _ L M;obtain⟨F,u,E,D,s,z,e,G,C⟩:=Kb o (t:=S) a V;refine⟨.nd N (some X) F,u,E,D,s,z,λj i h=>e _ _ (K _ _ (J _ _ h)),λq c h=>?_,C⟩;rw[Tr.iJ]at h⊢;by_cases g:q=0
   ·rw[apR g]at h⊢;cases h;exact⟨x,rfl,W.mono e⟩
   ·rw[apQ g]at h⊢
    by_cases a:q % 2=1
    ·rw[apR a]at h⊢;obtain⟨y,v,w⟩:=Q _ c h;exact⟨y,v,w.mono λj i h=>e _ _ (K _ _ h)⟩
    ·rw[apQ a]at h⊢;exact G _ c h
def Wy(hf:ag8 src fz d0 n0 m0 b0 f){d n m j}{k:Rs R Nat}{r:R}(I:Sn src fz d0 n0 m0 b0 d n m j)(q:ag1 src fz f b d n m j k=some r):
 ∃i D L u C,Sn src fz d0 n0 m0 b0 D L u C/\MLe m.get u.get/\u.get b=some i/\k i D L u C=some r:=by
 unfold ag1 at q;cases A:m.get b with
 |some i=>rw[A]at q;exact⟨i,d,n,m,j,I,λ_ _ h=>h,A,q⟩
 |none=>
  rw[A]at q;obtain⟨Q,N,e,wr,a5,a0⟩:=Ac q;obtain⟨S,d1,B,J,b1,l,l1,r1,a1⟩:=Kb hf I a0;obtain⟨t,a2⟩:=bg a1;have t:J.get b=none:=by simpa using t
  obtain⟨W,a3,y⟩:=Tr.nM a2;obtain⟨K,a4,s⟩:=Tr.nM a3;obtain⟨O,G,p⟩:=Tr.nM a4;rw[fC]at G;have a7:=l.le;have o:MLe J.get K.get:=λa c x=>by
   rw[s,apQ]
   ·exact x
   ·intro e;subst e;rw[t]at x;cases x
  have H:m0.get b=none:=by
   cases h:m0.get b with
   |none=>rfl
   |some i=>have:=l.ml _ _ h;rw[t]at this;cases this
  refine⟨B,W,B+1,K,O,⟨by omega,λa c h=>o _ _ (l.ml _ _ h),λa c h=>?_,λi z a6=>?_,λi z=>?_,λi z=>?_⟩,λa c h=>o _ _ (l1 _ _ h),by rw[s,apR rfl],G⟩
  ·rw[s]at h
   by_cases F:a=b
   ·subst F
    rw[apR rfl]at h;cases h;exact .inr ⟨by omega,by omega,H,by rw[p,apR rfl],Q,N,e,wr,S,a5,by rw[y,apR rfl],r1.mono o⟩
   ·rw[apQ F]at h
    rcases l.nw a c h with g|⟨v,E,w,Y,U,M,X,wr2,V,Z,g6,g7⟩
    ·exact .inl g
    ·exact .inr ⟨v,by omega,w,by rw[p,apQ (by omega)];exact Y,U,M,X,wr2,V,Z,by rw[y,apQ (by omega)];exact g6,g7.mono o⟩
  ·by_cases eW:i=B
   ·subst eW
    exact⟨b,by rw[p,apR rfl],by rw[s,apR rfl],H⟩
   ·obtain⟨a,v,E,w⟩:=l.bn i z (by omega)
    exact⟨a,by rw[p,apQ eW];exact v,o _ _ E,w⟩
  ·rw[p,apQ (by omega)];exact l.bo i (by omega)
  ·rw[y,apQ (by omega)];exact l.dd i (by omega)
def RA:∀N,ag8 src fz d0 n0 m0 b0 (snC (R:=R) src fz N)
 |0=>λc d n m b k r w e=>by cases e
 |N+1=>λc d n m b k r w e=>by
  have B:=RA N;cases c with
  |v x=>
   have:k (.v x) d n m b=some r:=by
    cases x with
    |int F z=>rw[<-e];show k (.v (.int F z)) d n m b=kI z λz=>k (.v (.int F z)) d n m b;rw[yS]
    |_=>exact e
   exact⟨_,d,n,m,b,w,λ_ _ h=>h,.v,this⟩
  |gl g o=>exact⟨_,d,n,m,b,w,λ_ _ h=>h,.gl,e⟩
  |pt j o=>
   obtain⟨i,u,A,y,t,p,s,l,a⟩:=Wy B w e;rw[fC]at a;exact⟨_,u,A,y,t,p,s,.pt l,a⟩
  |sl j o q c=>
   obtain⟨i,u,A,y,t,p,s,l,a⟩:=Wy B w e;rw[fC,fC]at a;refine⟨.sl i o q c,u,A,y,t,p,s,.sl l,?_⟩;cases c with
   |none=>exact a
   |some c=>simp only[fC]at a;exact a
  |ag E=>
   obtain⟨D,u,A,y,t,p,s,⟨l,C⟩,a⟩:=Ah B w e;exact⟨_,u,A,y,t,p,s,.ag D l C,a⟩
  |tu E=>
   obtain⟨D,u,A,y,t,p,s,⟨l,C⟩,a⟩:=Ah B w e;exact⟨_,u,A,y,t,p,s,.tu D l C,a⟩
  |cl W X E=>
   obtain⟨D,u,A,y,t,p,s,⟨l,C⟩,a⟩:=Ah B w e;obtain⟨S,I,V,U,H,L,G,⟨J,K⟩,Q⟩:=Ah B p a;exact⟨_,I,V,U,H,L,λ_ _ h=>G _ _ (s _ _ h),.cl D S l J (λj c d M O=>(C j c d M O).mono G) K,Q⟩
  |mp j=>cases e
