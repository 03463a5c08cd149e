/- part 8 -/
import Derived.Test.YtmdbmigbihboaaaGreatDoorZWholeNothing7
set_option linter.all false
noncomputable section
open Go Go.RowKit
set_option maxRecDepth 100000
namespace Go.Proofs.YtmdbmigbihboaaaGreatDoor
variable{H:Act}{J:BinOp}{A:CV}{L:IntKind}{a e:Nat}{j:Nm}{i:Value}
section
variable{P:Program}{Dk:Deferred->Prop}{w0:World}{T:TypeId->bj}
def FR(k:IntKind):Nat:=IntKind.rec (motive:=λ_=>Nat) 128 32768 2147483648 9223372036854775808 256 65536 4294967296 18446744073709551616 k
def sgK(k:IntKind):Bool:=IntKind.rec (motive:=λ_=>Bool) true true true true false false false false k
def wrI{R:Type}(k:IntKind)(z:Int)(f:Int->R):R:=Int.rec (motive:=λ_=>R)
 (λn=>bB (Nat.blt n (FR k)) (kN n λn=>f (Int.ofNat n)) (kI (k.wrap (Int.ofNat n)) f))
 (λm=>bB (sgK k) (bB (Nat.blt m (FR k)) (kN m λm=>f (Int.negSucc m)) (kI (k.wrap (Int.negSucc m)) f)) (kI (k.wrap (Int.negSucc m)) f)) z
def ad9{n:Nat}(h:n<FR L):L.wrap (Int.ofNat n)=Int.ofNat n:=by
 have e:(Int.ofNat n)=(n:Int):=rfl;rw[e];cases L<;>simp only[FR]at h<;>simp only[IntKind.wrap,IntKind.bits,IntKind.signed]<;>simp<;>omega
def ad_{n:Nat}(a:sgK L=true)(h:n<FR L):L.wrap (Int.negSucc n)=Int.negSucc n:=by
 have e:(Int.negSucc n)= -(n:Int) - 1:=by omega
 rw[e];cases L<;>simp only[FR]at h<;>simp only[sgK,arS]at a<;>simp only[IntKind.wrap,IntKind.bits,IntKind.signed]<;>simp<;>omega
def vG{R:Type}(k:IntKind)(z:Int)(f:Int->R):wrI k z f=f (k.wrap z):=by
 cases z with
 |ofNat n=>
  show bB (Nat.blt n (FR k)) (kN n λn=>f (Int.ofNat n)) (kI (k.wrap (Int.ofNat n)) f)=_;rw[fm,yL];cases h:Nat.blt n (FR k)with
  |false=>rfl
  |true=>rw[ad9 (aqk h)];rfl
 |negSucc m=>
  show bB (sgK k) (bB (Nat.blt m (FR k)) (kN m λm=>f (Int.negSucc m)) (kI (k.wrap (Int.negSucc m)) f)) (kI (k.wrap (Int.negSucc m)) f)=_;rw[fm,yL];cases a:sgK k with
  |false=>rfl
  |true=>
   cases h:Nat.blt m (FR k)with
   |false=>rfl
   |true=>rw[ad_ a (aqk h)];rfl
def ltK(a b:Int):Bool:=Int.rec (motive:=λ_=>Bool) (λm=>Int.rec (motive:=λ_=>Bool) (λn=>Nat.blt m n) (λ_=>false) b) (λm=>Int.rec (motive:=λ_=>Bool) (λ_=>true) (λn=>Nat.blt n m) b) a
def eqK(a b:Int):Bool:=Int.rec (motive:=λ_=>Bool) (λm=>Int.rec (motive:=λ_=>Bool) (λn=>Nat.beq m n) (λ_=>false) b) (λm=>Int.rec (motive:=λ_=>Bool) (λ_=>false) (λn=>Nat.beq n m) b) a
def V2(m n:Nat):Nat.blt m n=decide (m<n):=by
 by_cases h:m<n
 ·rw[aqH h];exact auz h
 ·rw[aqK h]
  cases a:Nat.blt m n with
  |false=>rfl
  |true=>exact absurd (aqk a) h
def OH(m n:Nat):Nat.beq m n=decide (m=n):=by
 by_cases h:m=n
 ·rw[aqH h,h,aqM]
 ·rw[aqK h]
  cases a:Nat.beq m n with
  |false=>rfl
  |true=>exact absurd (dW a) h
def sn(a b:Int):ltK a b=decide (a<b):=by
 cases a with
 |ofNat m=>cases b with
  |ofNat n=>
   show Nat.blt m n=decide ((m:Int)<(n:Int));rw[V2];exact arP.2 (by constructor<;>intro h<;>omega)
  |negSucc n=>
   show false=decide ((m:Int)<Int.negSucc n);exact(aqK (by omega)).symm
 |negSucc m=>cases b with
  |ofNat n=>
   show true=decide (Int.negSucc m<(n:Int));exact(aqH (by omega)).symm
  |negSucc n=>
   show Nat.blt n m=_;rw[V2];exact arP.2 (by constructor<;>intro h<;>omega)
def so(a b:Int):eqK a b=decide (a=b):=by
 cases a with
 |ofNat m=>cases b with
  |ofNat n=>
   show Nat.beq m n=decide ((m:Int)=(n:Int));rw[OH];exact arP.2 (by constructor<;>intro h<;>omega)
  |negSucc n=>
   show false=decide ((m:Int)=Int.negSucc n);exact(aqK (by omega)).symm
 |negSucc m=>cases b with
  |ofNat n=>
   show false=decide (Int.negSucc m=(n:Int));exact(aqK (by omega)).symm
  |negSucc n=>
   show Nat.beq n m=_;rw[OH];exact arP.2 (by constructor<;>intro h<;>omega)
def bK{R:Type}(b:Bool)(k:CV->R):R:=Bool.rec (motive:=λ_=>R) (k (.v (.bool false))) (k (.v (.bool true))) b
def sq{R:Type}(b:Bool)(k:CV->R):bK b k=k (.v (.bool b)):=by cases b<;>rfl
def sx{R:Type}(op:BinOp)(k:IntKind)(a b:Int)(f:CV->Option R):Option R:=match op with
 |.add=>wrI k (Int.add a b) λz=>f (.v (.int k z))
 |.sub=>wrI k (Int.sub a b) λz=>f (.v (.int k z))
 |.mul=>wrI k (Int.mul a b) λz=>f (.v (.int k z))
 |.quo=>bB (eqK b 0) none (wrI k (a.tdiv b) λz=>f (.v (.int k z)))
 |.rem=>bB (eqK b 0) none (kI (a.tmod b) λz=>f (.v (.int k z)))
 |.lss=>bK (ltK a b) f
 |.gtr=>bK (ltK b a) f
 |.leq=>bK (!ltK b a) f
 |.geq=>bK (!ltK a b) f
 |.eql=>bK (eqK a b) f
 |.neq=>bK (!eqK a b) f
 |.and=>kI (bits .and k a b) λz=>f (.v (.int k z))
 |.or=>kI (bits .or k a b) λz=>f (.v (.int k z))
 |.xor=>kI (bits .xor k a b) λz=>f (.v (.int k z))
 |.andNot=>kI (bits .andNot k a b) λz=>f (.v (.int k z))
 |_=>none
def shK{R:Type}(op:BinOp)(k:IntKind)(a:Int)(m:Nat)(f:CV->Option R):Option R:=match op with
 |.shl=>wrI k (a*2^(min m k.bits)) λz=>f (.v (.int k z))
 |.shr=>kI (a.fdiv (2^(min m k.bits))) λz=>f (.v (.int k z))
 |_=>none
def aoX:BinOp->Bool
 |.shl=>true
 |.shr=>true
 |_=>false
def asW:(s:Sc)->List CV->Option (s.cQ×List CV)
 |.pr x y,cs=>match asW x cs with
  |some (a,cs1)=>match asW y cs1 with
   |some (c,cs2)=>some ((a,c),cs2)
   |none=>none
  |none=>none
 |.u,cs=>some ((),cs)
 |.i k,.v (.int kd z)::cs=>if kd=k then some (z,cs)else none
 |.b,.v (.bool z)::cs=>some (z,cs)
 |_,_=>none
def JO:∀(s:Sc) {b cs':List CV} {x:s.cQ},asW s b=some (x,cs')->s.key=true->b=(cU s x).map .v++cs'
 |.pr a c,b,cs',x,h,f=>by
  simp only[Sc.key,aqe]at f;simp only[asW]at h;split at h
  ·rename_i p j g
   split at h
   ·rename_i q l i
    cases h;rw[JO a g f.1,JO c i f.2];simp[cU]
   ·cases h
  ·cases h
 |.u,b,cs',x,h,f=>by
  simp only[asW]at h;cases h;rfl
 |.i k,b,cs',x,h,f=>by
  cases b with
  |nil=>cases h
  |cons c b=>
   cases c with
   |v u=>cases u with
    |int m z=>
     simp only[asW]at h;split at h
     ·rename_i e
      cases h;subst e;rfl
     ·cases h
    |_=>cases h
   |_=>cases h
 |.b,b,cs',x,h,f=>by
  cases b with
  |nil=>cases h
  |cons c b=>
   cases c with
   |v u=>cases u with
    |bool z=>
     simp only[asW]at h;cases h;rfl
    |_=>cases h
   |_=>cases h
 |.sl r,b,cs',x,h,f=>by simp[Sc.key]at f
def amZ{R:Type}(T:TypeId->bj)(op:BinOp)(t1:TypeId)(cs ds:List CV)(f:CV->Option R):Option R:=oB (T t1).eq λs=>oB (asW s cs) λp=>oB (asW s ds) λq=>match p.2,q.2 with
 |[],[]=>(match op with
  |.eql=>bK (iB s p.1 q.1) f
  |.neq=>bK (!iB s p.1 q.1) f
  |_=>none)
 |_,_=>none
def isC:Operand->Bool
 |.const _=>true
 |_=>false
def aeb{R:Type}(T:TypeId->bj)(op:BinOp)(t1:TypeId)(yc:Bool)(a b:CV)(f:CV->Option R):Option R:=match a with
 |.v (.int k x)=>(match b with
  |.v (.int kb y)=>bB (aoX op) (tT b λm=>shK op k x m f) (bB (decide (k=kb)) (sx op k x y f) none)
  |_=>none)
 |.v (.bool x)=>(match b with
  |.v (.bool y)=>bB (T t1).bo (match op with
   |.eql=>bK (x==y) f
   |.neq=>bK (!(x==y)) f
   |_=>none) none
  |_=>none)
 |.v (.slice none 0 0)=>(match b with
  |.v (.slice none 0 0)=>bB (T t1).jO (match op with
   |.eql=>f (.v (.bool true))
   |.neq=>f (.v (.bool false))
   |_=>none) none
  |_=>none)
 |.sl _ _ _ _=>(match b with
  |.v (.slice none 0 0)=>bB (T t1).jO (match op with
   |.eql=>f (.v (.bool false))
   |.neq=>f (.v (.bool true))
   |_=>none) none
  |_=>none)
 |.v .nilIface=>(match b with
  |.v .nilIface=>bB yc (bB (T t1).nf (match op with
   |.eql=>f (.v (.bool true))
   |.neq=>f (.v (.bool false))
   |_=>none) none) none
  |_=>none)
 |.ag cs=>agK b λds=>amZ T op t1 cs ds f
 |_=>none
section
variable{t:Tr CV}{h:Tr cO}{n:Nat}{d:Option Tmp}{ty t1 t2:TypeId}{pos:String}{af:Array Edge}{gd:Option (Nat×Bool)}{x y z:Operand}{R:Type}{r:R}
def FK.bin{u v z:Value}(f:jL t x (.v u))(g:jL t y (.v v))(c:∀w,(eqGuard J t1 x y u v).run P w=.ok () w)(e:∀w,(binOp J t1 u v).run P w=.ok z w):QK P ⟨d,.binOp J t1 x y t2,ty,pos,af,gd⟩ t (.v z):=λρ a w b=>by
 refine⟨z,?_,.v⟩;simp only[execOp,(f ρ a b).bE,(g ρ a b).bE,aqs,c,e,aqt,aqu]
def FK.mz{k c:IntKind}{a b:Int}(f:jL t x (.v (.int k a)))(g:jL t y (.v (.int c b)))(e:∀w,(binOp J t1 (.int k a) (.int c b)).run P w=.ok i w):QK P ⟨d,.binOp J t1 x y t2,ty,pos,af,gd⟩ t (.v i):=
 FK.bin f g (eu _ _ _ _ _ _ _ _) e
def am0(a b:Int):(!decide (b<a))=decide (a<=b):=by
 by_cases h:b<a
 ·rw[aqH h,aqK (by omega)];rfl
 ·rw[aqK h,aqH (by omega)];rfl
def agN{a b:Int}{f:CV->Option R}(g:jL t x (.v (.int L a)))(i:jL t y (.v (.int L b)))(e:sx J L a b f=some r):∃c,QK P ⟨d,.binOp J t1 x y t2,ty,pos,af,gd⟩ t c/\f c=some r:=by
 cases J with
 |add=>simp only[sx,vG]at e;exact⟨_,FK.mz g i λw=>by simp only[binOp_add,Op.intArith,aqu];rfl,e⟩
 |sub=>simp only[sx,vG]at e;exact⟨_,FK.mz g i λw=>by simp only[binOp_sub,Op.intArith,aqu];rfl,e⟩
 |mul=>simp only[sx,vG]at e;exact⟨_,FK.mz g i λw=>by simp only[binOp_mul,Op.intArith,aqu];rfl,e⟩
 |quo=>
  simp only[sx,vG]at e;rcases dt e with⟨_,j⟩|⟨j,e⟩
  ·cases j
  have j:¬b=0:=by rw[so]at j;simpa using j
  exact⟨_,FK.mz g i λw=>by simp[binOp_quo,Op.intDiv,j],e⟩
 |rem=>
  simp only[sx,yL]at e;rcases dt e with⟨_,j⟩|⟨j,e⟩
  ·cases j
  have j:¬b=0:=by rw[so]at j;simpa using j
  exact⟨_,FK.mz g i λw=>by simp[binOp_rem,Op.intDiv,j],e⟩
 |lss=>simp only[sx,sq,sn]at e;exact⟨_,FK.mz g i λw=>by simp[binOp_lss],e⟩
 |gtr=>simp only[sx,sq,sn]at e;exact⟨_,FK.mz g i λw=>by simp[binOp_gtr],e⟩
 |leq=>simp only[sx,sq,sn,am0]at e;exact⟨_,FK.mz g i λw=>by simp[binOp_leq],e⟩
 |geq=>simp only[sx,sq,sn,am0]at e;exact⟨_,FK.mz g i λw=>by simp[binOp_geq],e⟩
 |eql=>simp only[sx,sq,so]at e;exact⟨_,FK.mz g i λw=>by simp only[binOp_eql,aqu,RD],e⟩
 |neq=>simp only[sx,sq,so]at e;exact⟨_,FK.mz g i λw=>by simp only[binOp_neq,aqu,RE,decide_not],e⟩
 |and=>simp only[sx,yL]at e;exact⟨_,FK.mz g i λw=>by simp[binOp_and,intBits_and],e⟩
 |or=>simp only[sx,yL]at e;exact⟨_,FK.mz g i λw=>by simp[binOp_or,intBits_or],e⟩
 |xor=>simp only[sx,yL]at e;exact⟨_,FK.mz g i λw=>by simp[binOp_xor,intBits_xor],e⟩
 |andNot=>simp only[sx,yL]at e;exact⟨_,FK.mz g i λw=>by simp[binOp_andNot,intBits_andNot],e⟩
 |_=>cases e
def KR.Q6{us b:List Value}(c:LR (KR j) (us.map .v) b):b=us:=by
 refine List.ext_getElem (by rw[c.1];simp) λa e f=>?_;exact(c.2 a (.v us[a]) b[a] (by simp[f]) (aqm e)).bE
def agO(B:f_ P T){j k:List CV}{f:CV->Option R}(L:jL t x (.ag j))(M:jL t y (.ag k))(v:amZ T J t1 j k f=some r):∃c,QK P ⟨d,.binOp J t1 x y t2,ty,pos,af,gd⟩ t c/\f c=some r:=by
 obtain⟨s,H,o⟩:=bu v;obtain⟨⟨p,O⟩,F,u⟩:=bu o;obtain⟨⟨q,Q⟩,G,e⟩:=bu u;clear o u v;have g:=B.eq _ _ H;have l:=JO s F g.1;have m:=JO s G g.1;simp only at e;split at e
 ·simp only[aqV]at l m
  subst l m;have run:∀i b,(∀w,(binOp i t1 (.agg (cU s p).toArray) (.agg (cU s q).toArray)).run P w=.ok b w)->QK P ⟨d,.binOp i t1 x y t2,ty,pos,af,gd⟩ t (.v b):=λi b C=>λρ a w A=>by
   obtain⟨S,I,D⟩:=(L ρ a A).eS;obtain⟨U,K,E⟩:=(M ρ a A).eS;obtain rfl:=KR.Q6 D;obtain rfl:=KR.Q6 E;refine⟨b,?_,.v⟩;have N:=(g.2 p q w).2;simp only[execOp,I,K,aqs,N,aqt,C,aqu]
  cases J with
  |eql=>simp only[sq]at e;exact⟨_,run _ _ λw=>by have:=(g.2 p q w).1;simp only[binOp,aqs,this,aqt,aqu],e⟩
  |neq=>simp only[sq]at e;exact⟨_,run _ _ λw=>by have:=(g.2 p q w).1;simp only[binOp,aqs,this,aqt,aqu],e⟩
  |_=>cases e
 ·cases e
def tH{t:TypeId}(h:jO P t=true):∃E,P.underlying t=some (.slice E):=by
 unfold jO at h;split at h
 ·exact⟨_,by assumption⟩
 ·cases h
def run_neq_slice_nil(w:World)(t E:TypeId)(c:Option Addr)(n f g e:Nat)(j:P.underlying t=some (.slice E)):(binOp .neq t (.slice c n f) (.slice none g e)).run P w=.ok (.bool (!c.isNone)) w:=by
 have a:=auu w t E c n f g e j;simp only[binOp,aqs]at a⊢;cases i:(Op.equal t (.slice c n f) (.slice none g e)).run P w with
 |ok b k=>rw[i]at a;simp only[aqt,aqu,Result.ok.injEq,Value.bool.injEq]at a⊢;rw[a.1];exact⟨rfl,a.2⟩
 |halt h k=>rw[i]at a;cases a
def HP{c:CV}{ad:Bool}{f:CV->Option R}(s:jO P t1=true)(p:∀ρ a,mD ρ t a->∃A m b,a.eval x=.slice A m b/\A.isNone=ad)(q:jL t y (.v (.slice none 0 0)))(l:(match J with
 |.eql=>f (.v (.bool ad))
 |.neq=>f (.v (.bool (!ad)))
 |_=>none)=some r):∃c,QK P ⟨d,.binOp J t1 x y t2,ty,pos,af,gd⟩ t c/\f c=some r:=by
 obtain⟨E,o⟩:=tH s;cases J with
 |eql=>
  refine⟨_,λρ a w e=>?_,l⟩;obtain⟨A,m,b,g,i⟩:=p ρ a e;have j:=(q ρ a e).bE;have k:(eqGuard .eql t1 x y (.slice A m b) (.slice none 0 0)).run P w=.ok () w:=by simp[eqGuard]
  exact⟨.bool ad,by simp only[execOp,g,j,k,aqs,auu w t1 E A m b 0 0 o,aqt,aqu,i],.v⟩
 |neq=>
  refine⟨_,λρ a w e=>?_,l⟩;obtain⟨A,m,b,g,i⟩:=p ρ a e;have j:=(q ρ a e).bE;have k:(eqGuard .neq t1 x y (.slice A m b) (.slice none 0 0)).run P w=.ok () w:=by simp[eqGuard]
  exact⟨.bool (!ad),by simp only[execOp,g,j,k,aqs,run_neq_slice_nil w t1 E A m b 0 0 o,aqt,aqu,i],.v⟩
 |_=>cases l
def FK.aeb(o:f_ P T){l:BinOp}{a b:CV}{f:CV->Option R}(i:jL t x a)(j:jL t y b)(g:aeb T l t1 (isC y) a b f=some r):∃c,QK P ⟨d,.binOp l t1 x y t2,ty,pos,af,gd⟩ t c/\f c=some r:=by
 unfold Go.Proofs.YtmdbmigbihboaaaGreatDoor.aeb at g;split at g
 ·rename_i k m
  split at g
  ·rename_i L J
   rcases dt g with⟨s,g⟩|⟨s,g⟩
   ·obtain⟨M,q,e,p⟩:=lJ g
    cases e;have F:((q:Int)<0)=False:=eq_false (by omega);cases l with
    |shl=>simp only[shK,vG]at p;exact⟨_,FK.mz i j λw=>by simp only[binOp_shl,Op.shift,F,aq_,aqo,at3,aqu],p⟩
    |shr=>simp only[shK,yL]at p;exact⟨_,FK.mz i j λw=>by simp only[binOp_shr,Op.shift,F,aq_,aqo,at3,aqu],p⟩
    |_=>cases p
   ·obtain⟨e,I⟩:=bd g
    have e:=aq7 e;subst e;exact agN i j I
  ·cases g
 ·rename_i m
  split at g
  ·rename_i J
   obtain⟨A,g⟩:=bd g;have A:=o.bo _ A;cases l with
   |eql=>simp only[sq]at g;exact⟨_,FK.bin i j (λw=>by simp[eqGuard]) (λw=>run_eql_bool w t1 _ _ A),g⟩
   |neq=>simp only[sq]at g;exact⟨_,FK.bin i j (λw=>by simp[eqGuard]) (λw=>run_neq_bool w t1 _ _ A),g⟩
   |_=>cases g
  ·cases g
 ·split at g
  ·obtain⟨s,g⟩:=bd g
   exact HP (c:=.v undef) (ad:=true) (o.jO _ s) (λρ a C=>⟨none,0,0,(i ρ a C).bE,rfl⟩) j g
  ·cases g
 ·split at g
  ·obtain⟨s,g⟩:=bd g
   refine HP (c:=.v undef) (ad:=false) (o.jO _ s) (λρ a C=>?_) j g;have G:=i ρ a C;generalize a.eval x=u at G;cases G with
   |sl=>exact⟨_,_,_,rfl,rfl⟩
  ·cases g
 ·split at g
  ·obtain⟨H,g⟩:=bd g
   obtain⟨B,g⟩:=bd g;obtain⟨N,B⟩:=o.nf _ B;have D:∀l w,(eqGuard l t1 x y .nilIface .nilIface).run P w=.ok () w:=λl w=>by
    cases y with
    |const v=>cases l<;>simp[eqGuard]
    |_=>cases H
   have E:∀w,(Op.equal t1 .nilIface .nilIface).run P w=.ok true w:=λw=>by
    show(Op.equalIn (9999+1) t1 .nilIface .nilIface).run P w=_;rw[Op.equalIn];simp[aqF B]
   cases l with
   |eql=>exact⟨_,FK.bin i j (D _) (λw=>by simp[binOp,E]),g⟩
   |neq=>exact⟨_,FK.bin i j (D _) (λw=>by simp[binOp,E]),g⟩
   |_=>cases g
  ·cases g
 ·obtain⟨K,rfl,g⟩:=ad8 g
  exact agO o i j g
 ·cases g
def unK{R:Type}(op:UnOp)(a:CV)(f:CV->Option R):Option R:=match op with
 |.not=>asB a λb=>bK (!b) f
 |.neg=>asI a λk m=>wrI k (Int.sub 0 m) λz=>f (.v (.int k z))
 |_=>none
def FK.un{i:UnOp}{f:CV->Option R}(j:jL t x A)(e:unK i A f=some r):∃c,QK P ⟨d,.unOp i t1 x,ty,pos,af,gd⟩ t c/\f c=some r:=by
 cases i with
 |not=>
  obtain⟨b,rfl,a⟩:=Q4 e;rw[sq]at a;exact⟨_,λρ A w g=>⟨_,by simp only[execOp,(j ρ A g).bE,unary_not,aqs,aqu,aqt],.v⟩,a⟩
 |neg=>
  obtain⟨k,m,rfl,a⟩:=JN e;rw[vG]at a;refine⟨_,λρ A w g=>⟨_,?_,.v⟩,a⟩;simp only[execOp,(j ρ A g).bE,unary_neg,Op.intArith,aqs,aqu,aqt];rfl
 |_=>cases e
def FK.conv(g:f_ P T){f:CV->Option R}(u:jL t x A)(p:(oB (T t1).ik λ_=>oB (T t2).ik λb=>asI A λk m=>wrI b m λz=>f (.v (.int b z)))=some r):∃c,QK P ⟨d,.convert t1 t2 x,ty,pos,af,gd⟩ t c/\f c=some r:=by
 obtain⟨v,j,l⟩:=bu p;obtain⟨b,a,o⟩:=bu l;obtain⟨k,m,rfl,e⟩:=JN o;rw[vG]at e;have q:=g.ik _ _ j;have a:=g.ik _ _ a;refine⟨_,λρ A w s=>⟨_,?_,.v⟩,e⟩;have i:P.intKind t2=b:=by simp[Program.intKind,a]
 have:=run_convert_int w t1 t2 k m (by rw[q];rfl) (by rw[i];exact a);rw[i]at this;simp only[execOp,(u ρ A s).bE,aqs,this,aqt,aqu]
def OI{R:Type}(a:CV)(k:Nat->Option R):Option R:=match a with
 |.sl _ _ m _=>k m
 |.v (.slice none 0 0)=>k 0
 |_=>none
def OJ{k:Nat->Option R}(b:OI A k=some r):∃m,(∀ρ v,KR ρ A v->∃a e,v=.slice a m e)/\k m=some r:=by
 unfold OI at b;split at b
 ·refine⟨_,λρ v c=>?_,b⟩
  cases c with
  |sl=>exact⟨_,_,rfl⟩
 ·exact⟨_,λρ v c=>⟨_,_,c.bE⟩,b⟩
 ·cases b
def mpK{R:Type}(a:CV)(k:Nat->Option R):Option R:=match a with
 |.mp j=>k j
 |_=>none
def Q7{k:Nat->Option R}(a:mpK A k=some r):∃j,A=.mp j/\k j=some r:=by
 unfold mpK at a;split at a
 ·exact⟨_,rfl,a⟩
 ·cases a
def blM(h:Tr cO)(k:Nat){R:Type}(f:TypeId->List (Value×CV)->Bool->Option R):Option R:=oB (h.get k) λx=>match x with
 |.ma t es wr=>f t es wr
 |_=>none
def Q8{f:TypeId->List (Value×CV)->Bool->Option R}(b:blM h a f=some r):∃t c wr,h.get a=some (.ma t c wr)/\f t c wr=some r:=by
 obtain⟨x,e,b⟩:=bu b;split at b
 ·exact⟨_,_,_,e,b⟩
 ·cases b
def am2{R:Type}(T:TypeId->bj)(h:Tr cO)(ts:List TypeId)(a:CV)(f:CV->Option R):Option R:=oB (ts[0]?) λt1=>bB (T t1).jO (OI a λm=>f (.v (.int .i64 (Int.ofNat m))))
 (mpK a λj=>blM h j λt2 es _=>bB (Nat.beq t1 t2) (kN es.length λm=>f (.v (.int .i64 (Int.ofNat m)))) none)
def ahQ{a:Array TypeId}{t1:TypeId}(h:a.toList[0]? =some t1):a[0]? =some t1:=by rw[<-arC];exact h
def YM{b:Array TypeId}{A:Option Addr}(c:b[0]? =some t1)(f:jO P t1=true)(i:H.eval x=.slice A a e)(w:World):(execOp H.eval ⟨d,.call ⟨.builtin .len, #[x],b⟩,ty,pos,af,gd⟩).run P w=.ok (.value (.int .i64 a)) w:=by
 obtain⟨E,g⟩:=tH f;simp[execOp,resolve,invoke,builtin,Builtin.len_,c,aqF g,i,goInt]
def FK.len(v:f_ P T){s:Array TypeId}{c:CV}{f:CV->Option R}(q:jL t x c)(b:am2 T h s.toList c f=some r):∃c,PK P w0 ⟨d,.call ⟨.builtin .len, #[x],s⟩,ty,pos,af,gd⟩ t h c/\f c=some r:=by
 obtain⟨t1,g,b⟩:=bu b;have g:=ahQ g;rcases dt b with⟨k,b⟩|⟨_,b⟩
 ·obtain⟨m,F,b⟩:=OJ b
  refine⟨_,λρ a w N l U=>?_,b⟩;obtain⟨A,L,e⟩:=F ρ _ (q ρ a l);exact⟨_,YM g (v.jO _ k) e w,.v⟩
 ·obtain⟨j,rfl,D⟩:=Q7 b
  obtain⟨t2,Q,wr,C,E⟩:=Q8 D;obtain⟨e,o⟩:=bd E;obtain rfl:=dW e;rw[fm]at o;refine⟨_,λρ a w N l k=>?_,o⟩;have p:=q ρ a l;generalize B:a.eval x=u at p;cases p with
  |mp G=>
   obtain⟨O,z,K,M,H,I,J⟩:=k.ob _ _ _ _ C G;obtain⟨V,S,i,p1,p2,p3,p4⟩:=gX H;refine⟨_,?_,.v⟩;simp[execOp,resolve,invoke,builtin,Builtin.len_,g,aqF p1,B,goInt,ark I,J.len]
def am3{R:Type}(T:TypeId->bj)(ts:List TypeId)(a:CV)(f:CV->Option R):Option R:=oB (ts[0]?) λt1=>match a with
 |.sl _ _ _ (some m)=>bB (T t1).jO (f (.v (.int .i64 (Int.ofNat m)))) none
 |.v (.slice none 0 0)=>bB (T t1).jO (f (.v (.int .i64 (Int.ofNat 0)))) none
 |_=>none
def FK.cap(k:f_ P T){o:Array TypeId}{f:CV->Option R}(m:jL t x A)(b:am3 T o.toList A f=some r):∃A,QK P ⟨d,.call ⟨.builtin .cap, #[x],o⟩,ty,pos,af,gd⟩ t A/\f A=some r:=by
 obtain⟨t1,c,b⟩:=bu b;have c:=ahQ c;split at b
 ·obtain⟨i,b⟩:=bd b
  obtain⟨E,e⟩:=tH (k.jO _ i);refine⟨_,λρ a w j=>?_,b⟩;have l:=m ρ a j;generalize g:a.eval x=u at l;cases l with
  |sl h v s p q=>
   obtain rfl:=p _ rfl;exact⟨_,by simp[execOp,resolve,invoke,builtin,Builtin.cap_,c,aqF e,g,goInt],.v⟩
 ·obtain⟨i,b⟩:=bd b
  obtain⟨E,e⟩:=tH (k.jO _ i);refine⟨_,λρ a w j=>⟨_,?_,.v⟩,b⟩;have g:=(m ρ a j).bE;simp[execOp,resolve,invoke,builtin,Builtin.cap_,c,aqF e,g,goInt]
 ·cases b
def FK.aec{b:Builtin}{ts:Array TypeId}{a c:CV}{f:CV->Option R}(B:jL t x a)(C:jL t y c)(j:(asI a λk m=>asI c λ_ q=>match b with
 |.min=>bB (ltK q m) (f (.v (.int k q))) (f (.v (.int k m)))
 |.max=>bB (ltK m q) (f (.v (.int k q))) (f (.v (.int k m)))
 |_=>none)=some r):∃c,QK P ⟨d,.call ⟨.builtin b, #[x,y],ts⟩,ty,pos,af,gd⟩ t c/\f c=some r:=by
 obtain⟨k,m,rfl,e⟩:=JN j;obtain⟨s,q,rfl,l⟩:=JN e;have p:∀v,(∀(a:Act) w,a.eval x=.int k m->a.eval y=.int s q->(execOp a.eval ⟨d,.call ⟨.builtin b, #[x,y],ts⟩,ty,pos,af,gd⟩).run P w=.ok (.value v) w)->QK P ⟨d,.call ⟨.builtin b, #[x,y],ts⟩,ty,pos,af,gd⟩ t (.v v):=λv A=>
  λρ a w u=>⟨v,A a w (B ρ a u).bE (C ρ a u).bE,.v⟩
 have o:∀a:Act,a.eval x=.int k m->a.eval y=.int s q->(#[x,y]:Array Operand).map a.eval= #[.int k m,.int s q]:=λa g i=>by simp only[asC,aqz,aro,g,i]
 cases b with
 |min=>
  simp only at l;rcases dt l with⟨e,j⟩|⟨e,j⟩
  ·rw[sn]at e
   have e:=aq7 e;exact⟨_,p _ λa w g i=>by simp only[execOp,resolve,o a g i,aqs,aqu,aqt,invoke,builtin,Builtin.min_,asU,asV,Builtin.min2,aqd e],j⟩
  ·rw[sn]at e
   have e:=asn e;exact⟨_,p _ λa w g i=>by simp only[execOp,resolve,o a g i,aqs,aqu,aqt,invoke,builtin,Builtin.min_,asU,asV,Builtin.min2,aqc e],j⟩
 |max=>
  simp only at l;rcases dt l with⟨e,j⟩|⟨e,j⟩
  ·rw[sn]at e
   have e:q>m:=aq7 e;exact⟨_,p _ λa w g i=>by simp only[execOp,resolve,o a g i,aqs,aqu,aqt,invoke,builtin,Builtin.max_,asU,asV,Builtin.max2,aqd e],j⟩
  ·rw[sn]at e
   have e:¬q>m:=asn e;exact⟨_,p _ λa w g i=>by simp only[execOp,resolve,o a g i,aqs,aqu,aqt,invoke,builtin,Builtin.max_,asU,asV,Builtin.max2,aqc e],j⟩
 |_=>cases l
end
end
variable{B:Array Value}{s:List Value}{I:Tr CV}{m:World}
section
open Go Go.RowKit MapKept
section
variable{P:Program}{Dk:Deferred->Prop}{w0:World}{T:TypeId->bj}
def JP{R:Type}(l:List CV):Nat->Tr CV->(Tr CV->Option R)->Option R:=List.rec (motive:=λ_=>Nat->Tr CV->(Tr CV->Option R)->Option R) (λ_ t k=>k t) (λc _ ih i t k=>Tr.new (some c) 64 t i λt'=>ih (Nat.succ i) t' k) l
def pV{R:Type}{r:R}:∀{l:List CV} {i:Nat} {t:Tr CV} {k:Tr CV->Option R},JP l i t k=some r->∃a,k a=some r/\∀j,a.get j=if i<=j/\j<i+l.length then l[j - i]? else t.get j
 |[],i,t,k,h=>⟨t,h,λj=>by rw[aqc (by simp)]⟩
 |c::l,i,t,k,h=>by
  change Tr.new (some c) 64 t i (λa=>JP l (i+1) a k)=some r at h;obtain⟨t1,m,f⟩:=Tr.nG h;obtain⟨t2,o,g⟩:=pV m;refine⟨t2,o,λj=>?_⟩;rw[g j,f j];simp only[aqC];by_cases e:j=i
  ·subst e
   rw[aqc (by omega),aqd rfl,aqd (by omega)];simp
  ·by_cases b:i+1<=j/\j<i+1+l.length
   ·rw[aqd b,aqd (by omega),show j - i=(j - (i+1))+1 by omega]
    simp
   ·rw[aqc b,aqc e,aqc (by omega)]
def trL(l:List CV):Tr CV:=Option.rec (motive:=λ_=>Tr CV) .lf (λt=>t) (JP l 0 .lf some)
def aed{l:List CV}(h:(trL l).get a=some A):l[a]? =some A:=by
 unfold trL at h;cases b:JP l 0 .lf (some:Tr CV->Option (Tr CV))with
 |none=>rw[b]at h;cases h
 |some t=>
  rw[b]at h;obtain⟨f,c,e⟩:=pV b;cases c;change t.get a=some A at h;rw[e]at h;split at h
  ·simpa using h
  ·cases h
def mq(l:List CV):Bool:=List.rec (motive:=λ_=>Bool) true (λc _ ih=>bB c.one ih false) l
def fW:∀{l:List CV},mq l=true->∀c∈l,c.one=true
 |[],_,c,a=>by simp at a
 |x::l,h,c,a=>by
  change bB x.one (mq l) false=true at h;cases b:x.one with
  |false=>rw[b]at h;cases h
  |true=>
   rw[b]at h;rcases aqG.1 a with rfl|a
   ·exact b
   ·exact fW (l:=l) h c a
def yN{R:Type}(h:Tr cO)(n:Nat)(b:cO)(k:Tr cO->Nat->Option R):Option R:=Tr.new (some b) 64 h n λh'=>kN (Nat.succ n) λn'=>k h' n'
def tJ{R:Type}{r:R}{h:Tr cO}{n:Nat}{b:cO}{k:Tr cO->Nat->Option R}(f:yN h n b k=some r):∃a,k a (n+1)=some r/\∀j,a.get j=if j=n then some b else h.get j:=by
 obtain⟨a,c,e⟩:=Tr.nG f;rw[fm]at c;exact⟨a,c,e⟩
def sA{R:Type}(c:CV)(k:List CV->Option R):Option R:=match c with
 |.ag cs=>k cs
 |c=>bB c.one (k [c]) none
def z6{R:Type}{r:R}{k:List CV->Option R}(b:sA A k=some r):∃l,(∀ρ v,KR ρ A v->∃a,v.cells=a.toArray/\LR (KR ρ) l a)/\k l=some r:=by
 have j:∀A:CV,(∀f,A≠.ag f)->bB A.one (k [A]) none=some r->∃l,(∀ρ v,KR ρ A v->∃a,v.cells=a.toArray/\LR (KR ρ) l a)/\k l=some r:=λA _ b=>by
  obtain⟨g,b⟩:=bd b;exact⟨_,λρ v c=>⟨[v],mY (c.jk g),LR.cons c LR.nil⟩,b⟩
 cases A with
 |ag f=>exact⟨_,λρ v c=>by obtain⟨a,rfl,i⟩:=c.eS;exact⟨a,rfl,i⟩,b⟩
 |_=>exact j _ (λf e=>by cases e) b
def Nm.new(ρ:Nm)(n b m:Nat):Nm:=λk=>if k=n then some (b,m)else ρ k
def Nm.pW{n b m:Nat}:j.new n b m n=some (b,m):=aqd rfl
def HR.le{h:KH}{n:Nat}(e:HR P w0 j h n m)(b a:Nat):zY j (j.new n b a):=λk p c=>by
 have:=e.lt c;show(if k=n then _ else _)=_;rw[aqc (by omega)];exact c
def HR.drew{ρ:Nm}{h:KH}{n:Nat}{w:World}(a:HR P w0 ρ h n w):HR P w0 ρ h n w.drew:=
 ⟨a.ext.drew,λk x b m e c=>(a.ob k x b m e c).mono (zY.refl ρ) rfl,a.lo,a.inj,a.top,a.Cy⟩
def KP.drew{ρ:Nm}{h:KH}{n:Nat}{w:World}(a:HR P w0 ρ h n w):KP P w0 ρ h n w ρ h n w.drew:=
 let k:=KP.refl a
 ⟨a.drew,aqf _,λ_ _=>rfl,aqf _,k.fr,k.ol,k.fz⟩
def HR.HQ{h g:KH}{n:Nat}(i:HR P w0 j h n m)(ty:TypeId)(f:Nat)(ext:Option Nat){N:Nat}{ct:Tr CV}(w:N<=B.size)(A:∀o,ext=some o->B.size=f*o)
 (p:∀e c,ct.get e=some c->e<N/\∃u,B[e]? =some u/\KR j c u/\c.one=true) (q:∀k,g k=if k=n then some (.ce ct N ext true)else h k):
 KP P w0 j h n m (j.new n m.heap.size f) g (n+1) (m.alloc (.cells B ty)):=by
 have v:=i.le m.heap.size f;exact i.new _ f q ((Ext.refl m).alloc _) (by simp) ⟨ty,B,Wu m _,w,λe c s=>let⟨l,u,a,b,d⟩:=p e c s;⟨l,u,a,b.mono v,d⟩,A⟩
def LR.at{ρ:Nm}{l:List CV}(g:LR (KR ρ) l s)(b:∀c∈l,c.one=true)(e:∀j c,I.get j=some c->l[j]? =some c):∀j c,I.get j=some c->j<l.length/\∃u,s.toArray[j]? =some u/\KR ρ c u/\c.one=true:=λj c a=>by
 have a:=e j c a;obtain⟨u,i,f⟩:=g.get a;exact⟨(aqh.1 a).1,u,by simpa using i,f,b c (aqw a)⟩
section
variable{t:Tr CV}{h:Tr cO}{n:Nat}{d:Option Tmp}{ty t1 t2:TypeId}{pos:String}{af:Array Edge}{gd:Option (Nat×Bool)}{x y z:Operand}{R:Type}{r:R}
def JQ{b:cO}{k:Tr cO->Nat->Option R}(f:yN h n b k=some r):∃a,(∀j,a.get j=tR h.get n (some b) j)/\k a (yM n (some b))=some r:=by
 obtain⟨a,c,e⟩:=tJ f;exact⟨a,e,c⟩
def aee{R:Type}(h:Tr cO)(n:Nat)(l:List CV)(k:Nat->Tr cO->Nat->Option R):Option R:=bB (mq l) (JP l 0 .lf λct=>kN l.length λm=>yN h n (.ce ct m none true) λh' n'=>k n h' n') none
def V3{l:List CV}{k:Nat->Tr cO->Nat->Option R}(a:aee h n l k=some r):∃b f,(∀ρ w i ty (H:KH) N,HR P w0 ρ H N w->LR (KR ρ) l i->KP P w0 ρ H N w (ρ.new N w.heap.size 0) (tR H N (some b)) (N+1) (w.alloc (.cells i.toArray ty)))/\(∀j,f.get j=tR h.get n (some b) j)/\k n f (n+1)=some r:=by
 obtain⟨o,a⟩:=bd a;obtain⟨u,a,p⟩:=pV a;rw[fm]at a;obtain⟨f,q,a⟩:=JQ a;refine⟨_,f,λρ w i ty H N s m=>?_,q,a⟩;refine s.HQ ty 0 none (N:=l.length) (by simp[m.1]) (λv e=>by cases e) (m.at (fW o) λj c g=>?_) (λ_=>rfl);rw[p]at g;split at g
 ·simpa using g
 ·cases g
def FK.box{a:CV}{k:CV->Tr cO->Nat->Option R}(C:jL t x a)(e:(sA a λl=>aee h n l λi c D=>k (.pt i 0) c D)=some r):∃g f c,ZK P Dk w0 ⟨d,.box t1 x,ty,pos,af,gd⟩ t g f/\(∀j,c.get j=tR h.get n f j)/\k (g n) c (yM n f)=some r:=by
 obtain⟨l,p,e⟩:=z6 e;obtain⟨b,c,s,o,e⟩:=V3 (P:=P) (w0:=w0) e;refine⟨λn=>.pt n 0,some b,c,λρ a w H N A u=>?_,o,e⟩;obtain⟨m,B,q⟩:=p ρ _ (C ρ a A);refine .value (v:=.pointer (some ⟨w.heap.size,0,none⟩)) (w':=w.alloc (.cells m.toArray t1)) ?_ ⟨_,s ρ w m t1 H N u q,.pt Nm.pW⟩;simp[execOp,Instr.box,newVar,newRow,newObj,B,Sem.run]
def FK.alloc(p:f_ P T){k:CV->Tr cO->Nat->Option R}(u:(oB (T t1).ze λz=>bB (mq (z.map .v)) (yN h n (.ce (trL (z.map .v)) z.length none true) λb F=>k (.pt n 0) b F) none)=some r):∃m l b,ZK P Dk w0 ⟨d,.alloc t1,ty,pos,af,gd⟩ t m l/\(∀j,b.get j=tR h.get n l j)/\k (m n) b (yM n l)=some r:=by
 obtain⟨z,f,A⟩:=bu u;obtain⟨o,B⟩:=bd A;obtain⟨b,q,C⟩:=JQ B;have f:=p.ze _ _ f;unfold Ac at f;obtain⟨i,s,f⟩:=asx.1 f;obtain⟨G,E,rfl⟩:=aqL.1 f;refine⟨λn=>.pt n 0,_,b,λρ a w H N I D=>?_,q,C⟩;refine .value (v:=.pointer (some ⟨w.heap.size,0,none⟩)) (w':=w.alloc (.cells G.cells.toList.toArray t1)) ?_ ⟨_,D.HQ t1 0 none (by simp) (λJ e=>by cases e) (λj c g=>by have:=LR.at (ρ:=ρ) (LR.vs _) (fW o) (λj c g=>aed g) j c g;simpa using this) (λ_=>rfl),.pt Nm.pW⟩;simp[execOp,Instr.alloc,zeroValue,typeInfo,s,E,newVar,newRow,newObj,Sem.run]
def ke{R:Type}(t:Tr CV)(ps:List (Nat×Operand)):(List (Nat×List CV)->Option R)->Option R:=
 List.rec (motive:=λ_=>(List (Nat×List CV)->Option R)->Option R) (λk=>k []) (λp _ ih k=>dM t p.2 λc=>sA c λl=>ih λqs=>k ((p.1,l)::qs)) ps
def z7:∀{ps:List (Nat×Operand)} {k:List (Nat×List CV)->Option R},ke t ps k=some r->∃e,(∀ρ a,mD ρ t a->e.length=(ps.map λp=>(p.1,a.eval p.2)).length/\∀(j:Nat) p q,e[j]? =some p->(ps.map λp=>(p.1,a.eval p.2))[j]? =some q->p.1=q.1/\LR (KR ρ) p.2 q.2.cells.toList)/\k e=some r
 |[],k,b=>⟨[],λρ a m=>⟨rfl,by simp⟩,b⟩
 |(i,x)::ps,k,b=>by
  obtain⟨c,u,b⟩:=bV b;obtain⟨l,v,b⟩:=z6 b;obtain⟨e,A,b⟩:=z7 (ps:=ps) b;refine⟨(i,l)::e,λρ a m=>?_,b⟩;obtain⟨o,s⟩:=A ρ a m;refine⟨by simp[o],λj p q f g=>?_⟩;cases j with
  |zero=>
   simp at f g;subst f g;obtain⟨C,B,w⟩:=v ρ _ (u ρ a m);exact⟨rfl,by simpa[B]using w⟩
  |succ j=>exact s j p q (by simpa using f) (by simpa using g)
def FK.build(G:f_ P T){A:Array (Nat×Operand)}{k:CV->Option R}(f:(oB (T t1).pl λp=>ke t A.toList λB=>oB (fZ (λi=>p.2[i]?) (p.1.map .v) B) λj=>k (.ag j))=some r):∃c,QK P ⟨d,.build t1 A,ty,pos,af,gd⟩ t c/\k c=some r:=by
 obtain⟨⟨z,l⟩,v,f⟩:=bu f;obtain⟨B,J,f⟩:=z7 f;obtain⟨j,u,f⟩:=bu f;obtain⟨M,b,I⟩:=G.pl _ _ _ v;have u:=va I u;refine⟨_,λρ a w K=>?_,f⟩;obtain⟨E,F⟩:=J ρ a K;have v:LR (KR ρ) (z.map .v) z.toArray.toList:=by simpa using LR.vs z
 obtain⟨g,C,D⟩:=jl (place:=M) B _ (z.map .v) j z.toArray v E F u;refine⟨.agg g.toList.toArray,?_,.ag _ D.1 D.2⟩;have H:P.built t1 (A.map λ(i,x)=>(i,a.eval x)).toList=some g:=by
  unfold plA at b;unfold Program.built;simp only[arT];split at b
  ·rename_i L n e m o
   split at b
   ·rename_i N Q q s
    simp only[aqg,aqx]at b;obtain⟨rfl,rfl⟩:=b;simp only[m,o,q,s];simpa using C
   ·cases b
  ·rename_i L O m o
   split at b
   ·rename_i N S q s
    simp only[aqg,aqx]at b;obtain⟨rfl,rfl⟩:=b;simp only[m,o,q,s];simpa using C
   ·cases b
  ·cases b
 have:=run_build w t1 _ g H;simp only[execOp,aqs,this,aqt,aqu,auh]
def FK.buildSlice(O:f_ P T){len:Nat}{parts:Array (Nat×Operand)}{k:CV->Tr cO->Nat->Option R}(C:(oB (T t1).el λe=>bB (Nat.ble (Nat.mul len e.2.1) 16777216) (ke t parts.toList λqs=>oB (fZ (λi=>some (i*e.2.1,e.2.1)) (List.replicate (Nat.mul len e.2.1) (.v undef)) qs) λcs=>aee h n cs λi h' n'=>k (.sl i 0 len (some len)) h' n') none)=some r):
 ∃B s h',ZK P Dk w0 ⟨d,.buildSlice t1 len parts,ty,pos,af,gd⟩ t B s/\(∀j,h'.get j=tR h.get n s j)/\k (B n) h' (yM n s)=some r:=by
 obtain⟨⟨E,sz,a5,z⟩,S,X⟩:=bu C;obtain⟨m,Y⟩:=bd X;have m:len*sz<=16777216:=aqk m;obtain⟨qs,l,Z⟩:=z7 Y;obtain⟨cs,U,D⟩:=bu Z;have a3:=(bd D).1;obtain⟨J,h',g,W,o⟩:=V3 (P:=P) (w0:=w0) D;obtain⟨i,zv,K,L,M,h5,rfl,_,_⟩:=cK (O.el _ _ S);refine⟨λn=>.sl n 0 len (some len),some J,h',λρ a w H N ht hs=>?_,W,o⟩;obtain⟨p1,p2⟩:=l ρ a ht;obtain⟨A,Q,a4⟩:=kW (P:=P) w t1 E len (parts.map λ(i,x)=>(i,a.eval x)) i zv K L M m;have a2:LR (λc u=>c=CV.v undef\/KR ρ c u) (List.replicate (len*i.size) (.v undef)) A.toList:=by
  refine⟨by simp[Q],λj c u b I=>?_⟩;rw[asP]at b;split at b
  ·simp at b;exact .inl b.symm
  ·cases b
 have G:qs.length=(parts.map λ(i,x)=>(i,a.eval x)).toList.length/\∀(j:Nat) p q,qs[j]? =some p->(parts.map λ(i,x)=>(i,a.eval x)).toList[j]? =some q->p.1=q.1/\LR (λc u=>c=CV.v undef\/KR ρ c u) p.2 q.2.cells.toList:=by
  rw[arT];exact⟨p1,λj p q g l=>⟨(p2 j p q g l).1,(p2 j p q g l).2.imp λ_ _ o=>.inr o⟩⟩
 obtain⟨f,V,F⟩:=jl (place:=λj=>some (j*i.size,i.size)) qs _ _ cs A a2 G.1 G.2 U;have a1:LR (KR ρ) cs f.toList:=⟨F.1,λj c u b I=>by
  rcases F.2 j c u b I with rfl|C
  ·have:=fW a3 _ (aqw b)
   cases this
  ·assumption⟩
 have a0:=g ρ w f.toList E H N hs a1;refine .value (v:=.slice (some ⟨w.heap.size,0,none⟩) len len) (w':=w.alloc (.cells f.toList.toArray E)) ?_ ⟨_,a0,.sl Nm.pW (λ_=>rfl) (aqf _) (λx e=>by cases e;rfl) (λe=>by cases e)⟩;simp only[execOp,aqs,a4 f V,aqt,aqu,auh]
def pX{z:Array Value}{m j:Nat}{u:Value}(c:0<z.size)(f:j<m)(b:z[j % z.size]? =some u):(madeCells z m)[j]? =some u:=by
 have a:j % z.size<z.size:=asA _ c;have e:z[j % z.size]! =u:=by
  rw[aqX a]at b;cases b;simp[a]
 simp[madeCells,f,e]
def Q9{α:Type}(z:List α)(b:0<z.length):∀(m j:Nat) c,(List.replicate m z).flatten[j]? =some c->z[j % z.length]? =some c/\j<m*z.length
 |0,j,c,h=>by simp at h
 |m+1,j,c,h=>by
  rw[arK,aqR]at h;by_cases a:j<z.length
  ·rw[aq2 a]at h
   exact⟨by rw[asz a];exact h,by rw[aqS];omega⟩
  ·rw[arx (by omega)]at h
   obtain⟨e,f⟩:=Q9 z b m _ c h;exact⟨by rw[<-e,aum (asT a)],by rw[aqS];omega⟩
def Fe(z:List Value)(m:Nat):Tr CV:=match z with
 |[v]=>Tr.fill (.v v) 64 m
 |z=>trL ((List.replicate m (z.map .v)).flatten)
def HS{z:List Value}(f:0<z.length)(h:(Fe z a).get e=some A):∃u,A=.v u/\z[e % z.length]? =some u/\e<a*z.length:=by
 unfold Fe at h;split at h
 ·rename_i v
  obtain⟨rfl,b⟩:=Tr.jl h;exact⟨v,rfl,by simp[Nat.mod_one],by simpa using b⟩
 ·have b:=aed h
  have g:0<(z.map CV.v).length:=by simpa using f
  obtain⟨c,i⟩:=Q9 _ g a e A b;rw[aqn,aqA]at c;obtain⟨u,j,rfl⟩:=aqL.1 c;exact⟨u,rfl,j,by simpa using i⟩
def FK.makeSlice(S:f_ P T){p q:CV}{k:CV->Tr cO->Nat->Option R}(hx:jL t x p)(hy:jL t y q)(X:(oB (T t1).el λe=>tT p λm=>tT q λM=>bB (Nat.beq m M) (bB (Nat.ble (Nat.mul e.2.2.1 m) 140737488355328) (bB (Nat.ble m 1048576) (bB (Nat.blt 0 e.2.1) (bB (mq (e.2.2.2.map .v)) (yN h n (.ce (Fe e.2.2.2 m) (Nat.mul m e.2.1) none true) λb n'=>k (.sl n 0 m (some m)) b n') none) none) none) none) none)=some r):
 ∃A l b,ZK P Dk w0 ⟨d,.makeSlice t1 x y,ty,pos,af,gd⟩ t A l/\(∀j,b.get j=tR h.get n l j)/\k (A n) b (yM n l)=some r:=by
 obtain⟨⟨E,O,Q,z⟩,U,Y⟩:=bu X;obtain⟨k1,m,rfl,Z⟩:=lJ Y;obtain⟨k2,M,rfl,a0⟩:=lJ Z;obtain⟨hm,a1⟩:=bd a0;obtain rfl:=dW hm;obtain⟨D,a2⟩:=bd a1;obtain⟨J,a3⟩:=bd a2;obtain⟨G,a4⟩:=bd a3;obtain⟨a7,a5⟩:=bd a4;obtain⟨b,V,a6⟩:=JQ a5;have D:Q*m<=140737488355328:=aqk D;have J:m<=1048576:=aqk J;have I:0<O:=aqk G;clear G;obtain⟨i,s,p2,p3,p4,o,rfl,rfl,rfl⟩:=cK (S.el _ _ U);refine⟨λn=>.sl n 0 m (some m),_,b,λρ a w H N K hs=>?_,V,a6⟩;have F:=run_make (P:=P) w t1 E i s p2 p3 p4 k1 k2 m m (by omega) (asR _) (by
  have h:((i.bytes*m:Nat):Int)<=281474976710656:=by omega
  rwa[ar9]at h) (by omega)
 simp only[aqo]at F;have L:s.cells.toList.length=i.size:=by simpa using o
 refine .value (v:=.slice (some ⟨w.heap.size,0,none⟩) m m) (w':=w.alloc (.cells (madeCells s.cells (m*i.size)) E)) ?_ ⟨_,hs.HQ E 0 none (by simp[aun]) (λO e=>by cases e) (λj c W=>?_) (λ_=>rfl),.sl Nm.pW (λ_=>rfl) (aqf _) (λx e=>by cases e;rfl) (λe=>by cases e)⟩
 ·have B:=(hx ρ a K).bE
  have C:=(hy ρ a K).bE;simp only[at3]at B C;simp only[execOp,B,C,aqs,F,aqt,aqu]
 ·obtain⟨u,rfl,g,f⟩:=HS (by rw[L];exact I) W
  rw[L]at g f;refine⟨by simpa using f,u,pX (by rw[o];exact I) f (by rw[o];simpa using g),.v,?_⟩;exact fW a7 _ (aqq.2 ⟨u,aqw g,rfl⟩)
def FK.makeMap(g:f_ P T){k:CV->Tr cO->Nat->Option R}(m:(oB (T t1).mp λ_=>yN h n (.ma t1 [] true) λb s=>k (.mp n) b s)=some r):∃f e b,ZK P Dk w0 ⟨d,.makeMap t1 none,ty,pos,af,gd⟩ t f e/\(∀j,b.get j=tR h.get n e j)/\k (f n) b (yM n e)=some r:=by
 obtain⟨⟨u,z⟩,c,o⟩:=bu m;obtain⟨b,l,p⟩:=JQ o;have c:=g.mp _ _ c;obtain⟨C,A,i,p1,p2,p3,p4⟩:=gX c;refine⟨λn=>.mp n,_,b,λρ a w H N B q=>?_,l,p⟩;refine .value (v:=.map (some w.heap.size)) (w':=w.alloc (.map #[] 0)) ?_ ⟨_,q.new _ 0 (λ_=>rfl) ((Ext.refl w).alloc _) (by simp) ⟨u,z, #[],0,c,Wu w _,rfl,by simp,by simp,stamped_empty 0,by simp,rfl⟩,.mp Nm.pW⟩;simp[execOp,run_makeMap]
def FK.makeFunc{g:Fn}{i f:Array Operand}{k:CV->Option R}(e:(pU t i.toList λp=>pU t f.toList λb=>k (.cl g p b))=some r):∃c,QK P ⟨d,.makeFunc g i f,ty,pos,af,gd⟩ t c/\k c=some r:=by
 obtain⟨p,q,e⟩:=Cz e;obtain⟨b,s,e⟩:=Cz e;refine⟨_,λρ a w l=>?_,e⟩;have m:=q ρ a l;have o:=s ρ a l;refine⟨.func g (i.toList.map a.eval).toArray (f.toList.map a.eval).toArray,?_,.cl _ _ m.1 o.1 m.2 o.2⟩;have j:∀b:Array Operand,(b.toList.map a.eval).toArray=b.map a.eval:=λb=>by rw[<-arT]
 rw[j,j];simp[execOp,Instr.makeFunc]
end
end
end
variable{K:Option Operand}
section
open Go Go.RowKit MapKept
section
variable{P:Program}{Dk:Deferred->Prop}{w0:World}{T:TypeId->bj}
def aj2{R:Type}(l:List CV):Nat->Tr CV->(Tr CV->Option R)->Option R:=List.rec (motive:=λ_=>Nat->Tr CV->(Tr CV->Option R)->Option R) (λ_ t k=>k t) (λc _ ih i t k=>Tr.put c t i λt'=>ih (Nat.succ i) t' k) l
def V4{R:Type}{r:R}:∀{l:List CV} {i:Nat} {t:Tr CV} {k:Tr CV->Option R},aj2 l i t k=some r->∃b,k b=some r/\(∀j,b.get j=if i<=j/\j<i+l.length then l[j - i]? else t.get j)/\∀j,i<=j->j<i+l.length->∃x,t.get j=some x
 |[],i,t,k,h=>⟨t,h,λj=>by rw[aqc (by simp)],λj g e=>by simp at e;omega⟩
 |c::l,i,t,k,h=>by
  change Tr.put c t i (λb=>aj2 l (i+1) b k)=some r at h;obtain⟨t1,g,u,f⟩:=Tr.mo h;obtain⟨t2,e,p,q⟩:=V4 g;refine⟨t2,e,λj=>?_,λj v s=>?_⟩
  ·rw[p j,f j]
   simp only[aqC];by_cases a:j=i
   ·subst a
    rw[aqc (by omega),aqd rfl,aqd (by omega)];simp
   ·by_cases m:i+1<=j/\j<i+1+l.length
    ·rw[aqd m,aqd (by omega),show j - i=(j - (i+1))+1 by omega]
     simp
    ·rw[aqc m,aqc a,aqc (by omega)]
  ·by_cases a:j=i
   ·subst a;exact u
   ·simp only[aqC]at s
    obtain⟨x,o⟩:=q j (by omega) (by omega);rw[f j,aqc a]at o;exact⟨x,o⟩
def Ext.setRow{w0 w:World}(h:Ext w0 w){b:Nat}(e:w0.heap.size<=b)(a:Array Value):Ext w0 (w.setRow b a):=
 ⟨⟨h.os,h.tape,h.output,by simp[World.setRow];exact h.size,λk c=>by rw[as5 w b k a (by omega)];exact h.bJ k c⟩,h.drawn⟩
def HR.write{h K:KH}{n:Nat}(p:HR P w0 j h n m){a b f o N:Nat}{D I:Tr CV}{ext:Option Nat}{l:List CV}{us:List Value}(w:h a=some (.ce D N ext true))(B:j a=some (b,f))(v:LR (KR j) l us)(M:∀c∈l,c.one=true)
 (O:∀i,I.get i=if o<=i/\i<o+l.length then l[i - o]? else D.get i) (Q:∀i,o<=i->i<o+l.length->∃x,D.get i=some x) (S:∀k,K k=if k=a then some (.ce I N ext true)else h k):
 ∃W,(storeCells ⟨b,o,none⟩ us 0).run P m=.ok () W/\KP P w0 j h n m j K n W:=by
 obtain⟨ty,s,E,X,C,J⟩:=p.ob _ _ _ _ w B;have F:o+us.length<=s.size\/us=[]:=by
  by_cases L:us=[]
  ·exact .inr L
  ·left
   have hp:0<us.length:=ar0.2 L;obtain⟨x,H⟩:=Q (o+us.length - 1) (by omega) (by rw[<-v.1];omega);have:=(C _ _ H).1;omega
 rcases F with F|rfl
 ·have Z:∀u∈us,u.oneCell'=true:=λu q=>by
   obtain⟨i,g,rfl⟩:=aqY q;have U:i<l.length:=by rw[<-v.1];exact g
   exact(v.2 i l[i] us[i] (aqm U) (aqm g)).jk (M _ (asH U))
  have a2:=run_storeCells_at P b o ty us 0 s m E (by simpa using F) Z;refine⟨_,a2,?_⟩;have V:=p.lo _ _ _ _ w B;refine p.set _ w B rfl rfl S (p.ext.setRow V _) (by simp[World.setRow]) (λk A=>as5 m b k _ A) ⟨ty,_,auf m b s _ ty (0,0) E,?_,λi c g=>?_,λsz e=>?_⟩
  ·simp;omega
  ·rw[O]at g
   split at g
   ·rename_i G
    obtain⟨x,H⟩:=Q i G.1 G.2;obtain⟨u,q,A⟩:=v.get g;refine⟨(C _ _ H).1,u,?_,A,M c (aqw g)⟩;have e0:(s.toList.take o).length=o:=by simp;omega
    simp only[arG,arJ];rw[aqJ,arx (by omega),e0,aq2 (by have:=(aqh.1 q).1;exact this)];exact q
   ·rename_i G
    obtain⟨Y,u,q,A,ho⟩:=C _ _ g;refine⟨Y,u,?_,A,ho⟩;have e0:(s.toList.take o).length=o:=by simp;omega
    simp only[arG,arJ];rw[aqJ];by_cases a1:i<o
    ·rw[aq2 (by omega),aqT,aqd a1];simpa using q
    ·have a3:o+us.length<=i:=by rw[v.1];omega
     rw[arx (by omega),e0,arx (by omega),arD];rw[show o+us.length+(i - o - us.length)=i by omega];simpa using q
  ·rw[<-J sz e];simp;omega
 ·refine⟨m,rfl,?_⟩
  have a0:l=[]:=arh v.1.symm;subst a0;have V:=p.lo _ _ _ _ w B;refine p.set _ w B rfl rfl S p.ext rfl (λ_ _=>rfl) ⟨ty,s,E,X,λi c g=>?_,J⟩;rw[O,aqc (by simp)]at g;exact C i c g
section
variable{t:Tr CV}{h:Tr cO}{n:Nat}{d:Option Tmp}{ty t1 t2:TypeId}{pos:String}{af:Array Edge}{gd:Option (Nat×Bool)}{x y z:Operand}{R:Type}{r:R}
def wrK{R:Type}(h:Tr cO)(j o:Nat)(l:List CV)(k:Tr cO->Option R):Option R:=blC h j λcs N ext wr=>bB wr (bB (mq l) (aj2 l o cs λct=>Tr.put (.ce ct N ext true) h j k) none) none
def aef{l:List CV}{k:Tr cO->Option R}(s:wrK h a e l k=some r):
 ∃c,(∀ρ w b m f,HR P w0 ρ h.get n w->ρ a=some (b,m)->LR (KR ρ) l f->∃g,(storeCells ⟨b,e,none⟩ f 0).run P w=.ok () g/\KP P w0 ρ h.get n w ρ c.get n g)/\k c=some r:=by
 obtain⟨G,N,ext,wr,q,u⟩:=zZ s;obtain⟨rfl,v⟩:=bd u;obtain⟨i,A⟩:=bd v;obtain⟨H,B,j,o⟩:=V4 A;obtain⟨c,C,_,p⟩:=Tr.mo B;exact⟨c,λρ w b m f F E D=>F.write q E D (fW i) j o p,C⟩
def ptA{R:Type}(c:CV)(k:Nat->Nat->Option R):Option R:=match c with
 |.pt j o=>k j o
 |_=>none
def aj3{k:Nat->Nat->Option R}(a:ptA A k=some r):∃j o,A=.pt j o/\k j o=some r:=by
 unfold ptA at a;split at a
 ·exact⟨_,_,rfl,a⟩
 ·cases a
def FK.store(C:f_ P T){p q:CV}{k:CV->Tr cO->Nat->Option R}(W:jL t x p)(X:jL t y q)(E:(oB (T t1).ty λe=>ptA p λj o=>sA q λl=>bB (Nat.beq l.length e.2) (wrK h j o l λf=>k (.v undef) f n) none)=some r):
 ∃c f v,FK P Dk w0 ⟨d,.store t1 x y,ty,pos,af,gd⟩ t h n c f v/\k c f v=some r:=by
 obtain⟨⟨ag,m⟩,S,F⟩:=bu E;obtain⟨j,o,rfl,G⟩:=aj3 F;obtain⟨l,L,H⟩:=z6 G;obtain⟨g,I⟩:=bd H;obtain⟨f,V,J⟩:=aef (P:=P) (w0:=w0) (n:=n) I;have g:l.length=m:=dW g;refine⟨_,f,n,λρ a w u O=>?_,J⟩;obtain⟨b,Y,M,D⟩:=(W ρ a u).vF;obtain⟨A,U,s⟩:=L ρ _ (X ρ a u);obtain⟨Z,N,K⟩:=V ρ w b Y A O M s;obtain⟨td,i,h2,B,_,rfl⟩:=hU (C.ty _ _ S);refine .skip (w':=Z) ?_ ⟨ρ,K,.v⟩;have Q:A.length=i.size:=by rw[s.1];exact g
 simp[execOp,Instr.storeAt,Instr.sureAddr,D,storeVar,U,cq w B,Q,N]
def tU{R:Type}(t:Tr CV)(o:Option Operand)(ah6:Nat)(k:Nat->Option R):Option R:=Option.rec (motive:=λ_=>Option R) (k ah6) (λx=>dM t x λc=>tT c k) o
def pY{k:Nat->Option R}(f:tU t K a k=some r):∃m,(∀ρ b,mD ρ t b->(K.map b.eval=none/\m=a)\/∃e,K.map b.eval=some (.int e (m:Int)))/\k m=some r:=by
 cases K with
 |none=>exact⟨a,λρ b g=>.inl ⟨rfl,rfl⟩,f⟩
 |some x=>
  obtain⟨c,i,j⟩:=bV f;obtain⟨e,m,rfl,l⟩:=lJ j;exact⟨m,λρ b g=>.inr ⟨e,by simp[(i ρ b g).bE]⟩,l⟩
def am5(c:Option Nat)(m:Nat):Nat:=Option.rec (motive:=λ_=>Nat) m (λcp=>cp) c
def pcK{R:Type}(j o sz l hh ml:Nat)(k:CV->Option R):Option R:=kN (bB (Nat.beq ml l) o (Nat.add o (Nat.mul l sz))) λo'=>kN (Nat.sub hh l) λm'=>kN (Nat.sub ml l) λc'=>k (.sl j o' m' (some c'))
def Q_{j o e l c a:Nat}{k:CV->Option R}:pcK j o e l c a k=k (.sl j (if a=l then o else o+l*e) (c - l) (some (a - l))):=by
 unfold pcK;rw[fm,fm,fm];cases b:Nat.beq a l with
 |true=>rw[aqd (dW b)];rfl
 |false=>rw[aqc (iO b)];rfl
def sB{R:Type}(T:TypeId->bj)(t:Tr CV)(t1:TypeId)(a:CV)(lo hi mx:Option Operand)(k:CV->Option R):Option R:=match a with
 |.sl j o m c=>oB (T t1).el λe=>bB (Nat.blt 0 e.2.1) (tU t lo 0 λl=>tU t hi m λhh=>bB (Nat.ble l hh) (bB (Nat.ble hh m) (Option.rec (motive:=λ_=>Option R)
  (Option.rec (motive:=λ_=>Option R) (kN (Nat.add o (Nat.mul l e.2.1)) λo'=>kN (Nat.sub hh l) λm'=>k (.sl j o' m' none)) (λcp=>bB (Nat.ble m cp) (pcK j o e.2.1 l hh cp k) none) c)
  (λxm=>bB hi.isSome (dM t xm λc'=>tT c' λml=>bB (Nat.ble hh ml) (bB (Nat.ble ml (am5 c m)) (pcK j o e.2.1 l hh ml k) none) none) none) mx) none) none) none
 |.v (.slice none 0 0)=>oB (T t1).el λ_=>tU t lo 0 λl=>tU t hi 0 λhh=>tU t mx 0 λml=>bB (Nat.beq l 0) (bB (Nat.beq hh 0) (bB (Nat.beq ml 0) (bB (mx.isNone||hi.isSome) (k (.v (.slice none 0 0))) none) none) none) none
 |.pt j o=>oB (T t1).ar λe=>bB mx.isNone (bB (Nat.blt 0 e.2.2) (tU t lo 0 λl=>tU t hi e.1 λhh=>bB (Nat.ble l hh) (bB (Nat.ble hh e.1) (pcK j o e.2.2 l hh e.1 k) none) none) none) none
 |_=>none
def aeg{a o m q l k i b u cap f:Nat}{c:Option Nat}(B:0<q)(s:j a=some (b,u))(p:0<m\/o=0->f=o)(v:l<=k)(w:k<=m)(A:k<=i):
 KR j (.sl a (if i=l then o else o+l*q) (k - l) (some (i - l))) (.slice (if i=l then some ⟨b,f,none⟩else(some (⟨b,f,none⟩:Addr)).map (·.add (l*q))) (k - l) (i - l)):=by
 by_cases e:i=l
 ·rw[aqd e,aqd e]
  refine .sl s (λg=>?_) (by omega) (λx e=>by cases e;rfl) (λe=>by cases e);rcases g with g|g
  ·omega
  ·exact p (.inr g)
 ·rw[aqc e,aqc e]
  simp only[art,aqW];refine .sl s (λg=>?_) (by omega) (λx e=>by cases e;rfl) (λe=>by cases e);rcases g with g|g
  ·rw[p (.inl (by omega))]
  ·have:o=0:=by omega
   rw[p (.inr this)]
def FK.slice(hT:f_ P T){a:CV}{lo Q mx:Option Operand}{k:CV->Option R}(hx:jL t x a)(I:sB T t t1 a lo Q mx k=some r):∃c,QK P ⟨d,.slice t1 x lo Q mx,ty,pos,af,gd⟩ t c/\k c=some r:=by
 cases a with
 |sl j o m c=>
  change(oB (T t1).el λe=>_)=some r at I;obtain⟨⟨E,sz,ab,z⟩,he,a2⟩:=bu I;obtain⟨L,V⟩:=bd a2;have L:0<sz:=aqk L;obtain⟨l,W,a3⟩:=pY V;obtain⟨s,U,a4⟩:=pY a3;obtain⟨C,a5⟩:=bd a4;obtain⟨D,H⟩:=bd a5;have C:l<=s:=aqk C;have D:s<=m:=aqk D;obtain⟨i,zv,p2,p3,p4,p5,rfl,_,_⟩:=cK (hT.el _ _ he);have a9:∀{ρ:Nm} {a:Act},mD ρ t a->∃b mm q f,a.eval x=.slice (some ⟨b,f,none⟩) m q/\ρ j=some (b,mm)/\(0<m\/o=0->f=o)/\m<=q/\(∀y,c=some y->q=y)/\(c=none->o=0->q=mm):=λ{ρ a} p=>by
   have hv:=hx ρ a p;generalize a.eval x=u at hv;cases hv with
   |sl B J M Y Z=>exact⟨_,_,_,_,rfl,B,J,M,Y,Z⟩
  cases mx with
  |none=>
   cases c with
   |none=>
    change kN _ (λo'=>kN _ λm'=>k (.sl j o' m' none))=some r at H;rw[fm,fm]at H;refine⟨_,λρ a w p=>?_,H⟩;obtain⟨b,mm,q,f,G,B,J,M,Y,Z⟩:=a9 p;have X:=eU (P:=P) p2 p3 (some ⟨b,f,none⟩) m q l s none q (lo.map a.eval) (Q.map a.eval) none w (W ρ a p) (U ρ a p) (.inl ⟨rfl,rfl⟩) C D (by omega) (aqf _) M;refine⟨.slice (if q=l then some ⟨b,f,none⟩else(some (⟨b,f,none⟩:Addr)).map (·.add (l*i.size))) (s - l) (q - l),by simp only[execOp,aqs,G,asa,X,aqt,aqu],?_⟩;show KR ρ (.sl j (o+l*i.size) (s - l) none) _;by_cases e:q=l
    ·rw[aqd e]
     have ah:l=0\/0<l*i.size:=by
      by_cases S:l=0
      ·exact .inl S
      ·exact .inr (asK (by omega) L)
     refine .sl B (λK=>?_) (by omega) (λx e=>by cases e) (λ_ S=>?_)
     ·rcases K with K|K
      ·omega
      ·have S:l=0:=by omega
       have h5:o=0:=by omega
       rw[S,asM,arG];exact J (.inr h5)
     ·have h5:l=0:=by omega
      have h6:=Z rfl (by omega);omega
    ·rw[aqc e]
     simp only[art,aqW];have ah:l=0\/0<l*i.size:=by
      by_cases S:l=0
      ·exact .inl S
      ·exact .inr (asK (by omega) L)
     refine .sl B (λK=>?_) (by omega) (λx e=>by cases e) (λ_ S=>?_)
     ·rcases K with K|K
      ·rw[J (.inl (by omega))]
      ·rw[J (.inr (by omega))]
     ·have h5:l=0:=by omega
      have h6:=Z rfl (by omega);omega
   |some cp=>
    obtain⟨A,a0⟩:=bd H;rw[Q_]at a0;refine⟨_,λρ a w p=>?_,a0⟩;obtain⟨b,mm,q,f,G,B,J,M,Y,Z⟩:=a9 p;obtain rfl:=Y cp rfl;have X:=eU (P:=P) p2 p3 (some ⟨b,f,none⟩) m q l s none q (lo.map a.eval) (Q.map a.eval) none w (W ρ a p) (U ρ a p) (.inl ⟨rfl,rfl⟩) C D (by omega) (aqf _) M;exact⟨_,by simp only[execOp,aqs,G,asa,X,aqt,aqu],aeg (c:=none) (cap:=q) L B J C D (by omega)⟩
  |some xm=>
   obtain⟨gs,a0⟩:=bd H;obtain⟨cm,ad,a8⟩:=bV a0;obtain⟨km,ml,rfl,ag⟩:=lJ a8;obtain⟨A,ae⟩:=bd ag;obtain⟨F,aa⟩:=bd ae;have A:s<=ml:=aqk A;have F:ml<=am5 c m:=aqk F;rw[Q_]at aa;refine⟨_,λρ a w p=>?_,aa⟩;obtain⟨b,mm,q,f,G,B,J,M,Y,Z⟩:=a9 p;have g5:ml<=q:=by
    cases c with
    |none=>exact aq9 F M
    |some cp=>rw[Y cp rfl];exact F
   have X:=eU (P:=P) p2 p3 (some ⟨b,f,none⟩) m q l s none ml (lo.map a.eval) (Q.map a.eval) (some (a.eval xm)) w (W ρ a p) (U ρ a p) (.inr ⟨⟨km,by rw[(ad ρ a p).bE];rfl⟩,by cases Q with|none=>cases gs|some y=>simp⟩) C D A g5 M;exact⟨_,by simp only[execOp,aqs,G,art,X,aqt,aqu],aeg (c:=none) (cap:=q) L B J C D A⟩
 |v u=>
  unfold sB at I;split at I
  ·rename_i e;cases e
  ·rename_i e
   cases e;obtain⟨⟨E,sz,ab,z⟩,he,a2⟩:=bu I;obtain⟨l,W,V⟩:=pY a2;obtain⟨s,U,a3⟩:=pY V;obtain⟨ml,ai,a4⟩:=pY a3;obtain⟨e1,a5⟩:=bd a4;obtain⟨e2,H⟩:=bd a5;obtain⟨e3,a0⟩:=bd H;obtain⟨e4,a8⟩:=bd a0;obtain rfl:=dW e1;obtain rfl:=dW e2;obtain rfl:=dW e3;obtain⟨i,zv,p2,p3,p4,p5,rfl,_,_⟩:=cK (hT.el _ _ he);refine⟨_,λρ a w p=>?_,a8⟩;have X:=eU (P:=P) p2 p3 none 0 0 0 0 none 0 (lo.map a.eval) (Q.map a.eval) (mx.map a.eval) w (W ρ a p) (U ρ a p) (by
    rcases ai ρ a p with⟨g,_⟩|⟨kd,g⟩
    ·exact .inl ⟨g,rfl⟩
    ·refine .inr ⟨⟨kd,g⟩,?_⟩
     cases mx with
     |none=>cases g
     |some y=>cases Q with
      |none=>cases e4
      |some y=>simp) (aqf _) (aqf _) (aqf _) (aqf _) (aqf _)
   exact⟨_,by simp only[execOp,aqs,(hx ρ a p).bE,X,aqt,aqu,aqP,atO],.v⟩
  ·rename_i e;cases e
  ·cases I
 |pt j o=>
  change(oB (T t1).ar λe=>_)=some r at I;obtain⟨⟨N,E,sz⟩,he,a2⟩:=bu I;obtain⟨gm,V⟩:=bd a2;obtain⟨L,V⟩:=bd V;have L:0<sz:=aqk L;obtain⟨l,W,a3⟩:=pY V;obtain⟨s,U,a4⟩:=pY a3;obtain⟨C,a5⟩:=bd a4;obtain⟨D,H⟩:=bd a5;have C:l<=s:=aqk C;have D:s<=N:=aqk D;rw[Q_]at H;cases mx with
  |some y=>cases gm
  |none=>
  refine⟨_,λρ a w p=>?_,H⟩;obtain⟨b,mm,B,G⟩:=(hx ρ a p).vF;obtain⟨aj,a7,ac,rfl⟩:=sK (hT.ar _ _ he);have a1:P.elem t1=E:=by simp[Program.elem,a7]
  have O:P.arrayLen t1=N:=by simp[Program.arrayLen,a7]
  have hu:P.underlying t1=some (.array (P.arrayLen t1) (P.elem t1)):=by rw[a1,O];exact a7
  refine⟨slicedAt ⟨b,o,none⟩ l s N aj.size,?_,?_⟩
  ·have a6:=cq (P:=P) w ac
   rcases W ρ a p with⟨A,rfl⟩|⟨kl,A⟩<;>rcases U ρ a p with⟨F,rfl⟩|⟨kh,F⟩
   ·simp[execOp,G,A,F,au7 w t1 ⟨b,o,none⟩ hu,a1,O,a6]
   ·simp only[execOp,G,asa,A,F,au8 w t1 ⟨b,o,none⟩ hu kh s (by omega) (by rw[O];omega),aqs,a1,a6,O,aqt,aqo,aqu]
   ·simp only[execOp,G,asa,A,F,au9 w t1 ⟨b,o,none⟩ hu kl l (by omega) (by rw[O];omega),aqs,a1,a6,O,aqt,aqo,aqu]
   ·simp only[execOp,G,asa,A,F,au_ w t1 ⟨b,o,none⟩ hu kl kh l s (by omega) (by omega) (by rw[O];omega),aqs,a1,a6,O,aqt,aqo,aqu]
  ·unfold slicedAt
   by_cases e:N=l
   ·rw[aqd e,aqd e]
    exact .sl B (λK=>rfl) (by omega) (λx e=>by cases e;rfl) (λe=>by cases e)
   ·rw[aqc e,aqc e,aqW]
    exact .sl B (λK=>rfl) (by omega) (λx e=>by cases e;rfl) (λe=>by cases e)
 |_=>cases I
def aj4{R:Type}(h:Tr cO)(sz:Nat)(a:CV)(k:Nat->List CV->Option R):Option R:=match a with
 |.sl j o m _=>bB (Nat.beq m 0) (k 0 []) (blC h j λcs _ _ _=>rdC cs (Nat.mul m sz) o λl=>k m l)
 |.v (.slice none 0 0)=>k 0 []
 |_=>none
def agP{k:Nat->List CV->Option R}(f:aj4 h a A k=some r):∃m l,(∀ρ w v,HR P w0 ρ h.get n w->KR ρ A v->∃b D g,v=.slice b m D/\LR (KR ρ) l g/\g.length=m*a/\(∀u∈g,u.oneCell'=true)/\(m=0\/∃q,b=some q/\∀(j:Nat) u,g[j]? =some u->w.cell? (q.add j)=some u))/\k m l=some r:=by
 unfold aj4 at f;split at f
 ·rename_i j o m c
  rcases dt f with⟨e,f⟩|⟨e,f⟩
  ·have e:=dW e
   refine⟨0,[],λρ w v p i=>?_,f⟩;cases i with
   |sl B s E F G=>rw[e];exact⟨_,_,[],rfl,LR.nil,by simp,by simp,.inl rfl⟩
  ·have e:=iO e
   obtain⟨O,N,ext,wr,H,f⟩:=zZ f;obtain⟨l,J,K,f⟩:=Fc f;refine⟨m,l,λρ w v p i=>?_,f⟩;cases i with
   |sl B s E F G=>
    obtain⟨g,C,L,M⟩:=(p.ob _ _ _ _ H B).cells l K;obtain rfl:=s (.inl (by omega));exact⟨_,_,g,rfl,C,by rw[C.1,J];rfl,M,.inr ⟨_,rfl,λj u I=>by rw[aqW];exact L j u I⟩⟩
 ·exact⟨0,[],λρ w v p i=>⟨_,_,[],i.bE,LR.nil,by simp,by simp,.inl rfl⟩,f⟩
 ·cases f
def V5{R:Type}(h:Tr cO)(n sz m:Nat)(l:List CV)(k:CV->Tr cO->Nat->Option R):Option R:=bB (mq l) (JP l 0 .lf λct=>kN l.length λN=>yN h n (.ce ct N (some sz) true) λh' n'=>k (.sl n 0 m none) h' n') none
def Ff{l:List CV}{k:CV->Tr cO->Nat->Option R}(f:V5 h n a e l k=some r):∃o,(∀ρ w m i rest E,HR P w0 ρ h.get n w->LR (KR ρ) l m->m.length=e*a->e<=i->(m.toArray++rest).size=i*a->
 ∃A,KP P w0 ρ h.get n w A o.get (n+1) (w.drew.alloc (.cells (m.toArray++rest) E))/\KR A (.sl n 0 e none) (.slice (some ⟨w.heap.size,0,none⟩) e i))/\k (.sl n 0 e none) o (n+1)=some r:=by
 obtain⟨C,f⟩:=bd f;obtain⟨B,f,D⟩:=pV f;rw[fm]at f;obtain⟨o,f,F⟩:=tJ f;refine⟨o,λρ w m i rest E I q L H J=>?_,f⟩;have p:=KP.drew I;refine⟨ρ.new n w.heap.size i,p.trans (HR.HQ p.hr E i (some a) (N:=l.length) (ct:=B) (by simp[q.1]) (λs b=>by cases b;exact J) (λj c g=>?_) F),.sl Nm.pW (λ_=>rfl) H (λx b=>by cases b) (λ_ _=>rfl)⟩;rw[D]at g;split at g
 ·rename_i K
  simp only[ate]at g;obtain⟨u,v,f⟩:=q.get g;have G:=(aqh.1 v).1;refine⟨(aqh.1 g).1,u,?_,f,fW C c (aqw g)⟩;rw[asE (by simpa using G)];simpa using v
 ·cases g
def ahR{R:Type}(h:Tr cO)(n sz j len m:Nat)(l:List CV)(k:CV->Tr cO->Nat->Option R):Option R:=blC h j λcs N ext wr=>bB wr (oB ext λY5=>bB (Nat.beq sz Y5) (bB (mq l)
 (bB (Nat.beq N (Nat.mul len sz)) (JP l N cs λct=>kN (Nat.add N l.length) λN'=>Tr.new none 64 h j λh1=>yN h1 n (.ce ct N' (some sz) true) λh' n'=>kN (Nat.add len m) λm'=>k (.sl n 0 m' none) h' n')
  (bB (Nat.beq len 0) (JP l 0 .lf λct=>kN l.length λN'=>Tr.new none 64 h j λh1=>yN h1 n (.ce ct N' (some sz) true) λh' n'=>kN m λm'=>k (.sl n 0 m' none) h' n')
   (bB (Nat.ble (Nat.mul len sz) N) (rdC cs (Nat.mul len sz) 0 λol=>JP (ol++l) 0 .lf λct=>kN (Nat.add (Nat.mul len sz) l.length) λN'=>Tr.new none 64 h j λh1=>yN h1 n (.ce ct N' (some sz) true) λh' n'=>kN (Nat.add len m) λm'=>k (.sl n 0 m' none) h' n') none))) none) none) none
def aeh{b j f m:Nat}{l:List CV}{k:CV->Tr cO->Nat->Option R}(L:ahR h n b j f m l k=some r):∃o p N g,h.get j=some (.ce p N (some b) true)/\(∀c∈l,c.one=true)/\
 (∀i c,g.get i=some c->(i<f*b/\p.get i=some c)\/(f*b<=i/\l[i - f*b]? =some c)\/(N<=i/\p.get i=some c))/\
 f*b<=N/\(∀k,o.get k=if k=n then some (.ce g (f*b+l.length) (some b) true)else if k=j then none else h.get k)/\k (.sl n 0 (f+m) none) o (n+1)=some r:=by
 obtain⟨p,N,ext,wr,F,M⟩:=zZ L;obtain⟨rfl,Q⟩:=bd M;obtain⟨Y,K,S⟩:=bu Q;obtain⟨e,U⟩:=bd S;obtain rfl:=dW e;subst K;obtain⟨D,V⟩:=bd U;rcases dt V with⟨e,G⟩|⟨e,G⟩
 ·have e:N=f*b:=dW e
  obtain⟨g,q,A⟩:=pV G;rw[fm]at q;obtain⟨I,s,v⟩:=Tr.nG q;obtain⟨o,u,w⟩:=tJ s;rw[fm]at u;refine⟨o,p,N,g,F,fW D,λi c a=>?_,by omega,λk=>?_,u⟩
  ·rw[A]at a
   split at a
   ·right;left;rw[<-e];exact⟨by omega,a⟩
   ·by_cases E:i<f*b
    ·exact .inl ⟨E,a⟩
    ·exact .inr (.inr ⟨by omega,a⟩)
  ·rw[w,v,e]
   rfl
 ·rcases dt G with⟨e,q⟩|⟨e,q⟩
  ·obtain rfl:=dW e
   obtain⟨g,s,A⟩:=pV q;rw[fm]at s;obtain⟨I,u,v⟩:=Tr.nG s;obtain⟨o,B,w⟩:=tJ u;rw[fm]at B;refine⟨o,p,N,g,F,fW D,λi c a=>?_,by simp,λk=>?_,by rw[aqN];exact B⟩
   ·rw[A]at a
    split at a
    ·exact .inr (.inl (by simpa using a))
    ·cases a
   ·rw[w,v]
    simp
  ·obtain⟨C,s⟩:=bd q
   have C:f*b<=N:=aqk C;obtain⟨X,H,W,u⟩:=Fc s;have H:X.length=f*b:=H;obtain⟨g,B,A⟩:=pV u;rw[fm]at B;obtain⟨I,O,v⟩:=Tr.nG B;obtain⟨o,J,w⟩:=tJ O;rw[fm]at J;refine⟨o,p,N,g,F,fW D,λi c a=>?_,C,λk=>?_,J⟩
   ·rw[A]at a
    split at a
    ·simp only[ate]at a
     by_cases E:i<f*b
     ·rw[aq2 (by omega)]at a
      have:=W i c a;rw[aqN]at this;exact .inl ⟨E,this⟩
     ·rw[arx (by omega),H]at a
      exact .inr (.inl ⟨by omega,a⟩)
    ·cases a
   ·rw[w,v]
    rfl
end
end
end
variable{F:Nat}
section
open Go Go.RowKit MapKept
section
variable{P:Program}{Dk:Deferred->Prop}{w0:World}{T:TypeId->bj}
section
variable{t:Tr CV}{h:Tr cO}{n:Nat}{d:Option Tmp}{ty t1 t2:TypeId}{pos:String}{af:Array Edge}{gd:Option (Nat×Bool)}{x y z:Operand}{R:Type}{r:R}
def z8(w:World)(t ty e k:TypeId)(i:TypeInfo)(D:P.underlying t=some (.slice e))(v:P.info? e=some i)
 (g b f:Nat) (cur:Array Value) (s:w.heap[g]? =some (.cells cur k (0,0)))
 (a:Addr) (m c:Nat) (news:List Value) (A:news.length=m*i.size) (B:∀j u,news[j]? =some u->w.cell? (a.add j)=some u) (o:∀u∈news,u.oneCell'=true)
 (C:b+m<=f) (q:b*i.size+news.length<=cur.size):
 (Builtin.append_ #[t,t] ty #[.slice (some ⟨g,0,none⟩) b f,.slice (some a) m c]).run P w=
  .ok (.slice (some ⟨g,0,none⟩) (b+m) f) (w.setRow g (cur.toList.take (b*i.size)++news++cur.toList.drop (b*i.size+news.length)).toArray):=by
 have p:=run_firstCells_some (P:=P) w i.size m a m c news A B;have l:=run_storeCells_at P g (b*i.size) k news 0 cur w s (by simpa using q) o;simp only[arG]at l;simp[Builtin.append_,aqF D,sizeOf,typeInfo,v,Builtin.lenOf,C,p,aqW,l]
def fJ{b:Option Nat}{w a:World}(h:(Builtin.append_ #[t1,t2] ty #[H.eval x,H.eval y]).run P w=.ok i a):
 (execOp H.eval ⟨b,.call ⟨.builtin .append, #[x,y], #[t1,t2]⟩,ty,pos,af,gd⟩).run P w=.ok (.value i) a:=by
 have c:(#[x,y]:Array Operand).map H.eval= #[H.eval x,H.eval y]:=by simp only[asC,aqz,aro]
 simp only[execOp,resolve,c,aqs,aqu,aqt,invoke,builtin];simp only[atg,h,aqt]
def toK{R:Type}(h:Tr cO)(n sz by_:Nat)(a:CV)(m:Nat)(l:List CV)(k:CV->Tr cO->Nat->Option R):Option R:=match a with
 |.v (.slice none 0 0)=>bB (Nat.ble m 1048576) (bB (Nat.ble (Nat.mul m by_) 140737488355328) (V5 h n sz m l k) none) none
 |.sl j o len c=>bB (Nat.ble (Nat.add len m) 1048576) (bB (Nat.ble (Nat.mul (Nat.add len m) by_) 140737488355328) (Option.rec (motive:=λ_=>Option R)
  (bB (Nat.beq o 0) (ahR h n sz j len m l k) none)
  (λcp=>bB (Nat.blt cp (Nat.add len m)) (bB (Nat.beq len 0) (V5 h n sz m l k) (blC h j λcs _ _ _=>rdC cs (Nat.mul len sz) o λol=>kN (Nat.add len m) λm'=>V5 h n sz m' (ol++l) k)) none) c) none) none
 |_=>none
def V6{R:Type}(T:TypeId->bj)(h:Tr cO)(n:Nat)(t1 t2:TypeId)(a b:CV)(k:CV->Tr cO->Nat->Option R):Option R:=oB (T t1).el λe=>bB (Nat.blt 0 e.2.1) (bB (Nat.beq t1 t2)
 (aj4 h e.2.1 b λm l=>bB (Nat.beq m 0) (OI a λ_=>k a h n) (toK h n e.2.1 e.2.2.1 a m l k))
 (oB (T t2).ik λ_=>tT b λm=>match a with
  |.v (.slice none 0 0)=>bB (Nat.blt 0 m) (bB (Nat.ble m 1048576) (bB (Nat.ble (Nat.mul m e.2.2.1) 140737488355328) (bB (mq (e.2.2.2.map .v)) (yN h n (.ce (Fe e.2.2.2 m) (Nat.mul m e.2.1) (some e.2.1) true) λh' n'=>k (.sl n 0 m none) h' n') none) none) none) none
  |_=>none)) none
def OK{z:Array Value}{c rest:Array Value}{m a b:Nat}(g:z.size=b)(f:c.size=m*b)(e:rest=Builtin.zeroCells z (a - m))(i:m<=a):(c++rest).size=a*b:=by
 rw[asr,f,e,arR,g,<-aqS];congr 1;omega
def aj5(hT:f_ P T){g b:CV}{m:Nat}{l:List CV}{k:CV->Tr cO->Nat->Option R}(he:(T t1).el=some (a,e,F,s))(az:0<e)(hx:jL t x g)
 (ax:∀ρ w v,HR P w0 ρ h.get n w->KR ρ b v->∃A G us,v=.slice A m G/\LR (KR ρ) l us/\us.length=m*e/\(∀u∈us,u.oneCell'=true)/\(m=0\/∃K,A=some K/\∀(j:Nat) u,us[j]? =some u->w.cell? (K.add j)=some u)) (hy:jL t y b) (hm:¬m=0)
 (J:toK h n e F g m l k=some r):∃c O n',FK P Dk w0 ⟨d,.call ⟨.builtin .append, #[x,y], #[t1,t1]⟩,ty,pos,af,gd⟩ t h n c O n'/\k c O n'=some r:=by
 obtain⟨i,zv,p2,p3,p4,p5,rfl,rfl,rfl⟩:=cK (hT.el _ _ he);have a9:∀{ρ:Nm} {g:Act} {w:World},mD ρ t g->HR P w0 ρ h.get n w->∃K G us,g.eval y=.slice (some K) m G/\LR (KR ρ) l us/\us.length=m*i.size/\(∀u∈us,u.oneCell'=true)/\∀(j:Nat) u,us[j]? =some u->w.cell? (K.add j)=some u:=λ{ρ g w} L E=>by
  obtain⟨A,G,us,V,W,H,h4,h5⟩:=ax ρ w _ E (hy ρ g L);rcases h5 with h5|⟨K,rfl,h5⟩
  ·exact absurd h5 hm
  ·exact⟨K,G,us,V,W,H,h4,h5⟩
 cases g with
 |v u=>
  unfold toK at J;split at J
  ·rename_i p
   cases p;obtain⟨g1,aa⟩:=bd J;obtain⟨Z,a8⟩:=bd aa;have g1:m<=1048576:=aqk g1;have Z:m*i.bytes<=140737488355328:=aqk Z;obtain⟨O,hg,a4⟩:=Ff (P:=P) (w0:=w0) a8;refine⟨_,O,_,λρ g w L E=>?_,a4⟩;obtain⟨K,G,us,a1,X,I,V,a0⟩:=a9 L E;have S:=aue (P:=P) w t1 ty a i zv p2 p3 p4 K m G us I a0 (by omega) (by omega) (by omega);refine .value (fJ (by rw[(hx ρ g L).bE,a1];exact S)) (hg ρ w us (grownCap w m 0 a) _ a E X I (arF w m 0 a) (OK p5 (by simpa using I) rfl (arF w m 0 a)))
  ·rename_i p;cases p
  ·cases J
 |sl j o C c=>
  change bB _ _ _=_ at J;obtain⟨g1,aa⟩:=bd J;obtain⟨Z,a8⟩:=bd aa;have g1:C+m<=1048576:=aqk g1;have Z:(C+m)*i.bytes<=140737488355328:=aqk Z;have ae:∀{ρ:Nm} {g:Act},mD ρ t g->∃b mm G f,g.eval x=.slice (some ⟨b,f,none⟩) C G/\ρ j=some (b,mm)/\(0<C\/o=0->f=o)/\C<=G/\(∀y,c=some y->G=y)/\(c=none->o=0->G=mm):=λ{ρ g} L=>by
   have hv:=hx ρ g L;generalize g.eval x=u at hv;cases hv with
   |sl hr Q V H h4=>exact⟨_,_,_,_,rfl,hr,Q,V,H,h4⟩
  cases c with
  |some cp=>
   obtain⟨U,a4⟩:=bd a8;have U:cp<C+m:=aqk U;rcases dt a4 with⟨p,a5⟩|⟨p,a5⟩
   ·obtain rfl:=dW p
    obtain⟨O,hg,ab⟩:=Ff (P:=P) (w0:=w0) a5;refine⟨_,O,_,λρ g w L E=>?_,ab⟩;obtain⟨K,G,us,a1,X,I,V,a0⟩:=a9 L E;obtain⟨b,mm,D,f,a3,hr,Q,q1,q3,q4⟩:=ae L;obtain rfl:=q3 cp rfl;have S:=ast (P:=P) w t1 ty a i zv p2 p3 p4 ⟨b,f,none⟩ 0 D [] (by simp) (by simp) K m G us I a0 U (by omega) (as8 U Z);simp only[aqN]at S;refine .value (fJ (by rw[a3,a1];exact S)) ?_;have:=hg ρ w us (grownCap w m D a) (Builtin.zeroCells zv.cells (grownCap w m D a - m)) a E X I (arF w m D a) (OK p5 (by simpa using I) rfl (arF w m D a));simpa using this
   ·have p:=iO p
    obtain⟨cs,N,ext,wr,hb,ab⟩:=zZ a5;obtain⟨ol,ar,au,ai⟩:=Fc ab;rw[fm]at ai;obtain⟨O,hg,ao⟩:=Ff (P:=P) (w0:=w0) ai;refine⟨_,O,_,λρ g w L E=>?_,ao⟩;obtain⟨K,G,us,a1,X,I,V,a0⟩:=a9 L E;obtain⟨b,mm,D,f,a3,hr,Q,q1,q3,q4⟩:=ae L;obtain rfl:=q3 cp rfl;obtain rfl:=Q (.inl (by omega));obtain⟨os,u1,u2,u3⟩:=(E.ob _ _ _ _ hb hr).cells ol au;have am:os.length=C*i.size:=by rw[u1.1,ar];rfl
    have S:=ast (P:=P) w t1 ty a i zv p2 p3 p4 ⟨b,f,none⟩ C D os am (λj v M=>by rw[aqW];exact u2 j v M) K m G us I a0 U (by omega) (as8 U Z);refine .value (fJ (by rw[a3,a1];exact S)) ?_;have a6:(os++us).length=(C+m)*i.size:=by rw[aqy,am,I,aqS]
    have:=hg ρ w (os++us) (grownCap w (C+m) D a) (Builtin.zeroCells zv.cells (grownCap w (C+m) D a - (C+m))) a E (u1.append X) a6 (arF w _ D a) (OK p5 (by simpa using a6) rfl (arF w _ D a));simpa using this
  |none=>
   obtain⟨p,a4⟩:=bd a8;obtain rfl:=dW p;obtain⟨O,cs,N,ct,M,V,ah,hN,hh,a5⟩:=aeh a4;refine⟨_,O,_,λρ g w L E=>?_,a5⟩;obtain⟨K,G,us,a1,X,I,aw,a0⟩:=a9 L E;obtain⟨b,mm,D,f,a3,hr,Q,q1,q3,q4⟩:=ae L;obtain rfl:=Q (.inr rfl);obtain rfl:=q4 rfl rfl;obtain⟨a7,a2,b1,b2,b3,b4⟩:=E.ob _ _ _ _ M hr;have ag:=b4 _ rfl;have a6:l.length=m*i.size:=by rw[<-X.1,I]
   have ay:=E.lth M;by_cases ac:C+m<=D
   ·have an:C*i.size+us.length<=a2.size:=by rw[ag,I,<-aqS];exact asu _ ac
    have S:=z8 (P:=P) w t1 ty a a7 i p2 p3 b C D a2 b1 K m G us I a0 aw ac an;refine .value (fJ (by rw[a3,a1];exact S)) ⟨ρ.new n b D,?_,.sl Nm.pW (λ_=>rfl) ac (λx p=>by cases p) (λ_ _=>rfl)⟩;have ap:=E.lo _ _ _ _ M hr;have aj:=E.le b D;refine E.move _ M hr rfl rfl hh (E.ext.setRow ap _) (by simp[World.setRow]) (λk J=>as5 w b k _ J) ⟨a7,_,auf w b a2 _ a7 (0,0) b1,?_,λq c hq=>?_,λB p=>?_⟩
    ·rw[a6,<-I];simp;omega
    ·have e0:(a2.toList.take (C*i.size)).length=C*i.size:=by simp;omega
     rcases ah q c hq with⟨W,H⟩|⟨W,H⟩|⟨W,H⟩
     ·obtain⟨g5,u,Y,J,Q⟩:=b3 _ _ H
      refine⟨by omega,u,?_,J.mono aj,Q⟩;simp only[arJ];rw[aqJ,aq2 (by omega),aqT,aqd W];simpa using Y
     ·obtain⟨u,Y,J⟩:=X.get H
      have ak:=(aqh.1 Y).1;have aq:=(aqh.1 H).1;refine⟨by omega,u,?_,J.mono aj,V c (aqw H)⟩;simp only[arJ];rw[aqJ,arx (by omega),e0,aq2 ak];exact Y
     ·have:=(b3 _ _ H).1;omega
    ·cases p
     rw[<-ag];simp;omega
   ·have U:D<C+m:=by omega
    have av:∀(j:Nat) v,(a2.toList.take (C*i.size))[j]? =some v->w.cell? ((⟨b,0,none⟩:Addr).add j)=some v:=λj v M=>by
     rw[aqW,aqN,arj w b j a2 a7 (0,0) b1];rw[aqT]at M;split at M
     ·simpa using M
     ·cases M
    have e0:(a2.toList.take (C*i.size)).length=C*i.size:=by simp;omega
    have S:=ast (P:=P) w t1 ty a i zv p2 p3 p4 ⟨b,0,none⟩ C D _ e0 av K m G us I a0 U (by omega) (as8 U Z);have bh:=E.kill (h':=λk=>if k=j then none else h.get k) M rfl (λk=>rfl);have hd:=KP.drew bh.hr;have al:=arF w (C+m) D a;refine .value (fJ (by rw[a3,a1];exact S)) ⟨ρ.new n w.heap.size (grownCap w (C+m) D a),(bh.trans hd).trans (HR.HQ hd.hr a (grownCap w (C+m) D a) (some i.size) (N:=C*i.size+l.length) (ct:=ct) ?_ (λB p=>?_) (λq c hq=>?_) (λk=>hh k)),.sl Nm.pW (λ_=>rfl) al (λx p=>by cases p) (λ_ _=>rfl)⟩
    ·simp only[asr,ar3,e0,I,a6,arR];omega
    ·cases p
     exact OK (m:=C+m) p5 (by simp only[asr,ar3,e0,I,aqS]) rfl al
    ·rcases ah q c hq with⟨W,H⟩|⟨W,H⟩|⟨W,H⟩
     ·obtain⟨g5,u,Y,J,Q⟩:=b3 _ _ H
      refine⟨by omega,u,?_,J,Q⟩;rw[asE (by simp;omega),asE (by simp;omega)];simp only[arJ];rw[aqT,aqd W];simpa using Y
     ·obtain⟨u,Y,J⟩:=X.get H
      have ak:=(aqh.1 Y).1;have aq:=(aqh.1 H).1;refine⟨by omega,u,?_,J,V c (aqw H)⟩;rw[asE (by simp;omega),Array.getElem?_append_right (by simp;omega)];simp only[arJ,ar3,e0];exact Y
     ·have:=(b3 _ _ H).1;omega
 |_=>cases J
def FK.append(D:f_ P T){a b:CV}{k:CV->Tr cO->Nat->Option R}(V:jL t x a)(W:jL t y b)(hk:V6 T h n t1 t2 a b k=some r):∃c C n',FK P Dk w0 ⟨d,.call ⟨.builtin .append, #[x,y], #[t1,t2]⟩,ty,pos,af,gd⟩ t h n c C n'/\k c C n'=some r:=by
 obtain⟨⟨E,sz,a5,zz⟩,L,a0⟩:=bu hk;obtain⟨a2,a8⟩:=bd a0;have G:0<sz:=aqk a2;clear a2 a0 hk;rcases dt a8 with⟨e,M⟩|⟨e,M⟩
 ·obtain rfl:=dW e
  obtain⟨m,l,a3,O⟩:=agP (P:=P) (w0:=w0) (n:=n) M;rcases dt O with⟨e,f⟩|⟨e,f⟩
  ·obtain rfl:=dW e
   obtain⟨X,ae,Q⟩:=OJ f;obtain⟨i,I,p2,p3,p4,g,rfl,_,_⟩:=cK (D.el _ _ L);refine⟨_,h,n,.pure λρ a w p S=>?_,Q⟩;obtain⟨A,a6,us,K,_⟩:=a3 ρ w _ S (W ρ a p);have H:=V ρ a p;refine⟨a.eval x,?_,H⟩;obtain⟨o,j,B,ad⟩:∃o j,a.eval x=.slice o X j/\X<=j:=by
    obtain⟨o,j,B⟩:=ae ρ _ H;refine⟨o,j,B,?_⟩;rw[B]at H;cases H with
    |sl _ _ K=>exact K
    |v=>
     unfold OI at f;split at f
     ·rename_i e;cases e
     ·rename_i e;cases e;exact aqf _
     ·cases f
   exact fJ (by rw[K,B];exact qa w t1 ty E i p2 p3 o A X j a6 ad)
  ·exact aj5 D L G V a3 W (iO e) f
 ·obtain⟨kn,ac,O⟩:=bu M
  obtain⟨km,m,rfl,f⟩:=lJ O;split at f
  ·obtain⟨J,Q⟩:=bd f
   obtain⟨Y,a9⟩:=bd Q;obtain⟨Z,aa⟩:=bd a9;obtain⟨g3,ab⟩:=bd aa;have J:0<m:=aqk J;have Y:m<=1048576:=aqk Y;have Z:m*a5<=140737488355328:=aqk Z;obtain⟨C,a7,hh⟩:=tJ ab;obtain⟨i,I,p2,p3,p4,g,rfl,rfl,rfl⟩:=cK (D.el _ _ L);refine⟨_,C,_,λρ a w p S=>?_,a7⟩;have ag:=Go.Lib.run_append_nil_zeros (P:=P) w t1 t2 ty E i I km kn p2 (D.ik _ _ ac) p3 p4 m J G (by omega) (by omega);have a4:I.cells.toList.length=i.size:=by simpa using g
   have hd:=KP.drew S;have a1:=arF w m 0 E;refine .value (fJ (by rw[(V ρ a p).bE,(W ρ a p).bE];exact ag)) ⟨_,hd.trans (HR.HQ hd.hr E (grownCap w m 0 E) (some i.size) (N:=m*i.size) ?_ (λs e=>?_) (λq c hq=>?_) hh),.sl Nm.pW (λ_=>rfl) a1 (λx e=>by cases e) (λ_ _=>rfl)⟩
   ·simp only[asr,arR,g];omega
   ·cases e
    exact OK (m:=m) g (by rw[arR,g]) rfl a1
   ·obtain⟨u,rfl,U,F⟩:=HS (by rw[a4];exact G) hq
    rw[a4]at U F;refine⟨F,u,?_,.v,fW g3 _ (aqq.2 ⟨u,aqw U,rfl⟩)⟩;rw[asE (by rw[arR,g];exact F)];exact pX (m:=m*I.cells.size) (by rw[g];exact G) (by rw[g];exact F) (by rw[g];simpa using U)
  ·cases f
def aei{R:Type}(T:TypeId->bj)(h:Tr cO)(n:Nat)(t1:TypeId)(a:CV)(k:CV->Tr cO->Nat->Option R):Option R:=oB (T t1).el λe=>bB (Nat.blt 0 e.2.1) (match a with
 |.v (.slice none 0 0)=>k (.v undef) h n
 |.sl j o m _=>bB (Nat.beq m 0) (k (.v undef) h n) (wrK h j o ((List.replicate m (e.2.2.2.map .v)).flatten) λh'=>k (.v undef) h' n)
 |_=>none) none
def OL{α β:Type}(f:α->β)(z:List α):∀m,(List.replicate m (z.map f)).flatten=((List.replicate m z).flatten).map f
 |0=>rfl
 |m+1=>by rw[arK,arK,aqR,aqR,aq4,OL f z m]
def Fg{z:Array Value}(m:Nat)(a:0<z.size):(Builtin.zeroCells z m).toList=(List.replicate m z.toList).flatten:=by
 refine arZ λj=>?_;have i:(Builtin.zeroCells z m).toList.length=m*z.size:=by simp[arR]
 have e:((List.replicate m z.toList).flatten).length=m*z.size:=by simp
 by_cases f:j<m*z.size
 ·obtain⟨c,b⟩:∃c,((List.replicate m z.toList).flatten)[j]? =some c:=⟨_,aqm (by rw[e];exact f)⟩
  obtain⟨g,_⟩:=Q9 z.toList (by simpa using a) m j c b;rw[b];have:=pX (z:=z) (m:=m*z.size) (j:=j) (u:=c) a f (by simpa using g);rw[arC];exact this
 ·rw[aq1 (by rw[i];omega),aq1 (by rw[e];omega)]
def FK.clear(K:f_ P T){a:CV}{k:CV->Tr cO->Nat->Option R}(D:jL t x a)(F:aei T h n t1 a k=some r):∃c p J,FK P Dk w0 ⟨d,.call ⟨.builtin .clear, #[x], #[t1]⟩,ty,pos,af,gd⟩ t h n c p J/\k c p J=some r:=by
 obtain⟨⟨E,X,a0,zz⟩,L,G⟩:=bu F;obtain⟨H,q⟩:=bd G;have Q:0<X:=aqk H;clear H G F;obtain⟨i,Z,p2,p3,p4,W,rfl,_,rfl⟩:=cK (K.el _ _ L);have s:∀a:Act,(#[x]:Array Operand).map a.eval= #[a.eval x]:=λa=>by simp only[asC,aqz,aro]
 split at q
 ·refine⟨_,h,n,.pure λρ a w g C=>⟨undef,?_,.v⟩,q⟩
  simp[execOp,resolve,s,(D ρ a g).bE,invoke,builtin,Builtin.clear_,aqF p2,undef]
 ·rename_i j o m c
  rcases dt q with⟨e,B⟩|⟨e,B⟩
  ·obtain rfl:=dW e
   refine⟨_,h,n,.pure λρ a w g C=>⟨undef,?_,.v⟩,B⟩;have l:=D ρ a g;generalize A:a.eval x=u at l;cases l with
   |sl=>simp[execOp,resolve,s,A,invoke,builtin,Builtin.clear_,aqF p2,undef]
  ·have e:=iO e
   obtain⟨p,U,M⟩:=aef (P:=P) (w0:=w0) (n:=n) B;refine⟨_,p,n,λρ a w g C=>?_,M⟩;have l:=D ρ a g;generalize A:a.eval x=u at l;cases l with
   | @sl _ _ _ _ b V a1 f S O h1 h3 h4=>
    obtain rfl:=O (.inl (by omega));obtain⟨Y,I,N⟩:=U ρ w b V ((List.replicate m Z.cells.toList).flatten) C S (by rw[OL];exact LR.vs _);rw[<-Fg m (by rw[W];exact Q)]at I;refine .value (v:=undef) (w':=Y) ?_ ⟨ρ,N,.v⟩;cases m with
    |zero=>omega
    |succ m=>simp[execOp,resolve,s,A,invoke,builtin,Builtin.clear_,aqF p2,undef,zeroValue,typeInfo,p3,p4,I]
 ·cases q
end
end
end
variable{u:Type}{E:TypeDesc}
section
open Go Go.RowKit MapKept
section
variable{P:Program}{Dk:Deferred->Prop}{w0:World}{T:TypeId->bj}
def agQ(d:TypeDesc)(v:Value):Bool:=match d with
 |.int k=>(match v with
  |.int kd _=>decide (kd=k)
  |_=>false)
 |.tuple _=>(match v with
  |.agg ⟨[.int .i64 _,.int .i64 _]⟩=>true
  |_=>false)
 |_=>false
def agR{d:TypeDesc}(h:agQ d i=true):ku d i:=by
 unfold agQ at h;split at h
 ·split at h
  ·have e:=aq7 h
   subst e;exact(rfl:_=_)
  ·cases h
 ·split at h
  ·exact⟨_,_,rfl⟩
  ·cases h
 ·cases h
def OM(x y:Value):Bool:=match x with
 |.int _ a=>(match y with
  |.int _ c=>eqK a c
  |_=>false)
 |.agg ⟨[.int _ a,.int _ c]⟩=>(match y with
  |.agg ⟨[.int _ e,.int _ f]⟩=>bB (eqK a e) (eqK c f) false
  |_=>false)
 |_=>false
def YN(d:TypeDesc):Prop:=(∃k,d=.int k)\/∃l,d=.tuple l
def aj6{d:TypeDesc}(h:agQ d i=true):YN d:=by
 cases d<;>first|exact .inl ⟨_,rfl⟩|exact .inr ⟨_,rfl⟩|cases h
def JR{d:TypeDesc}(j:YN d){x y:Value}(b:ku d x)(g:ku d y):OM x y=true↔x=y:=by
 rcases j with⟨k,rfl⟩|⟨l,rfl⟩
 ·have b:IsKey (.int k) x:=b
  have g:IsKey (.int k) y:=g;cases x<;>simp only[IsKey]at b;cases y<;>simp only[IsKey]at g;subst b g;simp only[OM,so,ard,Value.int.injEq,true_and]
 ·obtain⟨a,c,rfl⟩:=b
  obtain⟨e,f,rfl⟩:=g;show bB (eqK a e) (eqK c f) false=true↔_;rw[so,so];by_cases i:a=e
  ·rw[aqH i,i]
   show decide (c=f)=true↔_;simp
  ·rw[aqK i]
   show false=true↔_;simp[i]
def yO(es:List (Value×CV))(x:Value):Option CV:=List.rec (motive:=λ_=>Option CV) none (λp _ ih=>bB (OM p.1 x) (some p.2) ih) es
def aej{R:Type}(es:List (Value×CV))(x:Value)(c:CV):(List (Value×CV)->R)->R:=List.rec (motive:=λ_=>(List (Value×CV)->R)->R) (λk=>k [(x,c)]) (λp l ih k=>bB (OM p.1 x) (k ((p.1,c)::l)) (ih λr=>k (p::r))) es
def Fh{d:TypeDesc}(a:YN d){x:Value}(f:ku d x):∀{es:List (Value×CV)},(∀p∈es,ku d p.1)->yO es x=eW es x
 |[],_=>rfl
 |(k,c)::es,h=>by
  show bB (OM k x) (some c) (yO es x)=_;have b:=JR a (h _ (ata)) f;have j:=Fh a f (es:=es) λp i=>h p (ari _ i);by_cases e:k=x
  ·rw[b.2 e,eW,aqd e];rfl
  ·have:OM k x=false:=by
    cases g:OM k x with
    |false=>rfl
    |true=>exact absurd (b.1 g) e
   rw[this,eW,aqc e];exact j
def V7{R:Type}{d:TypeDesc}(a:YN d){x:Value}{c:CV}(f:ku d x):∀{es:List (Value×CV)} {k:List (Value×CV)->R},(∀p∈es,ku d p.1)->aej es x c k=k (ni es x c)
 |[],k,_=>rfl
 |(y,e)::es,k,h=>by
  show bB (OM y x) (k ((y,c)::es)) (aej es x c λr=>k ((y,e)::r))=_;have b:=JR a (h _ (ata)) f;rw[V7 a f (es:=es) λp i=>h p (ari _ i)];by_cases e:y=x
  ·rw[b.2 e,ni,aqd e];rfl
  ·have:OM y x=false:=by
    cases g:OM y x with
    |false=>rfl
    |true=>exact absurd (b.1 g) e
   rw[this,ni,aqc e];rfl
def Fs.keys{R:u->Value->Prop}{d:TypeDesc}{c:List (Value×u)}{b:Array MapEntry}(h:Fs R d c b a):∀p∈c,ku d p.1:=λp g=>by
 obtain⟨j,e,rfl⟩:=aqY g;have f:j<b.size:=by rw[h.len];exact e
 rw[<-(h.key j _ _ (aqm e) (aqX f)).1];exact h.isk _ (by simp)
section
variable{t:Tr CV}{h:Tr cO}{n:Nat}{d:Option Tmp}{ty t1 t2:TypeId}{pos:String}{af:Array Edge}{gd:Option (Nat×Bool)}{x y z:Operand}{R:Type}{r:R}
def aj7{R:Type}(c:CV)(k:Value->Option R):Option R:=match c with
 |.v x=>k x
 |.ag [.v a,.v c]=>k (.agg #[a,c])
 |_=>none
def agS{k:Value->Option R}(a:aj7 A k=some r):∃x,(∀ρ v,KR ρ A v->v=x)/\k x=some r:=by
 unfold aj7 at a;split at a
 ·exact⟨_,λρ v b=>b.bE,a⟩
 ·refine⟨_,λρ v b=>?_,a⟩
  obtain⟨e,rfl,c⟩:=b.eS;have:=KR.Q6 (us:=[_,_]) c;rw[this]
 ·cases a
def Ra{R:Type}(T:TypeId->bj)(h:Tr cO)(t1:TypeId)(p q:CV)(k:Nat->Value->List (Value×CV)->Value->Bool->Option R):Option R:=oB (T t1).mp λe=>mpK p λj=>aj7 q λx=>bB (agQ e.1 x) (blM h j λt2 es wr=>bB (Nat.beq t1 t2) (k j e.2 es x wr) none) none
def JS(H:f_ P T){p q:CV}{k:Nat->Value->List (Value×CV)->Value->Bool->Option R}(V:jL t x p)(W:jL t y q)(I:Ra T h t1 p q k=some r):
 ∃j z f l wr c A v i,k j z f l wr=some r/\P.underlying t1=some (.map A v)/\Pj P A c/\P.info? v=some i/\i.zero=some z/\YN c/\ku c l/\h.get j=some (.ma t1 f wr)/\mapA P t1=some (c,z)/\
  ∀ρ a w N,mD ρ t a->HR P w0 ρ h.get N w->∃b m o s,a.eval x=.map (some b)/\a.eval y=l/\ρ j=some (b,m)/\w.heap[b]? =some (.map o s)/\Fs (KR ρ) c f o s:=by
 obtain⟨⟨c,z⟩,g,J⟩:=bu I;obtain⟨j,rfl,K⟩:=Q7 J;obtain⟨l,S,L⟩:=agS K;obtain⟨B,M⟩:=bd L;obtain⟨t2,f,wr,C,O⟩:=Q8 M;obtain⟨e,Q⟩:=bd O;obtain rfl:=dW e;have g:=H.mp _ _ g;obtain⟨A,v,i,p1,p2,p3,p4⟩:=gX g;refine⟨j,z,f,l,wr,c,A,v,i,Q,p1,p2,p3,p4,aj6 B,agR B,C,g,λρ a w N E U=>?_⟩;have F:=V ρ a E;generalize a0:a.eval x=u at F;cases F with
 | @mp _ b m D=>
  obtain⟨Z,z',o,s,G,X,Y⟩:=U.ob _ _ _ _ C D;rw[g]at G;cases G;exact⟨b,m,o,s,rfl,S ρ _ (W ρ a E),D,X,Y⟩
def FK.lookup(X:f_ P T){p q:CV}{g:Bool}{k:CV->Option R}(Z:jL t x p)(hy:jL t y q)(Y:(Ra T h t1 p q λj z G J wr=>Option.rec (motive:=λ_=>Option R) (bB g (k (.tu [YL z,.v (.bool false)])) (k (YL z))) (λc=>bB g (k (.tu [c,.v (.bool true)])) (k c)) (yO G J))=some r):
 ∃c,PK P w0 ⟨d,.lookup t1 x y g,ty,pos,af,gd⟩ t h c/\k c=some r:=by
 obtain⟨j,z,G,J,wr,td,kt,et,i,H,p1,p2,p3,p4,p5,K,p7,p8,L⟩:=JS (P:=P) (w0:=w0) X Z hy Y;have res:∀{ρ:Nm} {w:World} {b m:Nat} {o:Array MapEntry} {s:Nat},w.heap[b]? =some (.map o s)->Fs (KR ρ) td G o s->
  ∃u,(∀g,(Instr.lookup t1 (.map (some b)) J g).run P w=.ok (if g then .tuple #[u,.bool (yO G J).isSome]else u) w)/\KR ρ ((yO G J).getD (YL z)) u:=λ{ρ w b m o s} S U=>by
  rw[Fh p5 K U.keys];rcases U.find (P:=P) K p2 with⟨M,V,O,_⟩|⟨j,m,c,M,V,O,Q,W,_⟩
  ·refine⟨z,λg=>?_,by rw[O];exact Fa z⟩
   simp[Instr.lookup,aqF p1,ark S,p2.Bq _ _ _ K,M,zeroValue,typeInfo,p3,p4,O]
  ·refine⟨m.val,λg=>?_,by rw[Q];exact W⟩
   simp[Instr.lookup,aqF p1,ark S,p2.Bq _ _ _ K,M,Q]
 cases I:yO G J with
 |none=>
  rw[I]at H;change bB g _ _=_ at H;rcases dt H with⟨rfl,D⟩|⟨rfl,D⟩
  ·refine⟨_,λρ a w N F E=>?_,D⟩
   obtain⟨b,m,o,s,v,A,_,B,C⟩:=L ρ a w N F E;obtain⟨u,e,f⟩:=res (m:=m) B C;have e:=e true;rw[I]at e f;have l:=LR.cons f (LR.cons (KR.v (ρ:=ρ) (x:=.bool false)) LR.nil);exact⟨.tuple #[u,.bool false],by simp[execOp,v,A,e],.tu _ l.1 l.2⟩
  ·refine⟨_,λρ a w N F E=>?_,D⟩
   obtain⟨b,m,o,s,v,A,_,B,C⟩:=L ρ a w N F E;obtain⟨u,e,f⟩:=res (m:=m) B C;have e:=e false;rw[I]at e f;exact⟨u,by simp[execOp,v,A,e],f⟩
 |some c=>
  rw[I]at H;change bB g _ _=_ at H;rcases dt H with⟨rfl,D⟩|⟨rfl,D⟩
  ·refine⟨_,λρ a w N F E=>?_,D⟩
   obtain⟨b,m,o,s,v,A,_,B,C⟩:=L ρ a w N F E;obtain⟨u,e,f⟩:=res (m:=m) B C;have e:=e true;rw[I]at e f;have l:=LR.cons f (LR.cons (KR.v (ρ:=ρ) (x:=.bool true)) LR.nil);exact⟨.tuple #[u,.bool true],by simp[execOp,v,A,e],.tu _ l.1 l.2⟩
  ·refine⟨_,λρ a w N F E=>?_,D⟩
   obtain⟨b,m,o,s,v,A,_,B,C⟩:=L ρ a w N F E;obtain⟨u,e,f⟩:=res (m:=m) B C;have e:=e false;rw[I]at e f;exact⟨u,by simp[execOp,v,A,e],f⟩
def HR.Rc{h p:KH}{n:Nat}(e:HR P w0 j h n m){a b c v g:Nat}{u f:Array MapEntry}{w o:List (Value×CV)}{z:Value}(q:h a=some (.ma t1 w true))(s:j a=some (b,c))(C:mapA P t1=some (E,z))(A:m.heap[b]? =some (.map u v))
 (D:Fs (KR j) E o f g) (B:∀k,p k=if k=a then some (.ma t1 o true)else h k):KP P w0 j h n m j p n {m with heap:=m.heap.setIfInBounds b (.map f g)}:=by
 have l:=atk (o':=.map f g) A;have F:=e.lo _ _ _ _ q s;exact e.set _ q s rfl rfl B ⟨⟨e.ext.os,e.ext.tape,e.ext.output,by simp;exact e.ext.size,λk i=>by rw[l.2 k (by omega)];exact e.ext.bJ k i⟩,e.ext.drawn⟩ (by simp) (λk i=>l.2 k i) ⟨E,z,f,g,C,l.1,D⟩
def FK.aek(Q:f_ P T){A:Op}(Z:A=.mapUpdate t1 x y z\/A=.insert t1 x y z){p q c:CV}{k:CV->Tr cO->Nat->Option R}(hx:jL t x p)(hy:jL t y q)(hz:jL t z c)(V:(Ra T h t1 p q λj _ g F wr=>bB wr (aej g F c λo=>Tr.put (.ma t1 o true) h j λe=>k (.v undef) e n) none)=some r):
 ∃c e v,FK P Dk w0 ⟨d,A,ty,pos,af,gd⟩ t h n c e v/\k c e v=some r:=by
 obtain⟨j,zv,g,F,wr,td,kt,et,i,W,p1,p2,p3,p4,p5,L,p7,p8,M⟩:=JS (P:=P) (w0:=w0) Q hx hy V;obtain⟨rfl,D⟩:=bd W;by_cases K:∀p∈g,ku td p.1
 ·rw[V7 p5 L K]at D
  obtain⟨e,E,_,J⟩:=Tr.mo D;refine⟨_,e,n,λρ a w u s=>?_,E⟩;obtain⟨b,m,N,O,G,H,I,B,C⟩:=M ρ a w n u s;obtain⟨a1,a2,a0,Y⟩:=Fs.put (P:=P) C (λ_ _ h=>h) L p1 p2 (hz ρ a u) B;refine .skip ?_ ⟨ρ,s.Rc p7 I p8 B Y J,.v⟩;rcases Z with rfl|rfl<;>simp[execOp,G,H,a0]
 ·have S:∀{c:CV} {e:Tr cO} {v:Nat},FK P Dk w0 ⟨d,A,ty,pos,af,gd⟩ t h n c e v:=λρ a w u s=>by
   obtain⟨b,m,N,O,G,H,I,B,C⟩:=M ρ a w n u s;exact absurd C.keys K
  have:∀{g:List (Value×CV)} {f:List (Value×CV)->Option R},aej g F c f=some r->∃o,f o=some r:=by
   intro g
   induction g with
   |nil=>intro f l;exact⟨_,l⟩
   |cons p g ih=>
    intro f l;rcases dt l with⟨_,l⟩|⟨_,l⟩
    ·exact⟨_,l⟩
    ·obtain⟨o,U⟩:=ih l
     exact⟨_,U⟩
  obtain⟨o,E⟩:=this D;obtain⟨e,X,_,J⟩:=Tr.mo E;exact⟨_,e,n,S,X⟩
def pZ(es:List (Value×CV))(x:Value):Option Nat:=List.rec (motive:=λ_=>Option Nat) none (λp _ ih=>bB (OM p.1 x) (some 0) (Option.rec (motive:=λ_=>Option Nat) none (λi=>some (Nat.succ i)) ih)) es
def HT{d:TypeDesc}(f:YN d){x:Value}(j:ku d x):∀{es:List (Value×CV)} {i:Nat},(∀p∈es,ku d p.1)->pZ es x=some i->∃c,es[i]? =some (x,c)/\eW es x=some c
 |[],i,_,h=>by cases h
 |(k,c)::es,i,h,a=>by
  change bB (OM k x) (some 0) (Option.rec (motive:=λ_=>Option Nat) none (λi=>some (Nat.succ i)) (pZ es x))=some i at a;have g:=JR f (h _ (ata)) j;by_cases e:k=x
  ·rw[g.2 e]at a
   cases a;exact⟨c,by rw[e];rfl,by rw[eW,aqd e]⟩
  ·have:OM k x=false:=by
    cases q:OM k x with
    |false=>rfl
    |true=>exact absurd (g.1 q) e
   rw[this]at a;cases b:pZ es x with
   |none=>rw[b]at a;cases a
   |some s=>
    rw[b]at a;cases a;obtain⟨l,m,o⟩:=HT f j (es:=es) (λp a=>h p (ari _ a)) b;exact⟨l,m,by rw[eW,aqc e];exact o⟩
def Re{o:Obj}(h:m.heap[a]? =some o):({m with heap:=m.heap.setIfInBounds a o}:World)=m:=by
 have:m.heap.setIfInBounds a o=m.heap:=by
  apply Array.ext (by simp);intro i b c;rw[Array.getElem_setIfInBounds (by simpa using b)];split
  ·rename_i e
   subst e;exact(aqU.1 h).2.symm
  ·rfl
 rw[this]
def FK.mapEntry(hT:f_ P T){p q:CV}{k:CV->Tr cO->Nat->Option R}(hx:jL t x p)(hy:jL t y q)(hk:(Ra T h t1 p q λj z f g wr=>Option.rec (motive:=λ_=>Option R)
 (bB wr (Tr.put (.ma t1 (f++[(g,YL z)]) true) h j λG=>kN f.length λm=>k (.tu [YL z,.v (.int .i64 (Int.ofNat m))]) G n) none)
 (λi=>oB (f[i]?) λe=>k (.tu [e.2,.v (.int .i64 (Int.ofNat i))]) h n) (pZ f g))=some r):
 ∃c G n',FK P Dk w0 ⟨d,.mapEntry t1 x y,ty,pos,af,gd⟩ t h n c G n'/\k c G n'=some r:=by
 obtain⟨j,z,f,g,wr,td,kt,et,i,L,p1,p2,p3,p4,p5,B,p7,p8,p9⟩:=JS (P:=P) (w0:=w0) hT hx hy hk;cases M:pZ f g with
 |none=>
  rw[M]at L;obtain⟨rfl,V⟩:=bd L;obtain⟨G,a2,_,hh⟩:=Tr.mo V;rw[fm]at a2;refine⟨_,G,n,λρ a w X O=>?_,a2⟩;obtain⟨b,m,C,D,S,U,e3,s,o⟩:=p9 ρ a w n X O;rcases o.find (P:=P) B p2 with⟨E,A,F,I⟩|⟨u,Q,c,E,A,F,I,f5,J,_⟩
  ·obtain⟨Y,Z,a5,a3⟩:=Fs.put (P:=P) o (λ_ _ h=>h) B p1 p2 (Fa (ρ:=ρ) z) s
   rw[I]at a3;have ab:(Instr.mapUpdate t1 (.map (some b)) g z).run P w=.ok () {w with heap:=w.heap.setIfInBounds b (.map (C.push {key:=g,val:=z,born:=D}) (D+1))}:=by
    simp[Instr.mapUpdate,aqF p1,ark s,p2.Bq _ _ _ B,E,arL _ s,Result.andThen]
   rw[ab]at a5;have hw:({w with heap:=w.heap.setIfInBounds b (.map (C.push {key:=g,val:=z,born:=D}) (D+1))}:World)={w with heap:=w.heap.setIfInBounds b (.map Y Z)}:=by
    injection a5
   have ae:=atk (o':=.map Y Z) s;have l:=LR.cons (Fa (ρ:=ρ) z) (LR.cons (KR.v (ρ:=ρ) (x:=.int .i64 (Int.ofNat f.length))) LR.nil);refine .value (v:=.tuple #[z,.int .i64 (Int.ofNat f.length)]) ?_ ⟨ρ,O.Rc p7 e3 p8 s a3 hh,.tu _ l.1 l.2⟩;rw[<-hw];have a7:D=f.length:=by rw[o.clk,o.len]
   simp[execOp,S,U,Instr.mapEntry,aqF p1,ark s,p2.Bq _ _ _ B,E,arL _ s,zeroValue,typeInfo,p3,p4,goInt,a7]
  ·exfalso
   have hl:=Fh p5 B o.keys;have:∀{f:List (Value×CV)},pZ f g=none->yO f g=none:=by
    intro f
    induction f with
    |nil=>intro _;rfl
    |cons p f ih=>
     intro H;change bB (OM p.1 g) (some 0) (Option.rec (motive:=λ_=>Option Nat) none (λi=>some (Nat.succ i)) (pZ f g))=none at H;change bB (OM p.1 g) (some p.2) (yO f g)=none;cases hb:OM p.1 g with
     |true=>rw[hb]at H;cases H
     |false=>
      rw[hb]at H;cases N:pZ f g with
      |none=>exact ih N
      |some i=>rw[N]at H;cases H
   rw[this M,I]at hl;cases hl
 |some q=>
  rw[M]at L;obtain⟨⟨ag,c⟩,K,V⟩:=bu L;refine⟨_,h,n,.pure λρ a w X O=>?_,V⟩;obtain⟨b,m,C,D,S,U,e3,s,o⟩:=p9 ρ a w n X O;obtain⟨c',g1,g2⟩:=HT p5 B o.keys M;rw[K]at g1;cases g1;rcases o.find (P:=P) B p2 with⟨E,A,F,I⟩|⟨u,Q,c2,E,A,F,I,f5,J,_⟩
  ·rw[F]at g2;cases g2
  ·have N:u=q:=by
    have k1:=(o.key u _ Q J A).1;have W:q<C.size:=by rw[o.len];exact(aqh.1 K).1
    have k2:=(o.key q _ _ K (aqX W)).1;have ad:=((aus C D).1 o.jN).2.2;have a4:=atH.1 ad;have a0:=(aqU.1 A).1;have a1:=(aqU.1 A).2;rcases arV u q with a9|heq|a8
    ·have:=a4 u q (by simpa using a0) (by simpa using W) a9
     simp only[atj]at this;rw[a1,k1,k2]at this;exact absurd rfl this
    ·exact heq
    ·have:=a4 q u (by simpa using W) (by simpa using a0) a8
     simp only[atj]at this;rw[a1,k1,k2]at this;exact absurd rfl this
   subst N;rw[K]at J;cases J;have l:=LR.cons f5 (LR.cons (KR.v (ρ:=ρ) (x:=.int .i64 (Int.ofNat u))) LR.nil);refine⟨.tuple #[Q.val,.int .i64 (Int.ofNat u)],?_,.tu _ l.1 l.2⟩;have a6:=o.O3 _ _ A;have aa:(C.modify u λe=>{e with key:=g})=C:=by
    apply Array.ext (by simp);intro i h1 h2;rw[atI];split
    ·rename_i e
     subst e;have:C[u]=Q:=(aqU.1 A).2;rw[this,<-F]
    ·rfl
   have ac:=Re s;simp[execOp,S,U,Instr.mapEntry,aqF p1,ark s,p2.Bq _ _ _ B,E,A,F,p2.stay _ _ B,arL _ s,goInt,a6,aa,ac]
def FK.entryStore(S:f_ P T){p q c:CV}{k:CV->Tr cO->Nat->Option R}(hx:jL t x p)(hy:jL t y q)(hz:jL t z c)(X:(oB (T t1).mp λ_=>mpK p λj=>tT q λi=>blM h j λt2 s wr=>bB wr (bB (Nat.beq t1 t2) (oB (s[i]?) λe=>Tr.put (.ma t1 (s.set i (e.1,c)) true) h j λo=>k (.v undef) o n) none) none)=some r):
 ∃c o N,FK P Dk w0 ⟨d,.entryStore t1 x y z,ty,pos,af,gd⟩ t h n c o N/\k c o N=some r:=by
 obtain⟨⟨td,zv⟩,H,Y⟩:=bu X;obtain⟨j,rfl,Z⟩:=Q7 Y;obtain⟨ki,i,rfl,a0⟩:=lJ Z;obtain⟨t2,s,wr,G,a1⟩:=Q8 a0;obtain⟨rfl,a2⟩:=bd a1;obtain⟨e,a3⟩:=bd a2;obtain rfl:=dW e;obtain⟨⟨kv,c0⟩,C,a4⟩:=bu a3;obtain⟨o,a5,_,W⟩:=Tr.mo a4;have H:=S.mp _ _ H;refine⟨_,o,n,λρ a w E K=>?_,a5⟩;have L:=hx ρ a E;have M:=(hy ρ a E).bE;have a9:=hz ρ a E;generalize U:a.eval x=u at L;cases L with
 | @mp _ b m J=>
  obtain⟨Q,z',l,O,m1,F,g⟩:=K.ob _ _ _ _ G J;have v:i<l.size:=by rw[g.len];exact(aqh.1 C).1
  have V:l.findIdx? (λe=>(e.born:Int)==(i:Int))=some i:=by
   rw[avc];refine⟨v,?_,λq I=>?_⟩
   ·rw[g.O3 i _ (aqX v)];simp
   ·rw[g.O3 q _ (aqX (by omega))];simp;omega
  have a8:Fs (KR ρ) Q (s.set i (kv,c)) (l.modify i λe=>{e with val:=a.eval z}) O:=by
   refine⟨by simp[g.len],λq x' B A f=>?_,λB f=>?_,aut g.jN _ _ (λ_ _=>rfl) (λ_ _ _=>rfl),λq B f=>?_,by rw[g.clk];simp⟩
   ·rw[arY]at f
    by_cases D:i=q
    ·subst D
     rw[aqd rfl,aqX v]at f;have a6:i<s.length:=(aqh.1 C).1;simp[a6]at A f;subst A f;exact⟨(g.key i _ _ C (aqX v)).1,a9⟩
    ·rw[aqc D]at f
     rw[atJ D]at A;exact g.key q x' B A f
   ·obtain⟨q,I,rfl⟩:=aqY f
    have aa:q<l.size:=by simpa using I
    rw[atj,atI];split
    ·exact g.isk l[q] (by simp)
    ·exact g.isk l[q] (by simp)
   ·rw[arY]at f
    split at f
    ·obtain⟨m0,a7,rfl⟩:=aqL.1 f
     exact g.O3 q m0 a7
    ·exact g.O3 q B f
  refine .skip ?_ ⟨ρ,K.Rc G J m1 F a8 W,.v⟩;simp only[at3]at M;simp[execOp,U,M,Instr.entryStore,ark F,asInt,asIntOf,V,arL _ F]
end
end
end
section
open Go Go.RowKit MapKept
abbrev KK(R:Type):=Tr CV->Tr cO->Nat->Option R
abbrev KO(R:Type):=Tr CV->Tr cO->Nat->(CV->Tr cO->Nat->Option R)->Option R
abbrev KC(R:Type):=FuncId->List CV->Tr cO->Nat->(CV->Tr cO->Nat->Option R)->Option R
section
variable(T:TypeId->bj){R:Type}
def Bh(x:Operand):KO R:=λt h n k=>dM t x λc=>k c h n
def V8(z x y:Operand):KO R:=λt h n k=>dM t z λc1=>dM t x λc2=>dM t y λc3=>asB c1 λb=>bB b (k c2 h n) (k c3 h n)
def aj8(t1:TypeId):KO R:=λ_ h n k=>oB (T t1).ze λz=>bB (mq (z.map .v)) (yN h n (.ce (trL (z.map .v)) z.length none true) λh' n'=>k (.pt n 0) h' n') none
def agT(t1:TypeId)(x:Operand):KO R:=λt h n k=>dM t x λa=>sA a λl=>aee h n l λi h' n'=>k (.pt i 0) h' n'
def JT(t1:TypeId)(parts:Array (Nat×Operand)):KO R:=λt h n k=>oB (T t1).pl λp=>ke t parts.toList λqs=>oB (fZ (λi=>p.2[i]?) (p.1.map .v) qs) λcs=>k (.ag cs) h n
def mW(t1:TypeId)(len:Nat)(parts:Array (Nat×Operand)):KO R:=λt h n k=>oB (T t1).el λe=>bB (Nat.ble (Nat.mul len e.2.1) 16777216) (ke t parts.toList λqs=>oB (fZ (λi=>some (i*e.2.1,e.2.1)) (List.replicate (Nat.mul len e.2.1) (.v undef)) qs) λcs=>aee h n cs λi h' n'=>k (.sl i 0 len (some len)) h' n') none
def ON(t1:TypeId)(x y z:Operand):KO R:=λt h n k=>dM t x λp=>dM t y λq=>dM t z λc=>Ra T h t1 p q λj _ es kv wr=>bB wr (aej es kv c λes'=>Tr.put (.ma t1 es' true) h j λh'=>k (.v undef) h' n) none
def V9(t1:TypeId)(x:Operand):KO R:=λt h n k=>dM t x λp=>ad6 T h t1 p λc=>k c h n
def JU(t1:TypeId)(x y:Operand):KO R:=λt h n k=>dM t x λp=>dM t y λq=>oB (T t1).ty λe=>ptA p λj o=>sA q λl=>bB (Nat.beq l.length e.2) (wrK h j o l λh'=>k (.v undef) h' n) none
def agU(x:Operand):KO R:=λt h n k=>dM t x λc=>bB (nnK c) (k c h n) none
def agV(op:BinOp)(t1:TypeId)(x y:Operand):KO R:=λt h n k=>dM t x λa=>dM t y λb=>aeb T op t1 (isC y) a b λc=>k c h n
def oUn(op:UnOp)(t1:TypeId)(x:Operand):KO R:=λt h n k=>dM t x λa=>unK op a λc=>k c h n
def V_(t1 t2:TypeId)(x:Operand):KO R:=λt h n k=>dM t x λa=>oB (T t1).ik λ_=>oB (T t2).ik λkd=>asI a λ_ m=>wrI kd m λz=>k (.v (.int kd z)) h n
def Wa(fn:Fn)(fs cs:Array Operand):KO R:=λt h n k=>pU t fs.toList λus=>pU t cs.toList λxs=>k (.cl fn us xs) h n
def aoZ(t1:TypeId)(r:Option Operand):KO R:=λ_ h n k=>bB r.isNone (oB (T t1).mp λ_=>yN h n (.ma t1 [] true) λh' n'=>k (.mp n) h' n') none
def Wb(t1:TypeId)(x y:Operand):KO R:=λt h n k=>dM t x λp=>dM t y λq=>oB (T t1).el λe=>tT p λm=>tT q λm2=>bB (Nat.beq m m2) (bB (Nat.ble (Nat.mul e.2.2.1 m) 140737488355328) (bB (Nat.ble m 1048576) (bB (Nat.blt 0 e.2.1) (bB (mq (e.2.2.2.map .v)) (yN h n (.ce (Fe e.2.2.2 m) (Nat.mul m e.2.1) none true) λh' n'=>k (.sl n 0 m (some m)) h' n') none) none) none) none) none
def JV(t1:TypeId)(x:Operand)(lo hi mx:Option Operand):KO R:=λt h n k=>dM t x λa=>sB T t t1 a lo hi mx λc=>k c h n
def oFA(t1:TypeId)(x:Operand)(f:Nat):KO R:=λt h n k=>dM t x λp=>oB (T t1).fd[f]? λq=>bB (Nat.beq q.2.2 0) none (ptK p q.1 λc=>k c h n)
def oF(t1:TypeId)(x:Operand)(f:Nat):KO R:=λt h n k=>dM t x λp=>agK p λcs=>oB (T t1).fd[f]? λq=>bB (Nat.ble (Nat.add q.1 q.2.2) cs.length) (bB q.2.1 (k (.ag ((cs.drop q.1).take q.2.2)) h n) (oB (cs[q.1]?) λc=>k c h n)) none
def oIA(t1:TypeId)(x y:Operand):KO R:=λt h n k=>dM t x λp=>dM t y λq=>tT q λi=>Q5 T t1 p i λc=>k c h n
def oI(t1:TypeId)(x y:Operand):KO R:=λt h n k=>dM t x λp=>dM t y λq=>bB (T t1).sg (tT q λi=>agH p λs=>oB (s.data.toList[i]?) λb=>kN b.toNat λm=>k (.v (.int .u8 (Int.ofNat m))) h n) none
def Wc(t1:TypeId)(x y:Operand)(ok:Bool):KO R:=λt h n k=>dM t x λp=>dM t y λq=>Ra T h t1 p q λj z es kv wr=>Option.rec (motive:=λ_=>Option R) (bB ok (k (.tu [YL z,.v (.bool false)]) h n) (k (YL z) h n)) (λc=>bB ok (k (.tu [c,.v (.bool true)]) h n) (k c h n)) (yO es kv)
def JW(t1:TypeId)(x y:Operand):KO R:=λt h n k=>dM t x λp=>dM t y λq=>Ra T h t1 p q λj z es kv wr=>Option.rec (motive:=λ_=>Option R)
 (bB wr (Tr.put (.ma t1 (es++[(kv,YL z)]) true) h j λh'=>kN es.length λm=>k (.tu [YL z,.v (.int .i64 (Int.ofNat m))]) h' n) none)
 (λi=>oB (es[i]?) λe=>k (.tu [e.2,.v (.int .i64 (Int.ofNat i))]) h n) (pZ es kv)
def yP(t1:TypeId)(x y z:Operand):KO R:=λt h n k=>dM t x λp=>dM t y λq=>dM t z λc=>oB (T t1).mp λ_=>mpK p λj=>tT q λi=>blM h j λt2 es wr=>bB wr (bB (Nat.beq t1 t2) (oB (es[i]?) λe=>Tr.put (.ma t1 (es.set i (e.1,c)) true) h j λh'=>k (.v undef) h' n) none) none
def oTA(t2:TypeId)(x:Operand)(ok:Bool):KO R:=λt h n k=>dM t x λc=>match c with
 |.v .nilIface=>bB ok (oB (T t2).fd[0]? λ_=>oB (T t2).zv λz=>k (.tu [YL z,.v (.bool false)]) h n) none
 |_=>none
def agW(x:Operand)(i:Nat):KO R:=λt h n k=>dM t x λp=>tuK p λvs=>oB (vs[i]?) λc=>k c h n
def clK{R:Type}(c:CV)(k:FuncId->List CV->List CV->Option R):Option R:=match c with
 |.v (.func (.func f) ⟨[]⟩ ⟨[]⟩)=>k f [] []
 |.cl (.func f) fs cs=>k f fs cs
 |_=>none
def FT{R:Type}(t:Tr CV)(l:List Operand)(k:CV->Option R):Option R:=match l with
 |[x]=>dM t x k
 |_=>none
def FU{R:Type}(t:Tr CV)(l:List Operand)(k:CV->CV->Option R):Option R:=match l with
 |[x,y]=>dM t x λa=>dM t y λb=>k a b
 |_=>none
def mr(b:Builtin)(args:List Operand)(ts:List TypeId):KO R:=λt h n k=>match b with
 |.len=>FT t args λc=>am2 T h ts c λc=>k c h n
 |.cap=>FT t args λc=>am3 T ts c λc=>k c h n
 |.append=>(match ts with
  |[t1,t2]=>FU t args λa b=>V6 T h n t1 t2 a b k
  |_=>none)
 |.min=>FU t args λa c=>asI a λkd m=>asI c λ_ q=>bB (ltK q m) (k (.v (.int kd q)) h n) (k (.v (.int kd m)) h n)
 |.max=>FU t args λa c=>asI a λkd m=>asI c λ_ q=>bB (ltK m q) (k (.v (.int kd q)) h n) (k (.v (.int kd m)) h n)
 |.clear=>(match ts with
  |[t1]=>FT t args λc=>aei T h n t1 c k
  |_=>none)
 |_=>none
def agX(call:KC R)(c:Callee)(args:List Operand)(ts:List TypeId):KO R:=λt h n k=>match c with
 |.value x=>dM t x λf=>pU t args λcs=>clK f λg us xs=>call g (us++cs++xs) h n k
 |.builtin b=>mr T b args ts t h n k
 |_=>none
def am7(call:KC R)(c:Call):KO R:=agX T call c.callee c.args.toList c.argTypes.toList
def Fi(ID:FuncId->Bool)(c:Call):KO R:=λt h n k=>bB c.args.isEmpty (match c.callee with
 |.value x=>dM t x λf=>clK f λg us xs=>bB (ID g) (bB us.isEmpty (k (.v undef) h n) none) none
 |_=>none) none
def YO:KO R:=λ_ _ _ _=>none
def opK(ID:FuncId->Bool)(call:KC R)(o:Op):KO R:=Op.rec (motive:=λ_=>KO R) (Bh) (Bh) (V8) (aj8 T) (agT) (JT T) (mW T) (ON T) (V9 T) (JU T) (λ_=>YO) (λ_=>YO) (agU)
 (λop t1 x y _=>agV T op t1 x y) (oUn) (V_ T) (λ_ _=>YO) (λ_ _=>YO) (Wa) (aoZ T) (λ_ _=>YO) (Wb T) (JV T) (oFA T) (oF T) (oIA T) (oI T) (Wc T) (ON T) (JW T) (yP T)
 (λ_ _=>YO) (λ_ _=>YO) (λ_=>YO) (λx _ t2 ok=>oTA T t2 x ok) (agW) (am7 T call) (λ_=>YO) (Fi ID) (λ_=>YO) (λ_ _=>YO) (λ_ _ _=>YO) (λ_ _=>YO) o
def oE(ops:List Oper)(j:Nat):Option Tmp:=(ops[j]?).bind (·.dst)
def aj_(d:Option Tmp)(c:CV)(t:Tr CV)(k:Tr CV->Option R):Option R:=Option.rec (motive:=λ_=>Option R) (k t) (λi=>Tr.put c t i k) d
def HU(ops:List Oper)(g:Option (Nat×Bool))(t:Tr CV)(y n:Option R):Option R:=Option.rec (motive:=λ_=>Option R) y (λp=>oB (oE ops p.1) λs=>oB (t.get s) λc=>match c with
 |.v (.bool b)=>bB (bB b p.2 (!p.2)) y n
 |.v (.tuple ⟨[]⟩)=>n
 |_=>none) g
variable(ID:FuncId->Bool)(call:KC R)
def Wd(ops:List Oper)(o:Oper)(k:KK R):KK R:=λt h n=>HU ops o.guard t (opK T ID call o.op t h n λc h' n'=>aj_ o.dst c t λt'=>k t' h' n') (aj_ o.dst (.v undef) t λt'=>k t' h n)
def YP(ops l:List Oper):KK R->KK R:=List.rec (motive:=λ_=>KK R->KK R) (λk=>k) (λo _ ih k=>Wd T ID call ops o (ih k)) l
def eN:Op->Nat
 |.move _|.assign _|.pick .. |.alloc _|.box .. |.build .. |.buildSlice .. |.nilCheck _|.binOp .. |.unOp .. |.convert .. |.makeFunc .. |.makeMap .. |.makeSlice .. |.slice .. |.fieldAddr .. |.field .. |.indexAddr .. |.index .. |.extract .. =>0
 |.load .. |.lookup .. =>1
 |.call {callee:=.builtin .len,.. }=>1
 |.call {callee:=.builtin .cap,.. }=>0
 |.call {callee:=.builtin .min,.. }=>0
 |.call {callee:=.builtin .max,.. }=>0
 |_=>2
def tmpsOf(o:Oper):List Tmp:=o.op.operands.toList.filterMap λ|.tmp t=>some t|_=>none
def nH(l:List Oper)(i j:Nat):Bool:=dT l j i||dT l i j
def Fj(l:List Oper):List (Nat×Nat):=(List.range l.length).flatMap λi=>(List.range l.length).filterMap λj=>match l[i]?,l[j]? with
 |some o,some p=>if Nat.beq (eN o.op) 1 && Nat.beq (eN p.op) 2 && !nH l i j then some (i,j)else none
 |_,_=>none
def aka(l:List Oper):Bool:=
 let I:=List.range l.length
 Kw 0 l && CS l &&
 (I.all λj=>match l[j]? with
  |some o=>(tmpsOf o).all (λx=>I.all λi=>match l[i]? with
   |some p=> !(p.dst==some x)||Nat.beq i j||nH l i j
   |none=>true) && (match o.guard with|some g=>dT l j g.1 && !Nat.beq g.1 j|none=>true)
  |none=>true) &&
 (I.all λj=>I.all λi=>match l[i]?,l[j]? with
  |some o,some p=> !(Nat.beq (eN o.op) 2 && Nat.beq (eN p.op) 2)||Nat.beq i j||nH l i j
  |_,_=>true) &&
 ((Fj l).all λq=>match l[q.1]? with
  |some o=>(tmpsOf o).all (λx=>I.all λi=>match l[i]? with
   |some p=> !(p.dst==some x)||(dT l q.1 i && !Nat.beq i q.1)
   |none=>true)
  |none=>true)
def vEq(x y:Value):Bool:=match x,y with
 |.int j a,.int k c=>decide (j=k) && eqK a c
 |.bool a,.bool c=>a==c
 |.pointer none,.pointer none=>true
 |.slice none 0 0,.slice none 0 0=>true
 |.map none,.map none=>true
 |.nilFunc,.nilFunc=>true
 |.nilIface,.nilIface=>true
 |.func (.func f) ⟨[]⟩ ⟨[]⟩,.func (.func g) ⟨[]⟩ ⟨[]⟩=>Nat.beq f g
 |_,_=>false
def ael(a b:CV):Bool:=match a,b with
 |.v x,.v y=>vEq x y
 |.pt i o,.pt j p=>Nat.beq i j && Nat.beq o p
 |.sl i o m c,.sl j p q d=>Nat.beq i j && Nat.beq o p && Nat.beq m q && decide (c=d)
 |.mp i,.mp j=>Nat.beq i j
 |_,_=>false
def Rf:List CV->List CV->Bool
 |[],[]=>true
 |a::l,b::m=>ael a b && Rf l m
 |_,_=>false
def cEq(a b:CV):Bool:=match a,b with
 |.ag l,.ag m=>Rf l m
 |.tu l,.tu m=>Rf l m
 |.cl (.func f) l k,.cl (.func g) m j=>Nat.beq f g && Rf l m && Rf k j
 |a,b=>ael a b
abbrev Acc:=List (Nat×(Nat×Tr cO)×(Nat×Tr cO))
def aem:Tr CV->Tr CV->Bool
 |.lf,.lf=>true
 |.nd l x r,.nd l' x' r'=>aem l l' && (match x,x' with
  |none,none=>true
  |some a,some b=>ael a b
  |_,_=>false) && aem r r'
 |_,_=>false
def agY:Option cO->Option cO->Bool
 |some (.ce cs m e w),some (.ce cs' m' e' w')=>aem cs cs' && Nat.beq m m' && decide (e=e') && (w==w')
 |some (.ma t [] w),some (.ma t' [] w')=>Nat.beq t t' && (w==w')
 |_,_=>false
def aen(l:List Oper):List (Nat×Nat):=(List.range l.length).flatMap λi=>(List.range l.length).filterMap λj=>match l[i]?,l[j]? with
 |some o,some p=>if Nat.beq (eN o.op) 0 && Nat.beq (eN p.op) 2 && Nat.blt i j && !dT l j i then some (i,j)else none
 |_,_=>none
def sameAt(ops:List Oper)(o:Oper)(t:Tr CV)(n:Nat)(h:Tr cO)(k:Option R):Option R:=HU ops o.guard t (oB o.dst λd=>oB (t.get d) λc0=>opK T ID call o.op t h n λc _ _=>bB (cEq c c0) k none) k
def am_(ops:List Oper)(acc:Acc)(t:Tr CV)(n:Nat)(ps:List (Nat×Nat))(k:Option R):Option R:=List.rec (motive:=λ_=>Option R) k (λp _ ih=>oB (ops[p.1]?) λo=>List.rec (motive:=λ_=>Option R) ih (λe _ ih2=>bB (Nat.beq e.1 p.2) (sameAt T ID call ops o t n e.2.1.2 (sameAt T ID call ops o t n e.2.2.2 ih2)) ih2) acc) ps
def HV(n:Nat):CV->Bool
 |.v _=>true
 |.gl .. =>true
 |.pt k _=>Nat.blt k n
 |.sl k .. =>Nat.blt k n
 |.mp k=>Nat.blt k n
 |_=>false
def akb(n:Nat):CV->Bool
 |.ag l=>l.all (HV n)
 |.tu l=>l.all (HV n)
 |.cl _ l k=>l.all (HV n) && k.all (HV n)
 |c=>HV n c
def ao1(ops:List Oper)(acc:Acc)(t:Tr CV)(ps:List (Nat×Nat)):Bool:=acc.all λe=>Nat.ble e.2.1.1 e.2.2.1 && ps.all λp=> !(Nat.beq e.1 p.1)||match oE ops p.1 with
 |some d=>(match t.get d with
  |some c=>akb e.2.1.1 c
  |none=>false)
 |none=>true
def ao2(acc:Acc)(ps:List (Nat×Nat)):Bool:=ps.all λp=>acc.all λe=> !(Nat.beq e.1 p.1)||Nat.beq e.2.1.1 e.2.2.1||acc.all λf=> !(Nat.beq f.1 p.2)||agY (e.2.2.2.get e.2.1.1) (f.2.2.2.get e.2.1.1)
def ana(ops l:List Oper):Nat->Acc->(Acc->KK R)->KK R:=List.rec (motive:=λ_=>Nat->Acc->(Acc->KK R)->KK R) (λ_ acc k=>k acc)
 (λo _ ih i acc k=>λt h n=>Wd T ID call ops o (λt' h' n'=>ih (Nat.succ i) ((i,(n,h),(n',h'))::acc) k t' h' n') t h n) l
def We(ops:List Oper)(k:KK R):KK R:=λt h n=>bB (aka ops) (ana T ID call ops ops 0 [] (λacc t' h' n'=>bB (ao2 acc (aen ops) && ao1 ops acc t' (Fj ops)) (am_ T ID call ops acc t' n' (Fj ops) (k t' h' n')) none) t h n) none
def aeo(N:Nat)(b:KK R->(Nat->KK R)->KK R->KK R)(kx:Nat->KK R)(kr:KK R):KK R:=Nat.rec (motive:=λ_=>KK R) (λ_ _ _=>none) (λ_ ih=>b ih kx kr) N
def OO(N:Nat)(c:Code):KK R->(Nat->KK R)->KK R->KK R:=Code.rec (motive:=λ_=>KK R->(Nat->KK R)->KK R->KK R)
 (λkn _ _=>kn)
 (λ_ ops dr kn _ _=>bB dr (We T ID call ops.toList kn) (YP T ID call ops.toList ops.toList kn))
 (λ_ _ ia ib kn kx kr=>ia (ib kn kx kr) kx kr)
 (λc _ _ ia ib kn kx kr=>λt h n=>dM t c λv=>asB v λx=>bB x (ia kn kx kr t h n) (ib kn kx kr t h n))
 (λid _ ib kn kx kr=>ib kn (λi=>bB (Nat.beq i id) kn (kx i)) kr)
 (λ_ ib _ kx kr=>aeo N ib kx kr)
 (λ_ _ _ _ _ _ _ _ _=>λ_ _ _=>none)
 (λid _ kx _=>kx id)
 (λ_ ib=>ib)
 (λ_ kn _ _=>kn)
 (λ_ _ _ _=>λ_ _ _=>none)
 (λ_ _ kr=>kr)
 (λ_ _ _ _=>λ_ _ _=>none) c
end
def anb{R:Type}(l:List CV):Nat->Tr CV->(Tr CV->Option R)->Option R:=List.rec (motive:=λ_=>Nat->Tr CV->(Tr CV->Option R)->Option R) (λ_ t k=>k t) (λc _ ih i t k=>Tr.put c t i λt'=>ih (Nat.succ i) t' k) l
def akc{R:Type}(T:TypeId->bj)(h:Tr cO)(t:Tr CV)(rs:List ResultVar):(List CV->Option R)->Option R:=List.rec (motive:=λ_=>(List CV->Option R)->Option R) (λk=>k [])
 (λv _ ih k=>ResultVar.rec (motive:=λ_=>Option R) (λi=>oB (t.get i) λc=>ih λcs=>k (c::cs)) (λa ty=>oB (t.get a) λp=>ad6 T h ty p λc=>ih λcs=>k (c::cs)) v) rs
def YQ:List CV->CV
 |[c]=>c
 |cs=>.tu cs
def atL{α:Type}(l:List α):Nat->Option α:=List.rec (motive:=λ_=>Nat->Option α) (λ_=>none) (λx _ ih i=>Nat.rec (motive:=λ_=>Option α) (some x) (λj _=>ih j) i) l
abbrev Rg(R α:Type):=α->Tr cO->Nat->Tr Nat->Tr Nat->Option R
def snL{R:Type}(f:CV->Tr cO->Nat->Tr Nat->Tr Nat->Rg R CV->Option R)(l:List CV):Tr cO->Nat->Tr Nat->Tr Nat->Rg R (List CV)->Option R:=
 List.rec (motive:=λ_=>Tr cO->Nat->Tr Nat->Tr Nat->Rg R (List CV)->Option R) (λd n m b k=>k [] d n m b) (λc _ ih d n m b k=>f c d n m b λc' d n m b=>ih d n m b λl d n m b=>k (c'::l) d n m b) l
def snT{R:Type}(f:CV->Tr cO->Nat->Tr Nat->Tr Nat->Rg R CV->Option R)(l:Tr CV):Tr cO->Nat->Tr Nat->Tr Nat->Rg R (Tr CV)->Option R:=
 Tr.rec (motive:=λ_=>Tr cO->Nat->Tr Nat->Tr Nat->Rg R (Tr CV)->Option R) (λd n m b k=>k .lf d n m b)
  (λ_ x _ il ir d n m b k=>il d n m b λl' d n m b=>Option.rec (motive:=λ_=>Option R) (ir d n m b λr' d n m b=>k (.nd l' none r') d n m b) (λc=>f c d n m b λc' d n m b=>ir d n m b λr' d n m b=>k (.nd l' (some c') r') d n m b) x) l
def agZ{R:Type}(src:Tr cO)(fz:Bool)(f:CV->Tr cO->Nat->Tr Nat->Tr Nat->Rg R CV->Option R)(j:Nat):Tr cO->Nat->Tr Nat->Tr Nat->Rg R Nat->Option R:=λd n m b k=>
 Option.rec (motive:=λ_=>Option R) (blC src j λcs N e wr=>snT f cs d n m b λcs' d n m b=>bB (m.get j).isNone (Tr.new (some (.ce cs' N e (bB fz false wr))) 64 d n λd'=>Tr.new (some n) 64 m j λm'=>Tr.new (some j) 64 b n λb'=>kN (Nat.succ n) λn'=>k n d' n' m' b') none) (λi=>k i d n m b) (m.get j)
def snC{R:Type}(src:Tr cO)(fz:Bool)(N:Nat):CV->Tr cO->Nat->Tr Nat->Tr Nat->Rg R CV->Option R:=Nat.rec (motive:=λ_=>CV->Tr cO->Nat->Tr Nat->Tr Nat->Rg R CV->Option R) (λ_ _ _ _ _ _=>none)
 (λ_ ih c d n m b k=>match c with
  |.v (.int kd z)=>kI z λz=>k (.v (.int kd z)) d n m b
  |.v x=>k (.v x) d n m b
  |.gl g o=>k (.gl g o) d n m b
  |.pt j o=>agZ src fz ih j d n m b λi d n m b=>kN o λo=>k (.pt i o) d n m b
  |.sl j o q c=>agZ src fz ih j d n m b λi d n m b=>kN o λo=>kN q λq=>Option.rec (motive:=λ_=>Option R) (k (.sl i o q none) d n m b) (λc=>kN c λc=>k (.sl i o q (some c)) d n m b) c
  |.ag cs=>snL ih cs d n m b λcs' d n m b=>k (.ag cs') d n m b
  |.tu cs=>snL ih cs d n m b λcs' d n m b=>k (.tu cs') d n m b
  |.cl fn fs cs=>snL ih fs d n m b λfs' d n m b=>snL ih cs d n m b λcs' d n m b=>k (.cl fn fs' cs') d n m b
  |.mp _=>none) N
structure OP where
 fs:List Func
 may:Nat
 pic:Nat
 idle:Nat
abbrev Mem:=FuncId->List CV->Tr cO->Nat->Option (CV×Tr cO×Nat)
def OQ{R:Type}(T:TypeId->bj)(E:OP)(N:Nat)(call:KC R):KC R:=λf cs h n k=>bB (Nat.testBit E.may f) (oB (atL E.fs f) λfn=>oB fn.body λc=>anb cs 0 (Tr.fill (.v undef) 64 fn.ntmps) λt=>
 let fin:KK R:=λt' h' n'=>akc T h' t' fn.results.toList λrs=>k (YQ rs) h' n'
 OO T (λf=>Nat.testBit E.idle f) call N c fin (λ_ _ _ _=>none) fin t h n) none
def akd{R:Type}(M:Mem)(call:KC (CV×Tr cO×Nat)):KC R:=λf cs h n k=>snL (snC h true 64) cs .lf 0 .lf .lf λcs' hs m mp bk=>oB (Option.rec (motive:=λ_=>Option (CV×Tr cO×Nat)) (call f cs' hs m λr h' n'=>some (r,h',n')) (λx=>some x) (M f cs' hs m)) λp=>snC p.2.1 false 64 p.1 h n bk .lf λr h' n' _ _=>k r h' n'
def gC(T:TypeId->bj)(E:OP)(M:Mem)(N:Nat):{R:Type}->KC R:=Nat.rec (motive:=λ_=>{R:Type}->KC R) (λ_ _ _ _ _=>none)
 (λN ih {R} f cs h n k=>bB (Nat.testBit E.pic f) (akd M (OQ T E N ih) f cs h n k) (OQ T E N ih f cs h n k)) N
end
variable{M:Array Operand}
section
open Go Go.RowKit MapKept
section
variable{P:Program}{Dk:Deferred->Prop}{w0:World}{T:TypeId->bj}
def FC(P:Program)(w0:World)(f:FuncId)(cs:List CV)(h:Tr cO)(n:Nat)(c:CV)(h':Tr cO)(n':Nat):Prop:=
 Enters P f/\∀ρ w vs,HR P w0 ρ h.get n w->LR (KR ρ) cs vs->Calls P f vs.toArray w λe w'=>∃v ρ',e=.returned v/\KP P w0 ρ h.get n w ρ' h'.get n' w'/\KR ρ' c v
def gu(P:Program)(w0:World){R:Type}(call:KC R):Prop:=∀f cs h n k r,call f cs h n k=some r->∃c h' n',FC P w0 f cs h n c h' n'/\k c h' n'=some r
def jE(Dk:Deferred->Prop)(ID:FuncId->Bool):Prop:=∀f,ID f=true->∀cap,Dk {target:=.fn (.func f) cap,args:= #[]}
section
variable{t:Tr CV}{h:Tr cO}{n:Nat}{d:Option Tmp}{ty t1 t2:TypeId}{pos:String}{af:Array Edge}{gd:Option (Nat×Bool)}{x y z:Operand}{R:Type}{r:R}
def YR{x:Operand}{f:FuncId}{args:Array Operand}{e:Array TypeId}{a xs:List Value}(h:Enters P f)(c:H.eval x=.func (.func f) a.toArray xs.toArray):
 (execOp H.eval ⟨d,.call ⟨.value x,args,e⟩,ty,pos,af,gd⟩).run P m=.ok (.enter f (a++args.toList.map H.eval++xs).toArray) m:=by
 have:=gh h (a.toArray++args.map H.eval++xs.toArray) m;have b:(a++args.toList.map H.eval++xs).toArray=a.toArray++args.map H.eval++xs.toArray:=by
  rw[<-atD];simp
 rw[b];simpa[execOp,resolve,c,Deferred.ofValue,invoke]using this
def aep{k:FuncId->List CV->List CV->Option R}(a:clK A k=some r):∃f c e,(∀ρ v,KR ρ A v->∃u y,v=.func (.func f) u.toArray y.toArray/\LR (KR ρ) c u/\LR (KR ρ) e y)/\k f c e=some r:=by
 unfold clK at a;split at a
 ·refine⟨_,[],[],λρ v b=>⟨[],[],?_,LR.nil,LR.nil⟩,a⟩
  rw[b.bE]
 ·refine⟨_,_,_,λρ v b=>?_,a⟩
  cases b with
  |cl u y j l g i=>exact⟨u,y,rfl,⟨j,g⟩,⟨l,i⟩⟩
 ·cases a
def FK.anc{call:KC R}(p:gu P w0 call){O:Array TypeId}{k:CV->Tr cO->Nat->Option R}(C:(dM t x λf=>pU t M.toList λcs=>clK f λg m xs=>call g (m++cs++xs) h n k)=some r):
 ∃c b i,FK P Dk w0 ⟨d,.call ⟨.value x,M,O⟩,ty,pos,af,gd⟩ t h n c b i/\k c b i=some r:=by
 obtain⟨V,A,D⟩:=bV C;obtain⟨cs,s,E⟩:=Cz D;obtain⟨f,m,xs,q,F⟩:=aep E;obtain⟨c,b,i,⟨j,B⟩,G⟩:=p _ _ _ _ _ _ F;refine⟨c,b,i,λρ a w l J next Q I=>?_,G⟩;obtain⟨u,y,e,L,N⟩:=q ρ _ (A ρ a l);unfold Oper.wp;rw[YR j e];exact(B ρ w _ J ((L.append (s ρ a l)).append N)).mono λe S ⟨v,U,j,H,K⟩=>by
  subst j;exact I v S [] ⟨U,H,K⟩ (by simp)
def FK.ake{ID:FuncId->Bool}(l:jE Dk ID){c:Call}{k:CV->Tr cO->Nat->Option R}(B:Fi ID c t h n k=some r):∃v b i,FK P Dk w0 ⟨d,.defer c,ty,pos,af,gd⟩ t h n v b i/\k v b i=some r:=by
 obtain⟨j,args,N⟩:=c;obtain⟨m,g⟩:=bd B;cases j with
 |value x=>
  obtain⟨O,A,C⟩:=bV g;obtain⟨f,U,V,q,D⟩:=aep C;obtain⟨hid,E⟩:=bd D;obtain⟨L,F⟩:=bd E;refine⟨_,h,n,λρ a w J I next Q G=>?_,F⟩;obtain⟨u,y,e,M,S⟩:=q ρ _ (A ρ a J);have K:u=[]:=arh (by rw[M.1];simpa using L);subst K;have p:args= #[]:=by simpa using m
  subst p;have H:(execOp a.eval ⟨d,.defer ⟨.value x, #[],N⟩,ty,pos,af,gd⟩).run P w=.ok (.defer {target:=.fn (.func f) y.toArray,args:= #[]}) w:=by
   simp[execOp,resolve,e,Deferred.ofValue]
  unfold Oper.wp;rw[H];exact G undef w [_] ⟨ρ,.refl I,.v⟩ (λd s=>by rw[aqB.1 s];exact l f hid _)
 |_=>cases g
def JX{l:List Operand}{k:CV->Option R}(a:FT t l k=some r):∃x c,l=[x]/\jL t x c/\k c=some r:=by
 unfold FT at a;split at a
 ·obtain⟨c,b,e⟩:=bV a
  exact⟨_,c,rfl,b,e⟩
 ·cases a
def JY{l:List Operand}{k:CV->CV->Option R}(b:FU t l k=some r):∃x y a c,l=[x,y]/\jL t x a/\jL t y c/\k a c=some r:=by
 unfold FU at b;split at b
 ·obtain⟨a,e,g⟩:=bV b
  obtain⟨c,f,i⟩:=bV g;exact⟨_,_,a,c,rfl,e,f,i⟩
 ·cases b
def ag0{a:Array u}{x:u}(h:a.toList=[x]):a= #[x]:=by rw[<-atD];exact h
def ag1{a:Array u}{x y:u}(h:a.toList=[x,y]):a= #[x,y]:=by rw[<-atD];exact h
def ji(P:Program)(Dk:Deferred->Prop)(w0:World)(o:Oper)(t:Tr CV)(h:Tr cO)(n:Nat)(c:CV)(h':Tr cO)(n':Nat):Prop:=match eN o.op with
 |0=>∃cf nb,c=cf n/\n'=yM n nb/\(∀j,h'.get j=tR h.get n nb j)/\ZK P Dk w0 o t cf nb
 |1=>h'=h/\n'=n/\PK P w0 o t h c
 |_=>FK P Dk w0 o t h n c h' n'
def ji.fk{o:Oper}{c:CV}{f:Tr cO}{g:Nat}(b:ji P Dk w0 o t h n c f g):FK P Dk w0 o t h n c f g:=by
 unfold ji at b;split at b
 ·obtain⟨u,s,rfl,rfl,i,q⟩:=b
  intro ρ a w p m;have:=q ρ a w h.get n p m;have e:tR h.get n s=f.get:=funext λj=>(i j).symm;rw[e]at this;exact this
 ·obtain⟨rfl,rfl,l⟩:=b
  exact l.fk
 ·exact b
section
variable{o:Oper}{k:CV->Tr cO->Nat->Option R}
def ji.q(i:eN o.op=0)(e:∃c,QK P o t c/\k c h n=some r):∃c a b,ji P Dk w0 o t h n c a b/\k c a b=some r:=by
 obtain⟨c,f,g⟩:=e;refine⟨c,h,n,?_,g⟩;unfold ji;rw[i];exact⟨λ_=>c,none,rfl,rfl,λ_=>rfl,f.z⟩
def ji.p(i:eN o.op=1)(e:∃c,PK P w0 o t h c/\k c h n=some r):∃c a b,ji P Dk w0 o t h n c a b/\k c a b=some r:=by
 obtain⟨c,f,g⟩:=e;refine⟨c,h,n,?_,g⟩;unfold ji;rw[i];exact⟨rfl,rfl,f⟩
def ji.zz(p:eN o.op=0)(g:∃e b a,ZK P Dk w0 o t e b/\(∀j,a.get j=tR h.get n b j)/\k (e n) a (yM n b)=some r):∃c a f,ji P Dk w0 o t h n c a f/\k c a f=some r:=by
 obtain⟨e,b,a,i,l,m⟩:=g;refine⟨_,a,_,?_,m⟩;unfold ji;rw[p];exact⟨e,b,rfl,rfl,l,i⟩
def ji.f(i:eN o.op=2)(e:∃c a b,FK P Dk w0 o t h n c a b/\k c a b=some r):∃c a b,ji P Dk w0 o t h n c a b/\k c a b=some r:=by
 obtain⟨c,a,b,f,g⟩:=e;refine⟨c,a,b,?_,g⟩;unfold ji;rw[i];exact f
end
def ji.builtin(m:f_ P T){b:Builtin}{p:Array TypeId}{k:CV->Tr cO->Nat->Option R}(g:mr T b M.toList p.toList t h n k=some r):∃c q s,ji P Dk w0 ⟨d,.call ⟨.builtin b,M,p⟩,ty,pos,af,gd⟩ t h n c q s/\k c q s=some r:=by
 cases b with
 |len=>
  obtain⟨x,c,e,i,j⟩:=JX g;obtain rfl:=ag0 e;exact ji.p rfl (FK.len (f:=λc=>k c h n) m i j)
 |cap=>
  obtain⟨x,c,e,i,j⟩:=JX g;obtain rfl:=ag0 e;exact ji.q rfl (FK.cap (f:=λc=>k c h n) m i j)
 |append=>
  unfold mr at g;simp only at g;split at g
  ·rename_i e0
   obtain⟨x,y,a,c,e,l,i,j⟩:=JY g;obtain rfl:=ag1 e;obtain rfl:=ag1 e0;exact ji.f rfl (FK.append m l i j)
  ·cases g
 |min=>
  obtain⟨x,y,a,c,e,l,i,j⟩:=JY g;obtain rfl:=ag1 e;exact ji.q rfl (FK.aec (b:=.min) (ts:=p) (f:=λc=>k c h n) l i j)
 |max=>
  obtain⟨x,y,a,c,e,l,i,j⟩:=JY g;obtain rfl:=ag1 e;exact ji.q rfl (FK.aec (b:=.max) (ts:=p) (f:=λc=>k c h n) l i j)
 |clear=>
  unfold mr at g;simp only at g;split at g
  ·rename_i e0
   obtain⟨x,c,e,i,j⟩:=JX g;obtain rfl:=ag0 e;obtain rfl:=ag0 e0;exact ji.f rfl (FK.clear m i j)
  ·cases g
 |_=>cases g
variable{ID:FuncId->Bool}{call:KC R}
def aeq(v:f_ P T)(S:∀b o u,GT b o u->w0.cell? ⟨b,o,none⟩=some u)(U:jE Dk ID)(E:gu P w0 call){o:Op}{k:CV->Tr cO->Nat->Option R}(m:opK T ID call o t h n k=some r):
 ∃c M O,ji P Dk w0 ⟨d,o,ty,pos,af,gd⟩ t h n c M O/\k c M O=some r:=by
 cases o with
 |move x=>
  obtain⟨c,K,g⟩:=bV m;exact ji.q rfl ⟨c,FK.ev (.inl rfl) K,g⟩
 |assign x=>
  obtain⟨c,K,g⟩:=bV m;exact ji.q rfl ⟨c,FK.ev (.inr rfl) K,g⟩
 |pick z x y=>
  obtain⟨A,l,g⟩:=bV m;obtain⟨B,s,p⟩:=bV g;obtain⟨I,D,C⟩:=bV p;exact ji.q rfl (FK.pick (k:=λc=>k c h n) l s D C)
 |alloc t1=>exact ji.zz rfl (FK.alloc v m)
 |box t1 x=>
  obtain⟨A,l,g⟩:=bV m;exact ji.zz rfl (FK.box l g)
 |build t1 a0=>exact ji.q rfl (FK.build (k:=λc=>k c h n) v m)
 |buildSlice t1 a2 a0=>exact ji.zz rfl (FK.buildSlice v m)
 |insert t1 x y z=>
  obtain⟨A,l,g⟩:=bV m;obtain⟨B,s,p⟩:=bV g;obtain⟨I,D,C⟩:=bV p;exact ji.f rfl (FK.aek v (.inr rfl) l s D C)
 |load t1 x=>
  obtain⟨A,l,g⟩:=bV m;exact ji.p rfl (FK.load (k:=λc=>k c h n) v S l g)
 |store t1 x y=>
  obtain⟨A,l,g⟩:=bV m;obtain⟨B,s,p⟩:=bV g;exact ji.f rfl (FK.store v l s p)
 |nilCheck x=>
  obtain⟨A,l,g⟩:=bV m;obtain⟨s,p⟩:=bd g;exact ji.q rfl ⟨A,FK.nilCheck l s,p⟩
 |binOp op t1 x y t2=>
  obtain⟨A,l,g⟩:=bV m;obtain⟨B,s,p⟩:=bV g;exact ji.q rfl (FK.aeb (f:=λc=>k c h n) v l s p)
 |unOp op t1 x=>
  obtain⟨A,l,g⟩:=bV m;exact ji.q rfl (FK.un (f:=λc=>k c h n) l g)
 |convert t1 t2 x=>
  obtain⟨A,l,g⟩:=bV m;exact ji.q rfl (FK.conv (f:=λc=>k c h n) v l g)
 |makeFunc fn F cs=>exact ji.q rfl (FK.makeFunc (k:=λc=>k c h n) m)
 |makeMap t1 r0=>
  obtain⟨l,g⟩:=bd m;cases r0 with
  |none=>exact ji.zz rfl (FK.makeMap v g)
  |some _=>cases l
 |makeSlice t1 x y=>
  obtain⟨A,l,g⟩:=bV m;obtain⟨B,s,p⟩:=bV g;exact ji.zz rfl (FK.makeSlice v l s p)
 |slice t1 x lo N mx=>
  obtain⟨A,l,g⟩:=bV m;exact ji.q rfl (FK.slice (k:=λc=>k c h n) v l g)
 |fieldAddr t1 x f=>
  obtain⟨A,l,g⟩:=bV m;exact ji.q rfl (FK.fieldAddr (k:=λc=>k c h n) v l g)
 |field t1 x f=>
  obtain⟨A,l,g⟩:=bV m;exact ji.q rfl (FK.field (k:=λc=>k c h n) v l g)
 |indexAddr t1 x y=>
  obtain⟨A,l,g⟩:=bV m;obtain⟨B,s,p⟩:=bV g;exact ji.q rfl (FK.indexAddr (k:=λc=>k c h n) v l s p)
 |index t1 x y=>
  obtain⟨A,l,g⟩:=bV m;obtain⟨B,s,p⟩:=bV g;exact ji.q rfl (FK.C4 (k:=λc=>k c h n) v l s p)
 |lookup t1 x y Z=>
  obtain⟨A,l,g⟩:=bV m;obtain⟨B,s,p⟩:=bV g;exact ji.p rfl (FK.lookup (k:=λc=>k c h n) v l s p)
 |mapUpdate t1 x y z=>
  obtain⟨A,l,g⟩:=bV m;obtain⟨B,s,p⟩:=bV g;obtain⟨I,D,C⟩:=bV p;exact ji.f rfl (FK.aek v (.inl rfl) l s D C)
 |mapEntry t1 x y=>
  obtain⟨A,l,g⟩:=bV m;obtain⟨B,s,p⟩:=bV g;exact ji.f rfl (FK.mapEntry v l s p)
 |entryStore t1 x y z=>
  obtain⟨A,l,g⟩:=bV m;obtain⟨B,s,p⟩:=bV g;obtain⟨I,D,C⟩:=bV p;exact ji.f rfl (FK.entryStore v l s D C)
 |typeAssert x t1 t2 Z=>
  obtain⟨A,l,g⟩:=bV m;split at g
  ·obtain⟨V,p⟩:=bd g
   subst V;obtain⟨q,W,p⟩:=bu p;have J:∃F,P.underlying t2=some (.struct F):=by
    have G:=v.fd _ _ _ W;unfold YV at G;split at G
    ·rename_i F l
     exact⟨F,l⟩
    ·cases G
   obtain⟨F,J⟩:=J;obtain⟨z,L,C⟩:=bu p;have L:=v.zv _ _ L;refine ji.f rfl ⟨_,h,n,FK.pure λρ a w G hs=>?_,C⟩;obtain⟨i,N,Y⟩:=asx.1 L;have X:∀w,(zeroValue t2).run P w=.ok z w:=λw=>by simp[zeroValue,typeInfo,N,Y]
   refine⟨.tuple #[z,.bool false],?_,?_⟩
   ·have e:=(l ρ a G).bE
    simp[execOp,e,Instr.typeAssert,aqF J,X]
   ·exact .tu [z,.bool false] rfl λj c u E H=>by
     match j with
     |0=>simp at E H;subst E;subst H;exact Fa z
     |1=>simp at E H;subst E;subst H;exact .v
     |j+2=>simp at E
  ·cases g
 |extract x i=>
  obtain⟨A,l,g⟩:=bV m;exact ji.q rfl (FK.extract (k:=λc=>k c h n) l g)
 |call c=>
  obtain⟨Q,a1,ts⟩:=c;cases Q with
  |value x=>exact ji.f rfl (FK.anc E m)
  |builtin b=>exact ji.builtin v m
  |invoke _ _=>cases m
 |defer c=>exact ji.f rfl (FK.ake U m)
 |_=>cases m
end
end
end
variable{d:CV}{b:List Oper}{v:Oper}{Q:TypeId}
section
open Go Go.RowKit MapKept
section
variable{P:Program}{Dk:Deferred->Prop}{w0:World}{T:TypeId->bj}
def Df(Dk:Deferred->Prop)(a a':Act):Prop:=∃D,(∀d∈D,Dk d)/\a'.defers=D++a.defers
def Df.refl(a:Act):Df Dk a a:=⟨[],by simp,rfl⟩
def Df.trans{a b c:Act}(h:Df Dk a b)(k:Df Dk b c):Df Dk a c:=by
 obtain⟨D,f,g⟩:=h;obtain⟨e,j,l⟩:=k;exact⟨e++D,λd i=>(aqp.1 i).elim (j d) (f d),by rw[l,g,aqJ]⟩
section
variable{t t':Tr CV}{h h':Tr cO}{n n':Nat}{R:Type}{r:R}
def BD(d:Option Tmp)(c:CV)(t t':Tr CV):Prop:=(d=none->t'=t)/\∀i,d=some i->(∃x,t.get i=some x)/\oD (some c) i t t'
def Wf{a:Option Tmp}{k:Tr CV->Option R}(b:aj_ a d t k=some r):∃t',BD a d t t'/\k t'=some r:=by
 cases a with
 |none=>exact⟨t,⟨λ_=>rfl,λi e=>(by cases e)⟩,b⟩
 |some i=>
  obtain⟨t',c,f,g⟩:=Tr.mo b;exact⟨t',⟨λe=>(by cases e),λj e=>(by cases e;exact⟨f,g⟩)⟩,c⟩
def BD.tr{a:Option Tmp}(k:BD a d t t')(g:mD j t H)(w:KR j d i){D:List Deferred}:mD j t' (({H with defers:=D}:Act).put a i):=by
 cases a with
 |none=>rw[k.1 rfl];exact g
 |some b=>
  obtain⟨⟨x,y⟩,q⟩:=k.2 b rfl;obtain⟨u,v,_⟩:=g b x y;have s:=(aqU.1 v).1;intro c l f;rw[q c]at f;by_cases e:c=b
  ·subst e
   rw[aqd rfl]at f;cases f;exact⟨i,by simp[Act.put,s],w⟩
  ·rw[aqc e]at f
   obtain⟨z,o,p⟩:=g c l f;exact⟨z,by simp only[Act.put];rw[atC (λm=>e m.symm)];exact o,p⟩
def aer:Value->Option Bool
 |.bool b=>some b
 |_=>none
def Rh{b:Array Oper}(c:(b[a]?).bind (·.dst)=some e)(h:B[e]? =some i):yielded b B a=aer i:=by
 unfold yielded;rw[c,auB,h];cases i<;>rfl
def Bi(ops:List Oper)(g:Option (Nat×Bool))(t:Tr CV)(b:Bool):Prop:=∀ρ a,mD ρ t a->∀o:Oper,o.guard=g->Region.wanted o (yielded ops.toArray a.tmps)=b
def OS{g:Option (Nat×Bool)}{y z:Option R}(w:HU b g t y z=some r):(y=some r/\Bi b g t true)\/(z=some r/\Bi b g t false):=by
 cases g with
 |none=>exact .inl ⟨w,λρ a i o f=>by simp[Region.wanted,f]⟩
 |some p=>
  obtain⟨j,l⟩:=p;obtain⟨s,F,E⟩:=bu w;obtain⟨c,C,k⟩:=bu E;have q:∀{v:Value},c=.v v->∀ρ a,mD ρ t a->∀o:Oper,o.guard=some (j,l)->Region.wanted o (yielded b.toArray a.tmps)=(aer v==some l):=λ{v} e ρ a i o f=>by
   subst e;obtain⟨u,A,B⟩:=i s _ C;obtain rfl:=B.bE;have D:((b.toArray)[j]?).bind (·.dst)=some s:=by simpa[oE]using F
   simp only[Region.wanted,f,Rh D A]
  split at k
  ·rename_i d
   rcases dt k with⟨e,m⟩|⟨e,m⟩
   ·refine .inl ⟨m,λρ a i o f=>?_⟩
    rw[q rfl ρ a i o f];cases d<;>cases l<;>first|rfl|(cases e)
   ·refine .inr ⟨m,λρ a i o f=>?_⟩
    rw[q rfl ρ a i o f];cases d<;>cases l<;>first|rfl|(cases e)
  ·exact .inr ⟨k,λρ a i o f=>by rw[q rfl ρ a i o f];rfl⟩
  ·cases k
def Tr.res{α:Type}:Tr α->(Nat->Bool)->Tr α
 |.lf,_=>.lf
 |.nd l x rr,p=>.nd (Tr.res l λi=>p (2*i+1)) (if p 0 then x else none) (Tr.res rr λi=>p (2*i+2))
def Tr.mX{α:Type}:∀(t:Tr α) (p:Nat->Bool) (i:Nat),(t.res p).get i=if p i then t.get i else none
 |.lf,p,i=>by simp[Tr.res,Tr.Q3]
 |.nd l x c,p,i=>by
  rw[Tr.res,Tr.iF,Tr.iF];by_cases b:i=0
  ·subst b;simp
  ·rw[aqc b,aqc b]
   by_cases a:i % 2=1
   ·rw[aqd a,aqd a,Tr.mX l,show 2*(i/2)+1=i by omega]
   ·rw[aqc a,aqc a,Tr.mX c,show 2*(i/2 - 1)+2=i by omega]
def BE(t t':Tr CV)(x:Operand):Prop:=∀i,x=.tmp i->t.get i=t'.get i
section
variable{x:Operand}{xs:List Operand}
def bp(h:BE t t' x)(k:CV->Option R):dM t x k=dM t' x k:=by
 cases x with
 |tmp i=>show oB (t.get i) k=oB (t'.get i) k;rw[h i rfl]
 |_=>rfl
def tK:∀{xs:List Operand} (h:∀x∈xs,BE t t' x) (k:List CV->Option R),pU t xs k=pU t' xs k
 |[],_,k=>rfl
 |x::xs,h,k=>by
  show dM t x (λc=>pU t xs λa=>k (c::a))=dM t' x (λc=>pU t' xs λa=>k (c::a));rw[bp (h x (by simp))];congr 1;funext c;exact tK (λy b=>h y (by simp[b])) _
def sC:∀{a:List (Nat×Operand)} (h:∀p∈a,BE t t' p.2) (k:List (Nat×List CV)->Option R),ke t a k=ke t' a k
 |[],_,k=>rfl
 |(i,x)::a,h,k=>by
  show dM t x (λc=>sA c λl=>ke t a λb=>k ((i,l)::b))=dM t' x (λc=>sA c λl=>ke t' a λb=>k ((i,l)::b));rw[bp (h (i,x) (by simp))];congr 1;funext c;congr 1;funext l;exact sC (λy d=>h y (by simp[d])) _
def z_(h:∀x∈K.toList,BE t t' x)(d:Nat)(k:Nat->Option R):tU t K d k=tU t' K d k:=by
 cases K with
 |none=>rfl
 |some x=>exact bp (h x (by simp)) _
def OT{T:TypeId->bj}{e c b:Option Operand}(o:∀x∈e.toList,BE t t' x)(p:∀x∈c.toList,BE t t' x)(g:∀x∈b.toList,BE t t' x)(k:CV->Option R):sB T t Q d e c b k=sB T t' Q d e c b k:=by
 have i:∀(a:Nat) (k:Nat->Option R),tU t e a k=tU t' e a k:=z_ o;have j:∀(a:Nat) (k:Nat->Option R),tU t c a k=tU t' c a k:=z_ p;have l:∀(a:Nat) (k:Nat->Option R),tU t b a k=tU t' b a k:=z_ g;unfold sB;simp only[i,j,l];cases b with
 |none=>rfl
 |some f=>
  have m:∀(k:CV->Option R),dM t f k=dM t' f k:=bp (g f (by simp));simp only[m]
def YS(h:∀x∈xs,BE t t' x)(k:CV->Option R):FT t xs k=FT t' xs k:=by
 unfold FT;split
 ·exact bp (h _ (by simp)) _
 ·rfl
def YT(h:∀x∈xs,BE t t' x)(k:CV->CV->Option R):FU t xs k=FU t' xs k:=by
 unfold FU;split
 ·rw[bp (h _ (by simp))]
  congr 1;funext c;exact bp (h _ (by simp)) _
 ·rfl
end
def OU{T:TypeId->bj}{ID:FuncId->Bool}{call:KC R}{o:Op}(h:∀x∈o.operands.toList,BE t t' x)(e:Tr cO)(j:Nat)(k:CV->Tr cO->Nat->Option R):opK T ID call o t e j k=opK T ID call o t' e j k:=by
 cases o with
 |move x=>
  have e0:∀k:CV->Option R,dM t x k=dM t' x k:=bp (h x (by simp[Op.operands]));show Bh x t e j k=Bh x t' e j k;simp only[Bh,e0]
 |assign x=>
  have e0:∀k:CV->Option R,dM t x k=dM t' x k:=bp (h x (by simp[Op.operands]));show Bh x t e j k=Bh x t' e j k;simp only[Bh,e0]
 |pick z x y=>
  have e0:∀k:CV->Option R,dM t z k=dM t' z k:=bp (h z (by simp[Op.operands]));have l:∀k:CV->Option R,dM t x k=dM t' x k:=bp (h x (by simp[Op.operands]));have q:∀k:CV->Option R,dM t y k=dM t' y k:=bp (h y (by simp[Op.operands]));show V8 z x y t e j k=V8 z x y t' e j k;simp only[V8,e0,l,q]
 |alloc d=>rfl
 |box d x=>
  have e0:∀k:CV->Option R,dM t x k=dM t' x k:=bp (h x (by simp[Op.operands]));show agT d x t e j k=agT d x t' e j k;simp only[agT,e0]
 |build d s=>
  have e0:∀k:List (Nat×List CV)->Option R,ke t s.toList k=ke t' s.toList k:=sC λp J=>h p.2 (by simp only[Op.operands];exact aqq.2 ⟨p,J,rfl⟩);show JT T d s t e j k=JT T d s t' e j k;simp only[JT,e0]
 |buildSlice d M s=>
  have e0:∀k:List (Nat×List CV)->Option R,ke t s.toList k=ke t' s.toList k:=sC λp J=>h p.2 (by simp only[Op.operands];exact aqq.2 ⟨p,J,rfl⟩);show mW T d M s t e j k=mW T d M s t' e j k;simp only[mW,e0]
 |insert d x y z=>
  have e0:∀k:CV->Option R,dM t x k=dM t' x k:=bp (h x (by simp[Op.operands]));have l:∀k:CV->Option R,dM t y k=dM t' y k:=bp (h y (by simp[Op.operands]));have q:∀k:CV->Option R,dM t z k=dM t' z k:=bp (h z (by simp[Op.operands]));show ON T d x y z t e j k=ON T d x y z t' e j k;simp only[ON,e0,l,q]
 |load d x=>
  have e0:∀k:CV->Option R,dM t x k=dM t' x k:=bp (h x (by simp[Op.operands]));show V9 T d x t e j k=V9 T d x t' e j k;simp only[V9,e0]
 |store d x y=>
  have e0:∀k:CV->Option R,dM t x k=dM t' x k:=bp (h x (by simp[Op.operands]));have l:∀k:CV->Option R,dM t y k=dM t' y k:=bp (h y (by simp[Op.operands]));show JU T d x y t e j k=JU T d x y t' e j k;simp only[JU,e0,l]
 |nilCheck x=>
  have e0:∀k:CV->Option R,dM t x k=dM t' x k:=bp (h x (by simp[Op.operands]));show agU x t e j k=agU x t' e j k;simp only[agU,e0]
 |binOp B d x y v=>
  have e0:∀k:CV->Option R,dM t x k=dM t' x k:=bp (h x (by simp[Op.operands]));have l:∀k:CV->Option R,dM t y k=dM t' y k:=bp (h y (by simp[Op.operands]));show agV T B d x y t e j k=agV T B d x y t' e j k;simp only[agV,e0,l]
 |unOp B d x=>
  have e0:∀k:CV->Option R,dM t x k=dM t' x k:=bp (h x (by simp[Op.operands]));show oUn B d x t e j k=oUn B d x t' e j k;simp only[oUn,e0]
 |convert d v x=>
  have e0:∀k:CV->Option R,dM t x k=dM t' x k:=bp (h x (by simp[Op.operands]));show V_ T d v x t e j k=V_ T d v x t' e j k;simp only[V_,e0]
 |makeFunc L D cs=>
  have e0:∀k:List CV->Option R,pU t D.toList k=pU t' D.toList k:=tK λx w=>h x (by simp only[Op.operands,ass,aqp];exact .inl w);have l:∀k:List CV->Option R,pU t cs.toList k=pU t' cs.toList k:=tK λx w=>h x (by simp only[Op.operands,ass,aqp];exact .inr w);show Wa L D cs t e j k=Wa L D cs t' e j k;simp only[Wa,e0,l]
 |makeMap d r=>rfl
 |makeSlice d x y=>
  have e0:∀k:CV->Option R,dM t x k=dM t' x k:=bp (h x (by simp[Op.operands]));have l:∀k:CV->Option R,dM t y k=dM t' y k:=bp (h y (by simp[Op.operands]));show Wb T d x y t e j k=Wb T d x y t' e j k;simp only[Wb,e0,l]
 |slice d x F E G=>
  have e0:∀k:CV->Option R,dM t x k=dM t' x k:=bp (h x (by simp[Op.operands]));have l:∀(a:CV) (k:CV->Option R),sB T t d a F E G k=sB T t' d a F E G k:=λa k=>OT (λy u=>h y (by simp[Op.operands]at u⊢;exact .inr (.inl u))) (λy u=>h y (by simp[Op.operands]at u⊢;exact .inr (.inr (.inl u)))) (λy u=>h y (by simp[Op.operands]at u⊢;exact .inr (.inr (.inr u)))) k;show JV T d x F E G t e j k=JV T d x F E G t' e j k;simp only[JV,e0,l]
 |fieldAddr d x f=>
  have e0:∀k:CV->Option R,dM t x k=dM t' x k:=bp (h x (by simp[Op.operands]));show oFA T d x f t e j k=oFA T d x f t' e j k;simp only[oFA,e0]
 |field d x f=>
  have e0:∀k:CV->Option R,dM t x k=dM t' x k:=bp (h x (by simp[Op.operands]));show oF T d x f t e j k=oF T d x f t' e j k;simp only[oF,e0]
 |indexAddr d x y=>
  have e0:∀k:CV->Option R,dM t x k=dM t' x k:=bp (h x (by simp[Op.operands]));have l:∀k:CV->Option R,dM t y k=dM t' y k:=bp (h y (by simp[Op.operands]));show oIA T d x y t e j k=oIA T d x y t' e j k;simp only[oIA,e0,l]
 |index d x y=>
  have e0:∀k:CV->Option R,dM t x k=dM t' x k:=bp (h x (by simp[Op.operands]));have l:∀k:CV->Option R,dM t y k=dM t' y k:=bp (h y (by simp[Op.operands]));show oI T d x y t e j k=oI T d x y t' e j k;simp only[oI,e0,l]
 |lookup d x y A=>
  have e0:∀k:CV->Option R,dM t x k=dM t' x k:=bp (h x (by simp[Op.operands]));have l:∀k:CV->Option R,dM t y k=dM t' y k:=bp (h y (by simp[Op.operands]));show Wc T d x y A t e j k=Wc T d x y A t' e j k;simp only[Wc,e0,l]
 |mapUpdate d x y z=>
  have e0:∀k:CV->Option R,dM t x k=dM t' x k:=bp (h x (by simp[Op.operands]));have l:∀k:CV->Option R,dM t y k=dM t' y k:=bp (h y (by simp[Op.operands]));have q:∀k:CV->Option R,dM t z k=dM t' z k:=bp (h z (by simp[Op.operands]));show ON T d x y z t e j k=ON T d x y z t' e j k;simp only[ON,e0,l,q]
 |mapEntry d x y=>
  have e0:∀k:CV->Option R,dM t x k=dM t' x k:=bp (h x (by simp[Op.operands]));have l:∀k:CV->Option R,dM t y k=dM t' y k:=bp (h y (by simp[Op.operands]));show JW T d x y t e j k=JW T d x y t' e j k;simp only[JW,e0,l]
 |entryStore d x y z=>
  have e0:∀k:CV->Option R,dM t x k=dM t' x k:=bp (h x (by simp[Op.operands]));have l:∀k:CV->Option R,dM t y k=dM t' y k:=bp (h y (by simp[Op.operands]));have q:∀k:CV->Option R,dM t z k=dM t' z k:=bp (h z (by simp[Op.operands]));show yP T d x y z t e j k=yP T d x y z t' e j k;simp only[yP,e0,l,q]
 |typeAssert x d v A=>
  have e0:∀k:CV->Option R,dM t x k=dM t' x k:=bp (h x (by simp[Op.operands]));show oTA T v x A t e j k=oTA T v x A t' e j k;simp only[oTA,e0]
 |extract x i=>
  have e0:∀k:CV->Option R,dM t x k=dM t' x k:=bp (h x (by simp[Op.operands]));show agW x i t e j k=agW x i t' e j k;simp only[agW,e0]
 |call c=>
  obtain⟨H,m,C⟩:=c;have I:∀x∈m.toList,BE t t' x:=λx w=>h x (by simp only[Op.operands,Call.operands,ass,aqp];exact .inr w);cases H with
  |value x=>
   have e0:∀k:CV->Option R,dM t x k=dM t' x k:=bp (h x (by simp[Op.operands,Call.operands]));have l:∀k:List CV->Option R,pU t m.toList k=pU t' m.toList k:=tK I;show(dM t x λf=>pU t m.toList λcs=>clK f λg K xs=>call g (K++cs++xs) e j k)=(dM t' x λf=>pU t' m.toList λcs=>clK f λg K xs=>call g (K++cs++xs) e j k);simp only[e0,l]
  |builtin b=>
   have l:∀k:CV->Option R,FT t m.toList k=FT t' m.toList k:=YS I;have q:∀k:CV->CV->Option R,FU t m.toList k=FU t' m.toList k:=YT I;show mr T b m.toList C.toList t e j k=mr T b m.toList C.toList t' e j k;unfold mr;cases b<;>simp only[l,q]
  |invoke _ _=>rfl
 |defer c=>
  obtain⟨H,m,C⟩:=c;cases H with
  |value x=>
   have e0:∀k:CV->Option R,dM t x k=dM t' x k:=bp (h x (by simp[Op.operands,Call.operands]));show Fi ID ⟨.value x,m,C⟩ t e j k=Fi ID ⟨.value x,m,C⟩ t' e j k;simp only[Fi,e0]
  |_=>rfl
 |_=>rfl
def Fk{g:Option (Nat×Bool)}{y a:Option R}(h:∀p,g=some p->∀s,oE b p.1=some s->t.get s=t'.get s):HU b g t y a=HU b g t' y a:=by
 cases g with
 |none=>rfl
 |some p=>
  unfold HU;show(oB (oE b p.1) λs=>oB (t.get s) _)=(oB (oE b p.1) λs=>oB (t'.get s) _);cases c:oE b p.1 with
  |none=>rfl
  |some s=>
   show oB (t.get s) _=oB (t'.get s) _;rw[h p rfl s c]
def mE(ops:List Oper)(o:Oper)(x:Nat):Bool:=(tmpsOf o).contains x||(match o.guard with
 |some g=>oE ops g.1==some x
 |none=>false)
def Wg{ops:List Oper}{o:Oper}:∀x∈o.op.operands.toList,BE t (t.res (mE ops o)) x:=λx a i e=>by
 subst e;rw[Tr.mX,aqd];unfold mE;have:(tmpsOf o).contains i=true:=by
  rw[auW];exact at4.2 ⟨_,a,rfl⟩
 rw[this];rfl
def Wh{ops:List Oper}{o:Oper}:∀p,o.guard=some p->∀s,oE ops p.1=some s->t.get s=(t.res (mE ops o)).get s:=λp a s b=>by
 rw[Tr.mX,aqd];unfold mE;rw[a];simp[b]
inductive Ri(P:Program)(Dk:Deferred->Prop)(w0:World)(ops:List Oper)(o:Oper)(t:Tr CV)(h:Tr cO)(n:Nat):Tr CV->Tr cO->Nat->Prop
 |run (c:CV) (h2:Tr cO) (n2:Nat) (t2:Tr CV) (hw:Bi ops o.guard (t.res (mE ops o)) true) (hf:ji P Dk w0 o (t.res (mE ops o)) h n c h2 n2) (hp:BD o.dst c t t2):Ri P Dk w0 ops o t h n t2 h2 n2
 |skip (t2:Tr CV) (hw:Bi ops o.guard (t.res (mE ops o)) false) (hp:BD o.dst (.v undef) t t2):Ri P Dk w0 ops o t h n t2 h n
variable{ID:FuncId->Bool}{call:KC R}
def Fl(q:f_ P T)(o:∀a v u,GT a v u->w0.cell? ⟨a,v,none⟩=some u)(p:jE Dk ID)(s:gu P w0 call){k:KK R}(f:Wd T ID call b v k t h n=some r):
 ∃t' h' n',Ri P Dk w0 b v t h n t' h' n'/\k t' h' n'=some r:=by
 unfold Wd at f;rw[Fk (Wh (ops:=b) (o:=v))]at f;rcases OS f with⟨e,j⟩|⟨e,j⟩
 ·rw[OU (Wg (ops:=b) (o:=v))]at e
  obtain⟨d,B,A,z,l,m⟩:=v;obtain⟨c,h',n',w,y⟩:=aeq (d:=d) (ty:=A) (pos:=z) (af:=l) (gd:=m) q o p s e;obtain⟨t',i,g⟩:=Wf y;exact⟨t',h',n',.run _ _ _ _ j w i,g⟩
 ·obtain⟨t',i,g⟩:=Wf e
  exact⟨t',h,n,.skip _ j i,g⟩
def mD.res(b:mD j t H)(p:Nat->Bool):mD j (t.res p) H:=λi c a=>by
 rw[Tr.mX]at a;split at a
 ·exact b i c a
 ·cases a
def put_defers(a:Act)(d:Option Tmp)(v:Value):(a.put d v).defers=a.defers:=by cases d<;>rfl
def Ri.wp(u:Ri P Dk w0 b v t h n t' h' n')(d:mD j t H)(k:HR P w0 j h.get n m){next:Act->World->Prop}{Q:Exit->Act->World->Prop}
 (p:∀f g e,mD f t' g->KP P w0 j h.get n m f h'.get n' e->Df Dk H g->next g e):if Region.wanted v (yielded b.toArray H.tmps)then v.wp P H m next Q else next (H.put v.dst undef) m:=by
 cases u with
 |run c z A y l s i=>
  rw[l j H (d.res _) v rfl,aqd rfl];refine s.fk j H m (d.res _) k next Q λa e D ⟨f,o,w⟩ q=>?_
  exact p f _ e (i.tr (d.mono (o.le k)) w) o ⟨D,q,by rw[put_defers]⟩
 |skip y l i=>
  rw[l j H (d.res _) v rfl,aqc (by simp)];have:=i.tr (D:=H.defers) d (KR.v (ρ:=j) (x:=undef));exact p j _ m this (.refl k) ⟨[],by simp,by rw[put_defers];rfl⟩
def Wi(z:f_ P T)(v:∀b o u,GT b o u->w0.cell? ⟨b,o,none⟩=some u)(y:jE Dk ID)(A:gu P w0 call){c:List Oper}{k:KK R}:∀(l:List Oper) (i:Nat) {t:Tr CV} {h:Tr cO} {n:Nat},c.drop i=l->YP T ID call c l k t h n=some r->
 ∃t' h' n',k t' h' n'=some r/\∀ρ a w Q,mD ρ t a->HR P w0 ρ h.get n w->(∀f d e,mD f t' d->KP P w0 ρ h.get n w f h'.get n' e->Df Dk a d->Q .normal d e)->wpOps P c.toArray Q (List.range' i l.length) a w
 |[],i,t,h,n,g,j=>⟨t,h,n,j,λρ a w Q q p m=>m ρ a w q (.refl p) (Df.refl a)⟩
 |o::l,i,t,h,n,g,j=>by
  obtain⟨t1,Y,Z,N,H⟩:=Fl z v y A j;have E:c.drop (i+1)=l:=by rw[<-asl,g];rfl
  have K:c[i]? =some o:=by
   have:=aqr (·[0]?) g;simpa using this
  obtain⟨V,D,U,I,M⟩:=Wi z v y A l (i+1) E H;refine⟨V,D,U,I,λρ a w Q q p m=>?_⟩;rw[aqC,auX];unfold wpOps;have L:c.toArray[i]? =some o:=by simpa using K
  simp only[L];have:=N.wp (P:=P) q p (next:=wpOps P c.toArray Q (List.range' (i+1) l.length)) (Q:=Q) λf d e O B F=>M f d e Q O B.hr λX C W S J G=>m X C W S (B.trans J) (F.trans G);split
  ·rename_i s
   rw[aqd s]at this;exact .inl this
  ·rename_i s
   rw[aqc s]at this;exact this
end
end
end
variable{S:Value}
section
open Go Go.RowKit MapKept
section
variable{P:Program}{Dk:Deferred->Prop}{w0:World}
def Nm.cut(ρ:Nm)(n:Nat):Nm:=λk=>if k<n then ρ k else none
section
variable{ρ:Nm}{n m k:Nat}{p:Nat×Nat}
def Nm.iG(h:k<n):Nm.cut ρ n k=ρ k:=aqd h
def Nm.Rj(h:n<=k):Nm.cut ρ n k=none:=aqc (by omega)
def Nm.oG(h:Nm.cut ρ n k=some p):k<n/\ρ k=some p:=by
 by_cases a:k<n
 ·rw[Nm.iG a]at h;exact⟨a,h⟩
 ·rw[Nm.Rj (by omega)]at h;cases h
def Nm.JZ(ρ:Nm)(h:n<=m):zY (Nm.cut ρ n) (Nm.cut ρ m):=λk p b=>by
 obtain⟨c,a⟩:=Nm.oG b;rw[Nm.iG (by omega)];exact a
def Nm.J0(ρ:Nm)(n:Nat):zY (Nm.cut ρ n) ρ:=λk p a=>(Nm.oG a).2
def zY.cut{ρ a:Nm}(h:zY ρ a)(n:Nat):zY (Nm.cut ρ n) (Nm.cut a n):=λk p d=>by
 obtain⟨b,c⟩:=Nm.oG d;rw[Nm.iG b];exact h _ _ c
end
def Bel(n:Nat)(c:CV):Prop:=∀ρ u,KR ρ c u->KR (Nm.cut ρ n) c u
def KR.FF{ρ1:Nm}{n:Nat}(H:∀k,n<=k->ρ1 k=none)(h:KR ρ1 d i):Bel n d:=by
 have s:∀{k p},ρ1 k=some p->k<n:=λ{k p} x=>by
  by_cases h:k<n
  ·exact h
  ·rw[H k (by omega)]at x;cases x
 induction h with
 |v=>intro ρ u a;cases a;exact .v
 |pt h=>intro ρ u a;cases a with|pt f=>exact .pt (by rw[Nm.iG (s h)];exact f)
 |sl h Q K L M=>intro ρ u a;cases a with|sl f G z A B=>exact .sl (by rw[Nm.iG (s h)];exact f) G z A B
 |mp h=>intro ρ u a;cases a with|mp f=>exact .mp (by rw[Nm.iG (s h)];exact f)
 |gl=>intro ρ u a;cases a;exact .gl
 |ag c l t q=>
  intro ρ u a;cases a with
  |ag r o g=>
   refine .ag r o λj d u b a=>?_;have e:j<c.length:=by rw[l];exact(aqh.1 b).1
   exact q j d c[j] b (aqm e) ρ u (g j d u b a)
 |tu c l t q=>
  intro ρ u a;cases a with
  |tu r o g=>
   refine .tu r o λj d u b a=>?_;have e:j<c.length:=by rw[l];exact(aqh.1 b).1
   exact q j d c[j] b (aqm e) ρ u (g j d u b a)
 |cl c y l E t O q I=>
  intro ρ u a;cases a with
  |cl r J o F g D=>
   refine .cl r J o F (λj d u b a=>?_) (λj d u b a=>?_)
   ·have e:j<c.length:=by rw[l];exact(aqh.1 b).1
    exact q j d c[j] b (aqm e) ρ u (g j d u b a)
   ·have e:j<y.length:=by rw[E];exact(aqh.1 b).1
    exact I j d y[j] b (aqm e) ρ u (D j d u b a)
def Fm(P:Program)(n:Nat)(y:cO):Prop:=∀ρ w b m,BR P ρ w b m y->BR P (Nm.cut ρ n) w b m y
def Fm.mono{n m:Nat}(h:n<=m){y:cO}(a:Fm P n y):Fm P m y:=λρ w b q c=>(a ρ w b q c).mono (Nm.JZ ρ h) rfl
def BR.FF{ρ1:Nm}{n:Nat}(s:∀k,n<=k->ρ1 k=none){w1:World}{B Q:Nat}{y:cO}(h:BR P ρ1 w1 B Q y):Fm P n y:=by
 intro ρ w b m o;cases y with
 |ce W N ext wr=>
  obtain⟨t,us,F,G,e,Y⟩:=h;obtain⟨R,S,g,i,a,H⟩:=o;refine⟨R,S,g,i,λj c q=>?_,H⟩;obtain⟨K,u,O,I,M⟩:=a j c q;obtain⟨_,Z,_,J,_⟩:=e j c q;exact⟨K,u,O,J.FF s ρ u I,M⟩
 |ma t X wr=>
  obtain⟨d,z,l,V,F,G,e⟩:=h;obtain⟨E,U,A,D,g,i,a⟩:=o;refine⟨E,U,A,D,g,i,⟨a.len,λj x v f r=>⟨(a.key j x v f r).1,?_⟩,a.isk,a.jN,a.O3,a.clk⟩⟩;have L:j<l.size:=by rw[e.len];exact(aqh.1 f).1
  exact(e.key j x l[j] f (aqX L)).2.FF s ρ _ (a.key j x v f r).2
section
variable{ρ ρ0 ρ1:Nm}{C h0 Hj H1:KH}{n0 N nj n1:Nat}{ws w w1:World}
def HR.sub(g:HR P w0 ρ C N w)(l:∀k,k<nj->ρ k≠none->Hj k=C k)(o:∀k y,k<nj->ρ k≠none->Hj k=some y->Fm P nj y)(s:∀k,nj<=k->Hj k=none):HR P w0 (Nm.cut ρ nj) Hj nj w:=by
 have h:∀{k x p},Hj k=some x->Nm.cut ρ nj k=some p->k<nj/\C k=some x/\ρ k=some p:=λ{k x p} c r=>by
  obtain⟨e,a⟩:=Nm.oG r;exact⟨e,by rw[<-l k e (by rw[a];simp)];exact c,a⟩
 refine⟨g.ext,λk x b m c d=>?_,λk x b m c d=>?_,λk v x A b m z c u d q t=>?_,λk d=>Nm.Rj d,s⟩
 ·obtain⟨e,a,f⟩:=h c d
  exact o k x e (by rw[f];simp) c _ _ _ _ (g.ob k x b m a f)
 ·obtain⟨e,a,f⟩:=h c d
  exact g.lo k x b m a f
 ·obtain⟨e,a,f⟩:=h c d
  obtain⟨B,i,j⟩:=h u q;exact g.inj k v x A b m z a i f j t
def HR.empty(b:Ext w0 w):HR P w0 (Nm.cut ρ nj) (λ_=>none) nj w:=
 ⟨b,λ_ _ _ _ h=>(by cases h),λ_ _ _ _ h=>(by cases h),λ_ _ _ _ _ _ _ h=>(by cases h),λk a=>Nm.Rj a,λ_ _=>rfl⟩
def HR.same(c:HR P w0 ρ C N w)(e:∀k y,ρ k≠none->Hj k=some y->C k=some y)(i:∀k,nj<=k->Hj k=none)(q:nj<=N):HR P w0 ρ Hj N w:=
 ⟨c.ext,λk x b m d a=>c.ob k x b m (e k x (by rw[a];simp) d) a,λk x b m d a=>c.lo k x b m (e k x (by rw[a];simp) d) a,
  λk g x h b m o d l a f j=>c.inj k g x h b m o (e k x (by rw[a];simp) d) (e g h (by rw[f];simp) l) a f j,c.top,λk a=>i k (by omega)⟩
def KP.agree(c:KP P w0 ρ0 h0 n0 ws ρ C N w)(e:∀k,(k<n0\/ρ k≠none)->Hj k=C k)(i:∀k,N<=k->Hj k=none):KP P w0 ρ0 h0 n0 ws ρ Hj N w:=
 ⟨c.hr.same (λk y a l=>by rw[<-e k (.inr a)];exact l) i (aqf _),c.nn,c.ro,c.sz,λb f g=>⟨(c.fr b f g).1,λk x m a d h=>(c.fr b f g).2 k x m a (by rw[<-e k (.inr (by rw[h];simp))];exact d) h⟩,
  λk x a d=>c.ol k x a (by rw[<-e k (.inl a)];exact d),λk x a d j=>by rw[e k (.inl a)];exact c.fz k x a d j⟩
def KP.wide(a:HR P w0 ρ C n0 w)(b:n0<=N):KP P w0 ρ C n0 w ρ C N w:=by
 have k:=KP.refl a;exact⟨⟨a.ext,a.ob,a.lo,a.inj,λx c=>a.top x (by omega),λx c=>a.Cy x (by omega)⟩,b,k.ro,k.sz,k.fr,k.ol,k.fz⟩
def vH{α:Type}(n1:Nat)(a b:Nat->Option α):Nat->Option α:=λk=>if k<n1 then a k else b k
def ea{n1 k:Nat}{a b:Nat->Option u}(h:k<n1):vH n1 a b k=a k:=aqd h
def gT{n1 k:Nat}{a b:Nat->Option u}(h:n1<=k):vH n1 a b k=b k:=aqc (by omega)
def KP.merge(A:KP P w0 ρ0 h0 n0 ws ρ C N w)(B:KP P w0 (Nm.cut ρ nj) Hj nj w ρ1 H1 n1 w1)(Z:n0<=nj)(a0:n1<=N)(v:∀k,k<nj->(k<n0\/ρ k≠none)->Hj k=C k)(W:∀k,nj<=k->k<n1->ρ k=none):
 KP P w0 ρ0 h0 n0 ws (vH n1 ρ1 ρ) (vH n1 H1 C) N w1/\zY ρ1 (vH n1 ρ1 ρ)/\zY ρ (vH n1 ρ1 ρ):=by
 have a3:=B.nn;have L:zY ρ1 (vH n1 ρ1 ρ):=λk p a=>by rw[ea (B.hr.lt a)];exact a
 have H:∀k,k<nj->ρ1 k=ρ k:=λk a=>by rw[B.ro k a,Nm.iG a]
 have M:zY ρ (vH n1 ρ1 ρ):=λk p a=>by
  by_cases h:k<n1
  ·rw[ea h]
   by_cases u:k<nj
   ·rw[H k u];exact a
   ·rw[W k (by omega) h]at a;cases a
  ·rw[gT (by omega)];exact a
 have G:∀{k x b m},k<nj->H1 k=some x->ρ1 k=some (b,m)->∃f,C k=some f/\ρ k=some (b,m)/\f.wr=x.wr:=λ{k x b m} a c l=>by
  obtain⟨f,r,g⟩:=B.ol k x a c;rw[H k a]at l;exact⟨f,by rw[<-v k a (.inr (by rw[l];simp))];exact r,l,g⟩
 have E:∀{k x b m},n1<=k->C k=some x->ρ k=some (b,m)->ad3 (Nm.cut ρ nj) Hj b:=λ{k x b m} a c l d i q e o F=>by
  obtain⟨r,g⟩:=Nm.oG F;have:=A.hr.inj d k i x b q m (by rw[<-v d r (.inr (by rw[g];simp))];exact e) c g l o;omega
 refine⟨⟨⟨B.hr.ext,λk x b m c a=>?_,λk x b m c a=>?_,λk d x i b m q c e a j o=>?_,λk a=>?_,λk a=>?_⟩,A.nn,λk a=>?_,aq9 A.sz B.sz,λb z K=>?_,λk i a c=>?_,λk x a c o=>?_⟩,L,M⟩
 ·by_cases h:k<n1
  ·rw[ea h]at c a
   exact(B.hr.ob k x b m c a).mono L rfl
  ·rw[gT (by omega)]at c a
   have z:=A.hr.ob k x b m c a;exact z.mono M (B.fr b z.lt (E (by omega) c a)).1
 ·by_cases h:k<n1
  ·rw[ea h]at c a
   exact B.hr.lo k x b m c a
  ·rw[gT (by omega)]at c a
   exact A.hr.lo k x b m c a
 ·by_cases h:k<n1
  ·rw[ea h]at c a
   by_cases u:d<n1
   ·rw[ea u]at e j
    exact B.hr.inj k d x i b m q c e a j o
   ·rw[gT (by omega)]at e j
    by_cases y:k<nj
    ·obtain⟨f,r,g,I⟩:=G y c a
     exact A.hr.inj k d f i b m q r e g j (I.trans o)
    ·exact absurd a ((B.fr b (A.hr.ob d i b q e j).lt (E (by omega) e j)).2 k x m (by omega) c)
  ·rw[gT (by omega)]at c a
   by_cases u:d<n1
   ·rw[ea u]at e j
    by_cases y:d<nj
    ·obtain⟨f,r,g,I⟩:=G y e j
     exact A.hr.inj k d x f b m q c r a g o
    ·exact absurd j ((B.fr b (A.hr.ob k x b m c a).lt (E (by omega) c a)).2 d i q (by omega) e)
   ·rw[gT (by omega)]at e j
    exact A.hr.inj k d x i b m q c e a j o
 ·rw[gT (by omega)];exact A.hr.top k a
 ·rw[gT (by omega)];exact A.hr.Cy k a
 ·rw[ea (by omega),H k (by omega)];exact A.ro k a
 ·obtain⟨O,D⟩:=A.fr b z K
  have V:ad3 (Nm.cut ρ nj) Hj b:=λd i q e o F=>by
   obtain⟨r,g⟩:=Nm.oG F;have J:C d=some i:=by rw[<-v d r (.inr (by rw[g];simp))];exact e
   by_cases h:d<n0
   ·obtain⟨f,s,t⟩:=A.ol d i h J
    rw[A.ro d h]at g;exact K d f q s (t.trans o) g
   ·exact D d i q (by omega) J g
  obtain⟨Q,R⟩:=B.fr b (by have:=A.sz;omega) V;refine⟨Q.trans O,λk x m a c l=>?_⟩;by_cases h:k<n1
  ·rw[ea h]at c l
   by_cases y:k<nj
   ·obtain⟨f,s,t,Y⟩:=G y c l
    exact D k f m a s t
   ·exact R k x m (by omega) c l
  ·rw[gT (by omega)]at c l
   exact D k x m a c l
 ·rw[ea (by omega)]at c
  obtain⟨f,s,t⟩:=B.ol k i (by omega) c;rw[v k (by omega) (.inl a)]at s;obtain⟨X,S,U⟩:=A.ol k f a s;exact⟨X,S,U.trans t⟩
 ·rw[ea (by omega)]
  have:=A.fz k x a c o;exact B.fz k x (by omega) (by rw[v k (by omega) (.inl a)];exact this) o
def KP.add(A:KP P w0 ρ0 h0 n0 ws ρ C N w)(B:KP P w0 (Nm.cut ρ nj) (λ_=>none) nj w ρ1 H1 n1 w1)(H:n0<=nj)(I:n1<=N)(F:∀k,nj<=k->k<n1->ρ k=none):
 KP P w0 ρ0 h0 n0 ws (vH n1 ρ1 ρ) (λk=>if nj<=k/\k<n1 then H1 k else C k) N w1/\zY ρ1 (vH n1 ρ1 ρ)/\zY ρ (vH n1 ρ1 ρ):=by
 have J:=B.nn;have t:zY ρ1 (vH n1 ρ1 ρ):=λk p a=>by rw[ea (B.hr.lt a)];exact a
 have G:∀k,k<nj->ρ1 k=ρ k:=λk a=>by rw[B.ro k a,Nm.iG a]
 have f:∀k,¬(nj<=k/\k<n1)->vH n1 ρ1 ρ k=ρ k:=λk a=>by
  by_cases h:k<n1
  ·rw[ea h,G k (by omega)]
  ·rw[gT (by omega)]
 have u:zY ρ (vH n1 ρ1 ρ):=λk p a=>by
  by_cases h:nj<=k/\k<n1
  ·rw[F k h.1 h.2]at a;cases a
  ·rw[f k h];exact a
 have o:∀b,b<w.heap.size->w1.heap[b]? =w.heap[b]? /\∀k x m,nj<=k->H1 k=some x->ρ1 k≠some (b,m):=λb j=>B.fr b j λ_ _ _ h=>(by cases h);refine⟨⟨⟨B.hr.ext,λk x b m c a=>?_,λk x b m c a=>?_,λk e x l b m s c i a g r=>?_,λk a=>?_,λk a=>?_⟩,A.nn,λk a=>?_,aq9 A.sz B.sz,λb j E=>?_,λk l a c=>?_,λk x a c r=>?_⟩,t,u⟩
 ·by_cases h:nj<=k/\k<n1
  ·rw[ea h.2]at a
   simp only[aqd h]at c;exact(B.hr.ob k x b m c a).mono t rfl
  ·rw[f k h]at a
   simp only[aqc h]at c;have j:=A.hr.ob k x b m c a;exact j.mono u (o b j.lt).1
 ·by_cases h:nj<=k/\k<n1
  ·rw[ea h.2]at a
   simp only[aqd h]at c;exact B.hr.lo k x b m c a
  ·rw[f k h]at a
   simp only[aqc h]at c;exact A.hr.lo k x b m c a
 ·by_cases h:nj<=k/\k<n1
  ·rw[ea h.2]at a
   simp only[aqd h]at c;by_cases d:nj<=e/\e<n1
   ·rw[ea d.2]at g
    simp only[aqd d]at i;exact B.hr.inj k e x l b m s c i a g r
   ·rw[f e d]at g
    simp only[aqc d]at i;exact absurd a ((o b (A.hr.ob e l b s i g).lt).2 k x m h.1 c)
  ·rw[f k h]at a
   simp only[aqc h]at c;by_cases d:nj<=e/\e<n1
   ·rw[ea d.2]at g
    simp only[aqd d]at i;exact absurd g ((o b (A.hr.ob k x b m c a).lt).2 e l s d.1 i)
   ·rw[f e d]at g
    simp only[aqc d]at i;exact A.hr.inj k e x l b m s c i a g r
 ·rw[f k (by omega)];exact A.hr.top k a
 ·rw[aqc (by omega)];exact A.hr.Cy k a
 ·rw[f k (by omega)];exact A.ro k a
 ·obtain⟨v,y⟩:=A.fr b j E
  obtain⟨z,D⟩:=o b (by have:=A.sz;omega);refine⟨z.trans v,λk x m a c q=>?_⟩;by_cases h:nj<=k/\k<n1
  ·rw[ea h.2]at q
   simp only[aqd h]at c;exact D k x m h.1 c q
  ·rw[f k h]at q
   simp only[aqc h]at c;exact y k x m a c q
 ·rw[aqc (by omega)]at c
  exact A.ol k l a c
 ·rw[aqc (by omega)]
  exact A.fz k x a c r
end
def Rk(h:Nat.blt a e=true):a<e:=aqk h
def sD{n:Nat}(h:HV n d=true):Bel n d:=by
 intro ρ u b;cases d with
 |v x=>cases b;exact .v
 |gl=>cases b;exact .gl
 |pt k o=>cases b with|pt a=>exact .pt (by rw[Nm.iG (Rk h)];exact a)
 |sl k o m d=>cases b with|sl a g c e f=>exact .sl (by rw[Nm.iG (Rk h)];exact a) g c e f
 |mp k=>cases b with|mp a=>exact .mp (by rw[Nm.iG (Rk h)];exact a)
 |_=>cases h
def ag2{n:Nat}(h:akb n d=true):Bel n d:=by
 unfold akb at h;split at h
 ·rename_i l
  intro ρ u a;cases a with
  |ag f e c=>exact .ag f e λj d u b a=>sD (aqD.1 h d (aqw b)) ρ u (c j d u b a)
 ·rename_i l
  intro ρ u a;cases a with
  |tu f e c=>exact .tu f e λj d u b a=>sD (aqD.1 h d (aqw b)) ρ u (c j d u b a)
 ·rename_i l k
  intro ρ u a;obtain⟨g,i⟩:=avg.1 h;cases a with
  |cl f r e q c o=>exact .cl f r e q (λj d u b a=>sD (aqD.1 g d (aqw b)) ρ u (c j d u b a)) λj d u b a=>sD (aqD.1 i d (aqw b)) ρ u (o j d u b a)
 ·exact sD h
def akf(h:vEq i S=true):i=S:=by
 unfold vEq at h;split at h
 ·simp only[aqe,ard,so]at h
  obtain⟨rfl,rfl⟩:=h;rfl
 ·simp at h;rw[h]
 ·rfl
 ·rfl
 ·rfl
 ·rfl
 ·rfl
 ·rw[dW h]
 ·cases h
def J1(h:ael d A=true):d=A:=by
 unfold ael at h;split at h
 ·rw[akf h]
 ·simp at h;rw[h.1,h.2]
 ·simp at h;rw[h.1.1.1,h.1.1.2,h.1.2,h.2]
 ·simp at h;rw[h]
 ·cases h
def yQ:∀{l m:List CV},Rf l m=true->l=m
 |[],[],_=>rfl
 |a::l,b::m,h=>by
  simp only[Rf,aqe]at h;rw[J1 h.1,yQ h.2]
 |[],_::_,h=>by cases h
 |_::_,[],h=>by cases h
def aes(h:cEq d A=true):d=A:=by
 unfold cEq at h;split at h
 ·rw[yQ h]
 ·rw[yQ h]
 ·simp only[aqe]at h
  rw[dW h.1.1,yQ h.1.2,yQ h.2]
 ·exact J1 h
def J2:∀{l m:Tr CV},aem l m=true->l=m
 |.lf,.lf,_=>rfl
 |.nd l x r,.nd f b g,h=>by
  simp only[aem,aqe]at h;obtain⟨⟨c,a⟩,d⟩:=h;have e:x=b:=by
   cases x<;>cases b<;>simp at a
   ·rfl
   ·rw[J1 a]
  rw[J2 c,J2 d,e]
 |.lf,.nd ..,h=>by cases h
 |.nd ..,.lf,h=>by cases h
def Wj{x y:Option cO}(h:agY x y=true):x=y:=by
 unfold agY at h;split at h
 ·simp at h
  obtain⟨⟨⟨a,b⟩,c⟩,d⟩:=h;rw[J2 a,b,c,d]
 ·simp at h
  rw[h.1,h.2]
 ·cases h
end
end
section
open Go Go.RowKit MapKept
section
variable{P:Program}{Dk:Deferred->Prop}{w0:World}{T:TypeId->bj}
structure TX(l:List Oper):Prop where
 back:∀(j:Nat) o,l[j]? =some o->∀e∈o.after,Region.binds .any e=true->e.on<j
 inj:CS l=true
 see:∀(i j:Nat) p o x,l[i]? =some p->l[j]? =some o->x∈tmpsOf o->p.dst=some x->i=j\/nH l i j=true
 gd:∀(j:Nat) o g,l[j]? =some o->o.guard=some g->dT l j g.1=true/\g.1≠j
 row:∀(i j:Nat) p o,l[i]? =some p->l[j]? =some o->eN p.op=2->eN o.op=2->i=j\/nH l i j=true
 rd:∀(i j:Nat) o p,l[i]? =some o->l[j]? =some p->eN o.op=1->eN p.op=2->nH l i j=false->∀(i':Nat) q x,l[i']? =some q->x∈tmpsOf o->q.dst=some x->dT l i i'=true/\i'≠i
def vJ{o p:Oper}(c:b[a]? =some o)(d:b[e]? =some p)(f:eN o.op=1)(g:eN p.op=2)(h:nH b a e=false):(a,e)∈Fj b:=by
 refine arz.2 ⟨a,are.2 (aqh.1 c).1,at4.2 ⟨e,are.2 (aqh.1 d).1,?_⟩⟩;simp[c,d,f,g,h]
def Rl{o p:Oper}(c:b[a]? =some o)(d:b[e]? =some p)(f:eN o.op=0)(g:eN p.op=2)(i:a<e)(h:dT b e a=false):(a,e)∈aen b:=by
 refine arz.2 ⟨a,are.2 (aqh.1 c).1,at4.2 ⟨e,are.2 (aqh.1 d).1,?_⟩⟩;have:Nat.blt a e=true:=auz i;simp[c,d,f,g,h,this]
def ag3(h:aka b=true):TX b:=by
 unfold aka at h;simp only[aqe]at h;obtain⟨⟨⟨⟨v,w⟩,s⟩,y⟩,z⟩:=h;have d:∀{j:Nat} {o},b[j]? =some o->j∈List.range b.length:=λ{j o} a=>are.2 (aqh.1 a).1;refine⟨λj o a e C A=>by have:=y_ v j o a e C A;omega,w,λi j p o x c a m l=>?_,λj o g a D=>?_,λi j p o c a f k=>?_,λi j o p a c f k B E q x u m l=>?_⟩
 ·have:=aqD.1 s j (d a)
  simp only[a,aqe]at this;have:=aqD.1 (aqD.1 this.1 x m) i (d c);simp only[c,l]at this;simpa using this
 ·have:=aqD.1 s j (d a)
  simp only[a,D,aqe]at this;exact⟨this.2.1,iO (by simpa using this.2.2)⟩
 ·have:=aqD.1 (aqD.1 y j (d a)) i (d c)
  simp only[a,c,f,k]at this;simpa using this
 ·have:=aqD.1 z _ (vJ a c f k B)
  simp only[a]at this;have:=aqD.1 (aqD.1 this x m) E (d u);simp only[u,l,ara,aqe]at this;rcases this with h|h
  ·simp at h
  ·exact⟨h.1,iO (by simpa using h.2)⟩
def TX.le(l:TX b)(h:dT b e a=true):a<=e:=by
 have d:oP b (λk=>decide (k<=e)):=λk o j i c g f=>by
  have m:=l.back k o j c g f;have p:k<=e:=by simpa using i
  simp only[ard];omega
 have:=eV d e a h (by simp);simpa using this
def uV(ops:List Oper)(i:Nat):Prop:=∃o,ops[i]? =some o/\eN o.op=2
def Bj(P:Program)(w0:World)(ops:List Oper)(o:Oper)(t:Tr CV)(h:Tr cO):Prop:=Bi ops o.guard (t.res (mE ops o)) false\/∃d c,o.dst=some d/\t.get d=some c/\PK P w0 o (t.res (mE ops o)) h c
structure HW(P:Program)(Dk:Deferred->Prop)(w0:World)(ops:List Oper)(ts:Nat->Tr CV)(hs:Nat->Tr cO)(ns:Nat->Nat):Prop where
 jN:∀(i:Nat) o,ops[i]? =some o->Ri P Dk w0 ops o (ts i) (hs i) (ns i) (ts (i+1)) (hs (i+1)) (ns (i+1))
 mono:∀(i:Nat),i<ops.length->ns i<=ns (i+1)
 made:∀(i j:Nat) p o,ops[i]? =some p->ops[j]? =some o->eN p.op=0->eN o.op=2->i<j->dT ops j i=false->ns i=ns (i+1)\/(hs (i+1)).get (ns i)=(hs (j+1)).get (ns i)
 rd:∀(i j:Nat) o p,ops[i]? =some o->ops[j]? =some p->eN o.op=1->eN p.op=2->nH ops i j=false->Bj P w0 ops o (ts ops.length) (hs j)/\Bj P w0 ops o (ts ops.length) (hs (j+1))
 bl:∀(i j:Nat) o p d c,ops[i]? =some o->ops[j]? =some p->eN o.op=1->eN p.op=2->nH ops i j=false->o.dst=some d->(ts ops.length).get d=some c->Bel (ns i) c
section
variable{t:Tr CV}{h:Tr cO}{n:Nat}{R:Type}{r:R}{ID:FuncId->Bool}{call:KC R}
def HX(w:f_ P T)(q:∀a v u,GT a v u->w0.cell? ⟨a,v,none⟩=some u)(s:jE Dk ID)(x:gu P w0 call)(i:eN v.op=1){k:Option R}(f:sameAt T ID call b v t n h k=some r):k=some r/\Bj P w0 b v t h:=by
 unfold sameAt at f;rw[Fk (Wh (ops:=b) (o:=v))]at f;rcases OS f with⟨g,l⟩|⟨g,l⟩
 ·obtain⟨d,z,B⟩:=bu g
  obtain⟨G,y,j⟩:=bu B;rw[OU (Wg (ops:=b) (o:=v))]at j;obtain⟨o,J,F,E,m,p⟩:=v;obtain⟨c,H,I,e,C⟩:=aeq (d:=o) (ty:=F) (pos:=E) (af:=m) (gd:=p) w q s x j;obtain⟨A,D⟩:=bd C;obtain rfl:=aes A;unfold ji at e;simp only at i;rw[i]at e;exact⟨D,.inr ⟨d,c,z,y,e.2.2⟩⟩
 ·exact⟨g,.inl l⟩
def Wl(w:f_ P T)(s:∀b o u,GT b o u->w0.cell? ⟨b,o,none⟩=some u)(v:jE Dk ID)(y:gu P w0 call){a:List Oper}{c:Acc}{k:Option R}:∀{l:List (Nat×Nat)},(∀p∈l,∀o,a[p.1]? =some o->eN o.op=1)->am_ T ID call a c t n l k=some r->
 k=some r/\∀p∈l,∀o,a[p.1]? =some o->∀e∈c,e.1=p.2->Bj P w0 a o t e.2.1.2/\Bj P w0 a o t e.2.2.2
 |[],_,f=>⟨f,λp O=>by cases O⟩
 |p::l,G,f=>by
  obtain⟨o,I,g⟩:=bu f;have H:=G p (by simp) o I;have Q:∀{c:Acc} {j:Option R},(List.rec (motive:=λ_=>Option R) j (λe _ M=>bB (Nat.beq e.1 p.2) (sameAt T ID call a o t n e.2.1.2 (sameAt T ID call a o t n e.2.2.2 M)) M) c:Option R)=some r->
   j=some r/\∀e∈c,e.1=p.2->Bj P w0 a o t e.2.1.2/\Bj P w0 a o t e.2.2.2:=by
   intro c
   induction c with
   |nil=>intro j f;exact⟨f,λe i=>by cases i⟩
   |cons e c L=>
    intro j f;rcases dt f with⟨x,g⟩|⟨x,g⟩
    ·obtain⟨A,D⟩:=HX w s v y H g
     obtain⟨B,E⟩:=HX w s v y H A;obtain⟨C,F⟩:=L B;exact⟨C,λm z d=>(aqG.1 z).elim (λq=>by subst q;exact⟨D,E⟩) (λq=>F m q d)⟩
    ·obtain⟨C,F⟩:=L g
     refine⟨C,λm z d=>(aqG.1 z).elim (λq=>?_) (λq=>F m q d)⟩;subst q;rw[d]at x;simp at x
  obtain⟨A,D⟩:=Q g;obtain⟨B,E⟩:=Wl w s v y (λq d=>G q (by simp[d])) A;refine⟨B,λq d S J e i K=>(aqG.1 d).elim (λN=>?_) (λU=>E q U S J e i K)⟩;subst N;obtain rfl:=aql (I.symm.trans J);exact D e i K
def Wm(E:f_ P T)(C:∀b o u,GT b o u->w0.cell? ⟨b,o,none⟩=some u)(D:jE Dk ID)(F:gu P w0 call){c:List Oper}{k:Acc->KK R}:∀(l:List Oper) (i:Nat) {t:Tr CV} {h:Tr cO} {n:Nat} {m:Acc},c.drop i=l->ana T ID call c l i m k t h n=some r->
 ∃(g:Nat->Tr CV) (d:Nat->Tr cO) (f:Nat->Nat) (p:Acc),g i=t/\d i=h/\f i=n/\(∀(j:Nat) o,i<=j->c[j]? =some o->Ri P Dk w0 c o (g j) (d j) (f j) (g (j+1)) (d (j+1)) (f (j+1)))/\
  (∀(j:Nat),i<=j->j<c.length->(j,(f j,d j),(f (j+1),d (j+1)))∈p)/\(∀e∈m,e∈p)/\k p (g c.length) (d c.length) (f c.length)=some r
 |[],i,t,h,n,m,q,y=>by
  have z:c.length<=i:=List.drop_eq_nil_iff.1 q;exact⟨λ_=>t,λ_=>h,λ_=>n,m,rfl,rfl,rfl,λj o w s=>by have:=(aqh.1 s).1;omega,λj w z=>by omega,λe v=>v,y⟩
 |o::l,i,t,h,n,m,q,y=>by
  obtain⟨W,S,V,d,L⟩:=Fl E C D F y;have K:c.drop (i+1)=l:=by rw[<-asl,q];rfl
  have s:c[i]? =some o:=by
   have:=aqr (·[0]?) q;simpa using this
  have U:=(aqh.1 s).1;obtain⟨g,N,f,p,I,A,B,O,J,H,M⟩:=Wm E C D F l (i+1) K L;refine⟨λj=>if j<=i then t else g j,λj=>if j<=i then h else N j,λj=>if j<=i then n else f j,p,by simp,by simp,by simp,λj Q w G=>?_,λj w z=>?_,λe v=>H e (by simp[v]),?_⟩
  ·by_cases x:j=i
   ·subst x
    obtain rfl:=aql (s.symm.trans G);have a:¬j+1<=j:=by omega
    simp only[aqf,aqP,aqc a,I,A,B];exact d
   ·have a:¬j<=i:=by omega
    have b:¬j+1<=i:=by omega
    simp only[aqc a,aqc b];exact O j Q (by omega) G
  ·by_cases x:j=i
   ·subst x
    have a:¬j+1<=j:=by omega
    simp only[aqf,aqP,aqc a,A,B];exact H _ (by simp)
   ·have a:¬j<=i:=by omega
    have b:¬j+1<=i:=by omega
    simp only[aqc a,aqc b];exact J j (by omega) z
  ·have a:¬c.length<=i:=by omega
   simp only[aqc a];exact M
def YU(C:f_ P T)(A:∀a o u,GT a o u->w0.cell? ⟨a,o,none⟩=some u)(B:jE Dk ID)(g:gu P w0 call){k:KK R}(O:We T ID call b k t h n=some r):
 TX b/\∃(x:Nat->Tr CV) (v:Nat->Tr cO) (w:Nat->Nat),x 0=t/\v 0=h/\w 0=n/\HW P Dk w0 b x v w/\k (x b.length) (v b.length) (w b.length)=some r:=by
 obtain⟨W,Q⟩:=bd O;have Z:=ag3 W;obtain⟨x,v,w,a0,F,G,H,Y,s,_,S⟩:=Wm C A B g b 0 rfl Q;obtain⟨y,U⟩:=bd S;simp only[aqe]at y;have K:∀p∈Fj b,∀o,b[p.1]? =some o->eN o.op=1:=λp e o f=>by
  obtain⟨i,E,e⟩:=arz.1 e;obtain⟨j,hj,e⟩:=at4.1 e;split at e
  ·rename_i o1 p1 q h2
   split at e
   ·rename_i D
    cases e;obtain rfl:=aql (q.symm.trans f);simp only[aqe]at D;exact dW D.1.1
   ·cases e
  ·cases e
 obtain⟨V,X⟩:=Wl C A B g K U;have z:∀{i:Nat} {o},b[i]? =some o->i<b.length:=λf=>(aqh.1 f).1;refine⟨Z,x,v,w,F,G,H,⟨λi o f=>Y i o (aqI _) f,λi E=>?_,λi j p o e f l m N I=>?_,λi j o p f e l m g=>?_,λi j o p d c f e l m g L J=>?_⟩,V⟩
 ·have:=aqD.1 y.2 _ (s i (aqI _) E)
  simp only[aqe]at this;exact aqk this.1
 ·have:=aqD.1 y.1 _ (Rl e f l m N I)
  have:=aqD.1 this _ (s i (aqI _) (z e));simp only[ara,aqM,aqv,arS,false_or]at this;rcases this with q|q
  ·exact .inl (dW q)
  ·have:=aqD.1 q _ (s j (aqI _) (z f))
   simp only[ara,aqM,aqv,arS,false_or]at this;exact .inr (Wj this)
 ·exact X _ (vJ f e l m g) o f _ (s j (aqI _) (z e)) rfl
 ·have:=aqD.1 y.2 _ (s i (aqI _) (z f))
  simp only[aqe]at this;have:=aqD.1 this.2 _ (vJ f e l m g);have M:oE b i=some d:=by simp[oE,f,L]
  simp only[aqM,aqv,M,J,aui]at this;exact ag2 this
end
end
end
variable{O:KH}{D N:Tr cO}{y:Tr CV}
section
open Go Go.RowKit MapKept
section
variable{P:Program}{Dk:Deferred->Prop}{w0:World}{T:TypeId->bj}
def Ri.non{ops:List Oper}{o:Oper}{h g:Tr cO}(hs:Ri P Dk w0 ops o y h e I g F)(n:eN o.op≠2):∃b,F=yM e b/\(∀k,g.get k=tR h.get e b k)/\(b≠none->eN o.op=0):=by
 cases hs with
 |run c i t r q d p=>
  unfold ji at d;split at d
  ·rename_i f
   obtain⟨s,b,_,i,m,_⟩:=d;exact⟨b,i,m,λ_=>f⟩
  ·obtain⟨rfl,rfl,_⟩:=d
   exact⟨none,rfl,λ_=>rfl,λh=>absurd rfl h⟩
  ·rename_i f l
   exfalso;have:eN o.op=0\/eN o.op=1\/eN o.op=2:=by
    unfold eN;split<;>simp
   rcases this with h|h|h
   ·exact f h
   ·exact l h
   ·exact n h
 |skip r q p=>exact⟨none,rfl,λ_=>rfl,λh=>absurd rfl h⟩
def Ri.keep{ops:List Oper}{o:Oper}(hs:Ri P Dk w0 ops o y D e I N F)(d:eN o.op≠2){k:Nat}(g:k<e):N.get k=D.get k:=by
 obtain⟨f,_,c,_⟩:=hs.non d;rw[c];cases f with
 |none=>rfl
 |some b=>exact aqc (by omega)
def Ri.put{ops:List Oper}{o:Oper}(hs:Ri P Dk w0 ops o y D e I N F):∃c,BD o.dst c y I:=by
 cases hs with
 |run c g i f d h b=>exact⟨c,b⟩
 |skip f d b=>exact⟨_,b⟩
section
variable{ops:List Oper}{ts:Nat->Tr CV}{hs:Nat->Tr cO}{ns:Nat->Nat}
def HW.le(c:HW P Dk w0 ops ts hs ns){a b:Nat}(h:a<=b)(f:b<=ops.length):ns a<=ns b:=by
 induction b with
 |zero=>obtain rfl:a=0:=by omega
        exact aqf _
 |succ b d=>
  by_cases e:a=b+1
  ·subst e;exact aqf _
  ·exact aq9 (d (by omega) (by omega)) (c.mono b (by omega))
def HW.tX(q:HW P Dk w0 ops ts hs ns){x a b:Nat}(h:a<=b)(t:b<=ops.length)(g:∀i,a<=i->i<b->∀o,ops[i]? =some o->o.dst≠some x):(ts b).get x=(ts a).get x:=by
 induction b with
 |zero=>obtain rfl:a=0:=by omega
        rfl
 |succ b r=>
  by_cases e:a=b+1
  ·subst e;rfl
  ·have n:b<ops.length:=by omega
   have k:ops[b]? =some ops[b]:=aqm n;rw[<-r (by omega) (by omega) λi m s=>g i m (by omega)];obtain⟨c,l⟩:=(q.jN b _ k).put;have p:=g b (by omega) (by omega) _ k;cases f:(ops[b]).dst with
   |none=>rw[l.1 f]
   |some d=>
    rw[(l.2 d f).2 x,aqc];intro e;subst e;exact p f
def HW.RA(f:HW P Dk w0 ops ts hs ns){k a b:Nat}(h:a<=b)(r:b<=ops.length)(c:∀i,a<=i->i<b->¬uV ops i)(m:k<ns a):(hs b).get k=(hs a).get k:=by
 induction b with
 |zero=>obtain rfl:a=0:=by omega
        rfl
 |succ b p=>
  by_cases e:a=b+1
  ·subst e;rfl
  ·have n:b<ops.length:=by omega
   have d:ops[b]? =some ops[b]:=aqm n;rw[<-p (by omega) (by omega) λi g q=>c i g (by omega)];exact(f.jN b _ d).keep (λl=>c b (by omega) (by omega) ⟨_,d,l⟩) (asi m (f.le (by omega) (by omega)))
def HW.ahS(t:HW P Dk w0 ops ts hs ns){a b:Nat}(h:a<=b)(y:b<=ops.length)(f:∀i,a<=i->i<b->¬uV ops i)(d:∀k,ns a<=k->(hs a).get k=none):∀k,ns b<=k->(hs b).get k=none:=by
 induction b with
 |zero=>obtain rfl:a=0:=by omega
        exact d
 |succ b u=>
  by_cases e:a=b+1
  ·subst e;exact d
  ·have s:b<ops.length:=by omega
   have g:ops[b]? =some ops[b]:=aqm s;have l:=u (by omega) (by omega) λi q x=>f i q (by omega);obtain⟨v,n,p,_⟩:=(t.jN b _ g).non (λr=>f b (by omega) (by omega) ⟨_,g,r⟩);intro k c;rw[p];rw[n]at c;cases v with
   |none=>exact l k c
   |some m=>
    have:ns b+1<=k:=c;show(if k=ns b then some m else(hs b).get k)=none;rw[aqc (by omega)];exact l k (by omega)
def Gd(ops:List Oper)(ns:Nat->Nat)(S:Nat->Bool)(k x:Nat):Prop:=x<=ops.length/\k<ns x/\(∀i,uV ops i->S i=true->i<x)/\∀i,uV ops i->i<x->S i=false->ns i<=k
structure jM(P:Program)(Dk:Deferred->Prop)(w0:World)(ops:List Oper)(ts:Nat->Tr CV)(hs:Nat->Tr cO)(ns:Nat->Nat)(ρ0:Nm)(a0:Act)(ws:World)(S:Nat->Bool)(ρ:Nm)(C:KH)(a:Act)(w:World):Prop where
 kp:KP P w0 ρ0 (hs 0).get (ns 0) ws ρ C (ns ops.length) w
 t1:∀(i:Nat) o x c,ops[i]? =some o->o.dst=some x->S i=true->(ts ops.length).get x=some c->∃v,a.tmps[x]? =some v/\KR (Nm.cut ρ (ns (i+1))) c v
 t0:∀x c,(∀(i:Nat) o,ops[i]? =some o->o.dst=some x->S i=false)->(ts 0).get x=some c->∃v,a.tmps[x]? =some v/\KR (Nm.cut ρ (ns 0)) c v
 hg:∀k x,(k<ns 0\/ρ k≠none)->Gd ops ns S k x->C k=(hs x).get k
 hb:∀k x y,ρ k≠none->Gd ops ns S k x->(hs x).get k=some y->Fm P (ns x) y
 Cy:∀x,x<=ops.length->(∀i,i<x->uV ops i->S i=true)->∀k,ns x<=k->(hs x).get k=none
 own:∀k,ρ k≠none->k<ns 0\/∃i,i<ops.length/\S i=true/\ns i<=k/\k<ns (i+1)
 df:Df Dk a0 a
variable{ρ0 ρ:Nm}{a0 a:Act}{ws w:World}{S:Nat->Bool}{C:KH}
def jM.at(r:HW P Dk w0 ops ts hs ns)(d:jM P Dk w0 ops ts hs ns ρ0 a0 ws S ρ C a w){x:Nat}(g:x<=ops.length)(p:∀i,uV ops i->S i=true->i<x)(l:∀i,i<x->uV ops i->S i=true):
 (∀k,k<ns x->(k<ns 0\/ρ k≠none)->(hs x).get k=C k)/\HR P w0 (Nm.cut ρ (ns x)) (hs x).get (ns x) w/\HR P w0 ρ (hs x).get (ns ops.length) w:=by
 have m:∀k,k<ns x->Gd ops ns S k x:=λk b=>⟨g,b,p,λi q c n=>by rw[l i c q]at n;cases n⟩;have f:∀k,k<ns x->(k<ns 0\/ρ k≠none)->(hs x).get k=C k:=λk b c=>(d.hg k x c (m k b)).symm;have h:=d.Cy x g l;refine⟨f,d.kp.hr.sub (λk b c=>f k b (.inr c)) (λk y b c e=>d.hb k x y c (m k b) e) h,d.kp.hr.same (λk y c e=>?_) h (r.le g (aqf _))⟩;by_cases b:k<ns x
 ·rw[<-f k b (.inr c)];exact e
 ·rw[h k (by omega)]at e;cases e
section
variable{j:Nat}{o:Oper}
structure YZ(ops:List Oper)(S:Nat->Bool)(j:Nat):Prop where
 no:S j=false
 ah:∀i,dT ops j i=true->i≠j->S i=true
 be:∀i,S i=true->dT ops i j=false
 cl:∀i i',S i'=true->dT ops i' i=true->S i=true
def YZ.of(q:ops[j]? =some o)(d:oP ops S)(f:S j=false)(r:∀e∈o.after,Region.binds .any e=true->S e.on=true):YZ ops S j:=by
 have p:oP ops (λi=>S i||i==j):=λi t l g e k b=>by
  by_cases c:i=j
  ·subst c
   obtain rfl:=aql (q.symm.trans l);simp[r e k b]
  ·have:S i=true:=by simpa[c]using g
   simp[d i t l this e k b]
 refine⟨f,λi b c=>?_,λi g=>?_,λi s m n=>eV d s i n m⟩
 ·have:=eV p j i b (by simp)
  simpa[c]using this
 ·cases h:dT ops i j with
  |false=>rfl
  |true=>rw[eV d i j h g]at f;cases f
def jM.free(c:HW P Dk w0 ops ts hs ns)(g:jM P Dk w0 ops ts hs ns ρ0 a0 ws S ρ C a w)(f:YZ ops S j)(t:j<ops.length):∀k,ns j<=k->k<ns (j+1)->ρ k=none:=λk m n=>by
 cases l:ρ k with
 |none=>rfl
 |some p=>
  exfalso;rcases g.own k (by rw[l];simp)with h|⟨i,s,d,q,r⟩
  ·have:=c.le (aqI j) (by omega)
   omega
  ·rcases arV i j with e|e|e
   ·have:=c.le (a:=i+1) (b:=j) (by omega) (by omega)
    omega
   ·subst e;rw[f.no]at d;cases d
   ·have:=c.le (a:=j+1) (b:=i) (by omega) (by omega)
    omega
def jM.ane(t:TX ops)(s:HW P Dk w0 ops ts hs ns)(D:jM P Dk w0 ops ts hs ns ρ0 a0 ws S ρ C a w)(z:YZ ops S j)(E:ops[j]? =some o):mD (Nm.cut ρ (ns j)) ((ts j).res (mE ops o)) a:=by
 have O:=(aqh.1 E).1;intro x c n;rw[Tr.mX]at n;have A:mE ops o x=true:=by
  cases h:mE ops o x with
  |true=>rfl
  |false=>rw[h]at n;cases n
 rw[aqd A]at n;have M:∀(i:Nat) p,ops[i]? =some p->p.dst=some x->i=j\/nH ops i j=true:=λi p q r=>by
  unfold mE at A;rw[ara]at A;rcases A with h|h
  ·exact t.see i j p o x q E (auW.1 h) r
  ·split at h
   ·rename_i g K
    obtain⟨b,f,k⟩:=asx.1 (by simpa using h:oE ops g.1=some x);have J:=t.gd j o g E K;obtain rfl:i=g.1:=gD t.inj i g.1 p b x q f r k;exact .inr (by simp[nH,J.1])
   ·cases h
 by_cases B:∃(i:Nat) (p:Oper),ops[i]? =some p/\p.dst=some x
 ·obtain⟨i,p,q,r⟩:=B
  have N:=(aqh.1 q).1;have G:∀d b,ops[d]? =some b->b.dst=some x->d=i:=λd b f k=>gD t.inj d i b p x f q k r;have F:S i=false->j<=i->∃u,a.tmps[x]? =some u/\KR (Nm.cut ρ (ns j)) c u:=λy L=>by
   rw[s.tX (aqI j) (by omega) λd f k b l m=>by have:=G d b l m;omega]at n;obtain⟨v,f,k⟩:=D.t0 x c (λd b l m=>by rw[G d b l m];exact y) n;exact⟨v,f,k.mono (Nm.JZ ρ (s.le (aqI j) (by omega)))⟩
  rcases M i p q r with e|e
  ·subst e;exact F z.no (aqf _)
  ·simp only[nH,ara]at e
   by_cases H:i=j
   ·subst H;exact F z.no (aqf _)
   rcases e with e|e
   ·have y:=z.ah i e H
    have L:=t.le e;have I:(ts ops.length).get x=some c:=by
     rw[s.tX (a:=j) (by omega) (aqf _) λd f k b l m=>by have:=G d b l m;omega];exact n
    obtain⟨v,f,k⟩:=D.t1 i p x c q r y I;exact⟨v,f,k.mono (Nm.JZ ρ (s.le (by omega) (by omega)))⟩
   ·have y:S i=false:=by
     cases h:S i with
     |false=>rfl
     |true=>rw[z.be i h]at e;cases e
    exact F y (t.le e)
 ·rw[s.tX (aqI j) (by omega) λd f k b l m=>B ⟨d,b,l,m⟩]at n
  obtain⟨v,f,k⟩:=D.t0 x c (λd b l m=>absurd ⟨d,b,l,m⟩ B) n;exact⟨v,f,k.mono (Nm.JZ ρ (s.le (aqI j) (by omega)))⟩
def jM.next(B:TX ops)(K:HW P Dk w0 ops ts hs ns)(z:jM P Dk w0 ops ts hs ns ρ0 a0 ws S ρ C a w)(U:YZ ops S j)(g:ops[j]? =some o)(Y:BD o.dst d (ts j) (ts (j+1))){l:Nm}{v:Value}{D:List Deferred}
 (I:zY ρ l) (hv:KR (Nm.cut l (ns (j+1))) d v) (N:∀b∈D,Dk b)
 (kp:KP P w0 ρ0 (hs 0).get (ns 0) ws l O (ns ops.length) m)
 (W:∀k x,(k<ns 0\/l k≠none)->Gd ops ns (λi=>S i||i==j) k x->O k=(hs x).get k)
 (R:∀k x y,l k≠none->Gd ops ns (λi=>S i||i==j) k x->(hs x).get k=some y->Fm P (ns x) y)
 (a2:∀x,x<=ops.length->(∀i,i<x->uV ops i->(S i||i==j)=true)->∀k,ns x<=k->(hs x).get k=none)
 (own:∀k,l k≠none->k<ns 0\/∃i,i<ops.length/\(S i||i==j)=true/\ns i<=k/\k<ns (i+1)):
 jM P Dk w0 ops ts hs ns ρ0 a0 ws (λi=>S i||i==j) l O (({a with defers:=D++a.defers}:Act).put o.dst v) m:=by
 have a3:=(aqh.1 g).1;have L:∀{x},o.dst≠some x->(({a with defers:=D++a.defers}:Act).put o.dst v).tmps[x]? =a.tmps[x]? :=λ{x} A=>by
  cases V:o.dst with
  |none=>rfl
  |some b=>
   rw[V]at A;simp only[Act.put];rw[atC (λe=>A (by rw[e]))]
 refine⟨kp,λi p x E G h Z r=>?_,λx E J r=>?_,W,R,a2,own,z.df.trans ⟨D,N,by rw[put_defers]⟩⟩
 ·by_cases F:i=j
  ·subst F
   obtain rfl:=aql (g.symm.trans G);obtain⟨⟨M,H⟩,Q⟩:=Y.2 x h;rw[K.tX (a:=i+1) (by omega) (aqf _) λs n q t c f=>by have:=gD B.inj s i t o x c g f h;omega,Q x,aqd rfl]at r;cases r;rw[K.tX (a:=0) (aqI _) (by omega) λs n q t c f=>by have:=gD B.inj s i t o x c g f h;omega]at H;obtain⟨u,hu,_⟩:=z.t0 x M (λs t c f=>by rw[gD B.inj s i t o x c g f h];exact U.no) H;have X:=(aqU.1 hu).1;exact⟨v,by rw[h];simp[Act.put,X],hv⟩
  ·have a1:S i=true:=by simpa[F]using Z
   rw[L λe=>F (gD B.inj i j p o x G g h e)];obtain⟨u,n,q⟩:=z.t1 i p x E G h a1 r;exact⟨u,n,q.mono (I.cut _)⟩
 ·have A:o.dst≠some x:=λe=>by have:=J j o g e;simp at this
  rw[L A];obtain⟨u,n,q⟩:=z.t0 x E (λi p c f=>by have:=J i p c f;simp at this;exact this.1) r;exact⟨u,n,q.mono (I.cut _)⟩
end
end
end
end
section
open Go Go.RowKit MapKept
section
variable{P:Program}{Dk:Deferred->Prop}{w0:World}{T:TypeId->bj}
section
variable{ops:List Oper}{ts:Nat->Tr CV}{hs:Nat->Tr cO}{ns:Nat->Nat}{ρ0 ρ ρ1:Nm}{a0 a:Act}{ws w w1:World}{S:Nat->Bool}{C:KH}{j:Nat}{o:Oper}{c:CV}{v:Value}{D:List Deferred}
def jM.aet(hx:TX ops)(l:HW P Dk w0 ops ts hs ns)(n:jM P Dk w0 ops ts hs ns ρ0 a0 ws S ρ C a w)(I:YZ ops S j)(z:ops[j]? =some o)(hp:BD o.dst c (ts j) (ts (j+1)))(a3:eN o.op≠2){nb:Option cO}(t:ns (j+1)=yM (ns j) nb)
 (hh:∀k,(hs (j+1)).get k=tR (hs j).get (ns j) nb k) (a8:nb≠none->eN o.op=0) (B:KP P w0 (Nm.cut ρ (ns j)) (λ_=>none) (ns j) w ρ1 (tR (λ_=>none) (ns j) nb) (yM (ns j) nb) w1)
 (hv:KR ρ1 c v) (hD:∀d∈D,Dk d):∃ρ2 Z,jM P Dk w0 ops ts hs ns ρ0 a0 ws (λi=>S i||i==j) ρ2 Z (({a with defers:=D++a.defers}:Act).put o.dst v) w1:=by
 have J:=(aqh.1 z).1;have a4:=n.free l I J;have ad:=l.mono j J;have a1:=l.le (aqI j) (by omega);have a5:=l.le (a:=j+1) (by omega) (aqf _);rw[<-t]at B;obtain⟨kp,l1,l2⟩:=n.kp.add B a1 a5 a4;have W:∀{i},uV ops i->i≠j:=λ{i} f e=>by
  subst e;obtain⟨o',r,V⟩:=f;obtain rfl:=aql (z.symm.trans r);exact a3 V
 have M:∀k,¬(ns j<=k/\k<ns (j+1))->vH (ns (j+1)) ρ1 ρ k=ρ k:=λk g=>by
  by_cases h:k<ns (j+1)
  ·rw[ea h,B.ro k (by omega),Nm.iG (by omega)]
  ·rw[gT (by omega)]
 have U:∀{k x},Gd ops ns (λi=>S i||i==j) k x->Gd ops ns S k x:=λ{k x} ⟨O,Q,R,G⟩=>⟨O,Q,λi f L=>R i f (by simp[L]),λi f m L=>G i f m (by simp[L,W f])⟩;have Y:∀{k x},ns j<=k->k<ns (j+1)->Gd ops ns (λi=>S i||i==j) k x->j+1<=x/\(hs x).get k=tR (λ_=>none) (ns j) nb k:=λ{k x} r V ⟨O,Q,R,G⟩=>by
  have X:j+1<=x:=by
   by_cases h:x<=j
   ·have:=l.le h (by omega);omega
   ·omega
  cases u:nb with
  |none=>rw[u]at t;simp only[yM]at t;omega
  |some b=>
   have g:k=ns j:=by rw[u]at t;simp only[yM]at t;omega
   have h0:=a8 (by rw[u];simp);refine⟨X,?_⟩;have N:(hs (j+1)).get k=some b:=by rw[hh,u];exact aqd g
   have ac:∀y,j+1<=y->y<=x->(hs y).get k=some b:=by
    intro y A ae
    induction y with
    |zero=>omega
    |succ y ih=>
     by_cases e:y=j
     ·subst e;exact N
     ·have ab:=ih (by omega) (by omega)
      have a7:y<ops.length:=by omega
      have K:ops[y]? =some ops[y]:=aqm a7;have a6:k<ns y:=by have:=l.le (a:=j+1) (b:=y) (by omega) (by omega);omega
      by_cases H:eN (ops[y]).op=2
      ·have f:uV ops y:=⟨_,K,H⟩
       have a9:S y=true:=by
        cases h:S y with
        |true=>rfl
        |false=>have:=G y f (by omega) (by simp[h,e]);omega
       rcases l.made j y o _ z K h0 H (by omega) (I.be y a9)with h|h
       ·omega
       ·rw[<-g]at h
        rw[<-h];exact N
      ·rw[(l.jN y _ K).keep H a6];exact ab
   rw[ac x X (aqf _)];exact(aqd g).symm
 refine⟨_,_,n.next hx l I z hp l2 (hv.mono λk p g=>?_) hD kp (λk x m s=>?_) (λk x y m s A=>?_) (λx aa a2=>n.Cy x aa λi r f=>?_) (λk g=>?_)⟩
 ·have:=B.hr.lt g
  rw[Nm.iG this];exact l1 k p g
 ·by_cases h:ns j<=k/\k<ns (j+1)
  ·rw[aqd h]
   exact(Y h.1 h.2 s).2.symm
  ·rw[aqc h]
   rw[M k h]at m;exact n.hg k x m (U s)
 ·by_cases h:ns j<=k/\k<ns (j+1)
  ·obtain⟨E,F⟩:=Y h.1 h.2 s
   rw[ea h.2]at m;rw[F]at A;obtain⟨q,hq⟩:=atz.1 m;exact((B.hr.ob k y q.1 q.2 A hq).FF B.hr.top).mono (l.le E s.1)
  ·rw[M k h]at m
   exact n.hb k x y m (U s) A
 ·have:=a2 i r f
  simpa[W f]using this
 ·by_cases h:ns j<=k/\k<ns (j+1)
  ·exact .inr ⟨j,J,by simp,h.1,h.2⟩
  ·rw[M k h]at g
   rcases n.own k g with r|⟨i,E,F,e3⟩
   ·exact .inl r
   ·exact .inr ⟨i,E,by simp[F],e3⟩
def YZ.row(g:TX ops)(f:YZ ops S j)(b:uV ops j):(∀i,uV ops i->S i=true->i<j)/\∀i,i<j->uV ops i->S i=true:=by
 obtain⟨o,q,m⟩:=b;have h:∀i,uV ops i->i=j\/nH ops i j=true:=λi ⟨p,k,l⟩=>g.row i j p o k q l m;refine⟨λi b d=>?_,λi r b=>?_⟩
 ·rcases h i b with e|e
  ·subst e;rw[f.no]at d;cases d
  ·simp only[nH,ara]at e
   rcases e with e|e
   ·by_cases n:i=j
    ·subst n;rw[f.no]at d;cases d
    ·have:=g.le e;omega
   ·rw[f.be i d]at e;cases e
 ·rcases h i b with e|e
  ·omega
  ·simp only[nH,ara]at e
   rcases e with e|e
   ·exact f.ah i e (by omega)
   ·have:=g.le e;omega
def jM.ahT(R:TX ops)(l:HW P Dk w0 ops ts hs ns)(m:jM P Dk w0 ops ts hs ns ρ0 a0 ws S ρ C a w)(I:YZ ops S j)(K:ops[j]? =some o)(hp:BD o.dst c (ts j) (ts (j+1)))(a3:eN o.op=2)
 (B:KP P w0 (Nm.cut ρ (ns j)) (hs j).get (ns j) w ρ1 (hs (j+1)).get (ns (j+1)) w1)
 (hv:KR ρ1 c v) (hD:∀d∈D,Dk d):∃ρ2 Y,jM P Dk w0 ops ts hs ns ρ0 a0 ws (λi=>S i||i==j) ρ2 Y (({a with defers:=D++a.defers}:Act).put o.dst v) w1:=by
 have J:=(aqh.1 K).1;have Q:uV ops j:=⟨o,K,a3⟩;have a4:=m.free l I J;have a6:=l.mono j J;have a1:=l.le (aqI j) (by omega);have a5:=l.le (a:=j+1) (by omega) (aqf _);obtain⟨M,r2⟩:=I.row R Q;obtain⟨a2,_,_⟩:=m.at l (by omega:j<=ops.length) M r2;obtain⟨kp,l1,l2⟩:=m.kp.merge B a1 a5 a2 a4;have X:∀{k x},k<ns (j+1)->Gd ops ns (λi=>S i||i==j) k x->j+1<=x/\(hs x).get k=(hs (j+1)).get k:=λ{k x} g ⟨E,N,F,G⟩=>by
  have U:j<x:=F j Q (by simp);refine⟨U,l.RA U E (λi r H f=>?_) g⟩;have z:S i=false:=by
   cases h:S i with
   |false=>rfl
   |true=>have:=M i f h;omega
  have:=G i f H (by simp[z];omega);have:=l.le (a:=j+1) (b:=i) r (by omega);omega
 have W:∀{k x},ns (j+1)<=k->Gd ops ns (λi=>S i||i==j) k x->Gd ops ns S k x:=λ{k x} g ⟨E,N,F,G⟩=>⟨E,N,λi f z=>F i f (by simp[z]),λi f n z=>by
  by_cases e:i=j
  ·subst e;omega
  ·exact G i f n (by simp[z,e])⟩
 refine⟨_,_,m.next R l I K hp l2 (hv.mono λk p g=>?_) hD kp (λk x n s=>?_) (λk x y n s L=>?_) (λx V O=>?_) (λk g=>?_)⟩
 ·have:=B.hr.lt g
  rw[Nm.iG this];exact l1 k p g
 ·by_cases h:k<ns (j+1)
  ·rw[ea h]
   exact(X h s).2.symm
  ·rw[gT (by omega)]at n⊢
   exact m.hg k x n (W (by omega) s)
 ·by_cases h:k<ns (j+1)
  ·obtain⟨t,u⟩:=X h s
   rw[ea h]at n;rw[u]at L;obtain⟨q,hq⟩:=atz.1 n;exact((B.hr.ob k y q.1 q.2 L hq).FF B.hr.top).mono (l.le t s.1)
  ·rw[gT (by omega)]at n
   exact m.hb k x y n (W (by omega) s) L
 ·by_cases h:x<=j
  ·exact m.Cy x V λi r f=>by
    have:=O i r f;have e:i≠j:=by omega
    simpa[e]using this
  ·refine l.ahS (a:=j+1) (by omega) V (λi r H f=>?_) B.hr.Cy
   have:=O i H f;have e:i≠j:=by omega
   have:S i=true:=by simpa[e]using this
   have:=M i f this;omega
 ·by_cases h:k<ns (j+1)
  ·by_cases Z:ns j<=k
   ·exact .inr ⟨j,J,by simp,Z,h⟩
   ·rw[ea h,B.ro k (by omega),Nm.iG (by omega)]at g
    rcases m.own k g with r|⟨i,t,u,A⟩
    ·exact .inl r
    ·exact .inr ⟨i,t,by simp[u],A⟩
  ·rw[gT (by omega)]at g
   rcases m.own k g with r|⟨i,t,u,A⟩
   ·exact .inl r
   ·exact .inr ⟨i,t,by simp[u],A⟩
def jM.reads(n:TX ops)(t:HW P Dk w0 ops ts hs ns)(O:jM P Dk w0 ops ts hs ns ρ0 a0 ws S ρ C a w)(H:YZ ops S j)(s:ops[j]? =some o)(hp:BD o.dst c (ts j) (ts (j+1)))(L:eN o.op=1)(hw:Bi ops o.guard ((ts j).res (mE ops o)) true)
 (hf:PK P w0 o ((ts j).res (mE ops o)) (hs j) c):∃v,(execOp a.eval o).run P w=.ok (.value v) w/\KR (Nm.cut ρ (ns j)) c v:=by
 have aj:=(aqh.1 s).1;have W:=O.ane n t H s;by_cases K:(∀i,uV ops i->S i=true->i<j)/\∀i,i<j->uV ops i->S i=true
 ·exact hf _ a w _ W (O.at t (by omega:j<=ops.length) K.1 K.2).2.1
 have ac:∀{i},uV ops i->i≠j:=λ{i} Q e=>by
  subst e;obtain⟨o',f,k⟩:=Q;obtain rfl:=aql (s.symm.trans f);omega
 have a4:∀i b,uV ops i->uV ops b->i<b->S b=true->S i=true:=λi b ⟨p,f,k⟩ ⟨G,a5,a6⟩ E ae=>by
  rcases n.row i b p G f a5 k a6 with e|e
  ·omega
  ·simp only[nH,ara]at e
   rcases e with e|e
   ·exact H.cl i b ae e
   ·have:=n.le e;omega
 obtain⟨m,x,Q,ah,M,e1,e2⟩:∃m x,uV ops m/\(x=m\/x=m+1)/\nH ops j m=false/\(∀i,uV ops i->S i=true->i<x)/\∀i,i<x->uV ops i->S i=true:=by
  by_cases Y:∃i,i<ops.length/\(uV ops i/\S i=true/\j<i)
  ·obtain⟨m,ab,⟨F,A,ak⟩,a9⟩:=H4 (λi=>uV ops i/\S i=true/\j<i) ops.length Y
   refine⟨m,m+1,F,.inr rfl,?_,λi l z=>?_,λi E l=>?_⟩
   ·cases h:nH ops j m with
    |false=>rfl
    |true=>
     simp only[nH,ara]at h;rcases h with h|h
     ·rw[H.be m A]at h;cases h
     ·have:=n.le h;omega
   ·by_cases h:i<m+1
    ·exact h
    ·exact absurd ⟨l,z,by omega⟩ (a9 i (by omega) (by obtain⟨p,f,_⟩:=l;exact(aqh.1 f).1))
   ·by_cases h:i=m
    ·subst h;exact A
    ·exact a4 i m l F (by omega) A
  ·have a1:∀i,uV ops i->S i=true->i<j:=λi l z=>by
    by_cases h:i<j
    ·exact h
    ·exact absurd ⟨i,by obtain⟨p,f,_⟩:=l;exact(aqh.1 f).1,l,z,by have:=ac l;omega⟩ Y
   obtain⟨i0,h0⟩:∃i,i<j/\uV ops i/\S i=false:=by
    apply Classical.byContradiction;intro R;refine K ⟨a1,λi E l=>?_⟩;cases h:S i with
    |true=>rfl
    |false=>exact absurd ⟨i,E,l,h⟩ R
   have ai:∀i,(i<j/\uV ops i/\S i=false)->∃m,(m<j/\uV ops m/\S m=false)/\∀b,b<m->¬(b<j/\uV ops b/\S b=false):=by
    intro i
    induction i using Nat.strongRecOn with
    |_ i ih=>
     intro h;by_cases hh:∃b,b<i/\(b<j/\uV ops b/\S b=false)
     ·obtain⟨b,f,k⟩:=hh
      exact ih b f k
     ·exact⟨i,h,λb f k=>hh ⟨b,f,k⟩⟩
   obtain⟨m,⟨al,F,A⟩,aa⟩:=ai i0 h0;refine⟨m,m,F,.inl rfl,?_,λi l z=>?_,λi E l=>?_⟩
   ·cases h:nH ops j m with
    |false=>rfl
    |true=>
     simp only[nH,ara]at h;rcases h with h|h
     ·have:=n.le h;omega
     ·have:=H.ah m h (by omega);rw[A]at this;cases this
   ·rcases arV i m with h|h|h
    ·exact h
    ·subst h;rw[A]at z;cases z
    ·have:=a4 m i F l h z
     rw[A]at this;cases this
   ·cases h:S i with
    |true=>rfl
    |false=>exact absurd ⟨by omega,l,h⟩ (aa i E)
 obtain⟨p,I,U⟩:=Q;have ab:=(aqh.1 I).1;have af:Bj P w0 ops o (ts ops.length) (hs x):=by
  have:=t.rd j m o p s I L U M;rcases ah with e|e
  ·subst e;exact this.1
  ·subst e;exact this.2
 have a7:=(O.at t (by omega:x<=ops.length) e1 e2).2.2;have a3:mD ρ ((ts ops.length).res (mE ops o)) a:=by
  intro y c' B;rw[Tr.mX]at B;have V:mE ops o y=true:=by
   cases h:mE ops o y with
   |true=>rfl
   |false=>rw[h]at B;cases B
  rw[aqd V]at B;have ag:∀(i:Nat) q,ops[i]? =some q->q.dst=some y->i<j:=λi q hq a2=>by
   have k:=V;unfold mE at k;rw[ara]at k;rcases k with h|h
   ·have r:=n.rd j m o p s I L U M i q y hq (auW.1 h) a2
    have:=n.le r.1;omega
   ·split at h
    ·rename_i g hg
     obtain⟨G,f,k⟩:=asx.1 (by simpa using h:oE ops g.1=some y);have r:=n.gd j o g s hg;obtain rfl:i=g.1:=gD n.inj i g.1 q G y hq f a2 k;have:=n.le r.1;omega
    ·cases h
  rw[t.tX (a:=j) (by omega) (aqf _) λi f k q r J=>by have:=ag i q r J;omega]at B;obtain⟨u,f,k⟩:=W y c' (by rw[Tr.mX,aqd V];exact B);exact⟨u,f,k.mono (Nm.J0 ρ _)⟩
 rcases af with R|⟨d,X,N,Z,ad⟩
 ·have f:=hw _ a W o rfl
  have k:=R _ a a3 o rfl;rw[f]at k;cases k
 ·obtain⟨v,f,k⟩:=ad ρ a w _ a3 a7
  have a8:X=c:=by
   have r:=Z;rw[t.tX (a:=j+1) (by omega) (aqf _) λb f k G r J=>by have:=gD n.inj b j G o d r s J N;omega,(hp.2 d N).2 d,aqd rfl]at r;cases r;rfl
  subst a8;exact⟨v,f,t.bl j m o p d X s I L U M N Z ρ v k⟩
end
end
end
section
open Go Go.RowKit MapKept
section
variable{P:Program}{Dk:Deferred->Prop}{w0:World}{T:TypeId->bj}
def Ri.inv{ops:List Oper}{o:Oper}(hs:Ri P Dk w0 ops o y D e I N F):
 (∃c,Bi ops o.guard (y.res (mE ops o)) true/\ji P Dk w0 o (y.res (mE ops o)) D e c N F/\BD o.dst c y I)\/(N=D/\F=e/\Bi ops o.guard (y.res (mE ops o)) false/\BD o.dst (.v undef) y I):=by
 cases hs with
 |run c h i g d f b=>exact .inl ⟨c,d,f,b⟩
 |skip g d b=>exact .inr ⟨rfl,rfl,d,b⟩
section
variable{ops:List Oper}{ts:Nat->Tr CV}{hs:Nat->Tr cO}{ns:Nat->Nat}{ρ0 ρ:Nm}{a0 a:Act}{ws w:World}{S:Nat->Bool}{C:KH}{j:Nat}{o:Oper}
def jM.step(l:TX ops)(f:HW P Dk w0 ops ts hs ns)(b:jM P Dk w0 ops ts hs ns ρ0 a0 ws S ρ C a w)(g:YZ ops S j)(d:ops[j]? =some o){next:Act->World->Prop}{Q:Exit->Act->World->Prop}
 (q:∀Y L I y,jM P Dk w0 ops ts hs ns ρ0 a0 ws (λi=>S i||i==j) Y L I y->next I y):wpOp P ops.toArray Q j next a w:=by
 have a1:=(aqh.1 d).1;have u:=b.ane l f g d;have V:ops.toArray[j]? =some o:=by simpa using d
 unfold wpOp;rw[V];simp only;rcases(f.jN j o d).inv with⟨c,x,m,n⟩|⟨s,t,x,n⟩
 ·rw[x _ a u o rfl,aqd rfl]
  refine .inl ?_;by_cases J:eN o.op=0
  ·unfold ji at m
   rw[J]at m;obtain⟨cf,nb,O,U,R,X⟩:=m;refine X _ a w (λ_=>none) (ns j) u (.empty b.kp.hr.ext) next Q λv y D ⟨Z,B,F⟩ A=>?_
   obtain⟨z,r,e⟩:=b.aet l f g d n (by omega) U R (λ_=>J) B (by rw[O];exact F) A;exact q _ _ _ _ e
  ·by_cases K:eN o.op=1
   ·unfold ji at m
    rw[K]at m;obtain⟨s,t,W⟩:=m;obtain⟨v,M,N⟩:=b.reads l f g d n K x W;refine dY M ?_;obtain⟨z,r,e⟩:=b.aet (nb:=none) (D:=[]) l f g d n (by omega) t (λk=>by rw[s];rfl) (λh=>absurd rfl h) (.refl (.empty b.kp.hr.ext)) N (by simp);exact q _ _ _ _ e
   ·have e:eN o.op=2:=by
     have:eN o.op=0\/eN o.op=1\/eN o.op=2:=by
      unfold eN;split<;>simp
     omega
    obtain⟨G,H⟩:=g.row l ⟨o,d,e⟩;have E:=(b.at f (by omega:j<=ops.length) G H).2.1;refine m.fk _ a w u E next Q λv y D ⟨Z,B,F⟩ A=>?_
    obtain⟨z,r,p⟩:=b.ahT l f g d n e B F A;exact q _ _ _ _ p
 ·rw[x _ a u o rfl,aqc (by simp)]
  by_cases e:eN o.op=2
  ·obtain⟨G,H⟩:=g.row l ⟨o,d,e⟩
   have E:=(b.at f (by omega:j<=ops.length) G H).2.1;obtain⟨z,r,p⟩:=b.ahT (D:=[]) (v:=undef) l f g d n e (by rw[s,t];exact .refl E) .v (by simp);exact q _ _ _ _ p
  ·obtain⟨z,r,p⟩:=b.aet (nb:=none) (D:=[]) (v:=undef) l f g d n e t (λk=>by rw[s];rfl) (λh=>absurd rfl h) (.refl (.empty b.kp.hr.ext)) .v (by simp)
   exact q _ _ _ _ p
def jM.fin(G:TX ops)(s:HW P Dk w0 ops ts hs ns)(d:jM P Dk w0 ops ts hs ns ρ0 a0 ws S ρ C a w)(l:∀i,i<ops.length->S i=true):
 mD ρ (ts ops.length) a/\KP P w0 ρ0 (hs 0).get (ns 0) ws ρ (hs ops.length).get (ns ops.length) w/\Df Dk a0 a:=by
 have F:∀i,uV ops i->i<ops.length:=λi ⟨p,b,_⟩=>(aqh.1 b).1;obtain⟨b,_,_⟩:=d.at s (aqf _) (λi B _=>F i B) (λi r _=>l i r);refine⟨λx c m=>?_,d.kp.agree (λk y=>?_) (d.Cy _ (aqf _) λi r _=>l i r),d.df⟩
 ·by_cases n:∃(i:Nat) (p:Oper),ops[i]? =some p/\p.dst=some x
  ·obtain⟨i,p,z,D⟩:=n
   obtain⟨v,b,e⟩:=d.t1 i p x c z D (l i (aqh.1 z).1) m;exact⟨v,b,e.mono (Nm.J0 ρ _)⟩
  ·rw[s.tX (aqI _) (aqf _) λt b e u f g=>n ⟨t,u,f,g⟩]at m
   obtain⟨v,b,e⟩:=d.t0 x c (λt u f g=>absurd ⟨t,u,f,g⟩ n) m;exact⟨v,b,e.mono (Nm.J0 ρ _)⟩
 ·have A:k<ns ops.length:=by
   rcases y with h|h
   ·have:=s.le (aqI ops.length) (aqf _);omega
   ·obtain⟨q,E⟩:=atz.1 h
    exact d.kp.hr.lt E
  exact b k A y
def jM.any(D:TX ops)(M:HW P Dk w0 ops ts hs ns){Q:Exit->Act->World->Prop}(Z:∀v p u,mD v (ts ops.length) p->KP P w0 ρ0 (hs 0).get (ns 0) ws v (hs ops.length).get (ns ops.length) u->Df Dk a0 p->Q .normal p u):
 ∀(k:Nat) (c:Array Bool) (ρ:Nm) (C:KH) (a:Act) (w:World),c.size=ops.length->oP ops (λi=>c.getD i false)->(∀m,m=(c.toList.filter (·==false)).length->m=k)->jM P Dk w0 ops ts hs ns ρ0 a0 ws (λi=>c.getD i false) ρ C a w->
 wpAny P .any ops.toArray Q k c a w:=by
 intro k
 induction k with
 |zero=>
  intro c ρ C a w B x s y;have H:∀j,j<ops.length->c.getD j false=true:=λj g=>by
   have X:(c.toList.filter (·==false)).length=0:=s _ rfl;have f:c.toList.filter (·==false)=[]:=arh X;have z:j<c.size:=by omega
   have:c[j]∈c.toList:=by simp
   have d:=au4.1 f _ this;have:c[j]=true:=by simpa using d
   simp[z,this]
  obtain⟨R,U,V⟩:=y.fin D M H;refine⟨?_,Z _ _ _ R U V⟩;rw[arX];intro j g;obtain⟨f,o,q,_⟩:=asX.1 g;have J:j<ops.length:=by
   have:=(aqU.1 q).1;simp at this;exact this
  have d:=H j J;rw[atF f]at d;cases d
 |succ k ih=>
  intro c ρ C a w B x s y;have aa:∃j,j<ops.length/\c.getD j false=false:=by
   have f:(c.toList.filter (·==false)).length=k+1:=s _ rfl;have d:c.toList.filter (·==false)≠[]:=λh=>by rw[h]at f;simp at f
   obtain⟨b,l⟩:=ath _ d;obtain⟨a1,a2⟩:=ar_.1 l;obtain⟨j,g,a6⟩:=aqY a1;refine⟨j,by rw[<-B];simp at g;exact g,?_⟩;have z:j<c.size:=by simp at g;exact g
   have:c[j]=b:=by simpa using a6
   have a3:b=false:=by simpa using a2
   simp[z,this,a3]
  refine⟨λa9=>?_,λj g=>?_⟩
  ·exfalso
   obtain⟨j,a4,a5⟩:=aa;have:∀j,j<ops.length->c.getD j false=false->False:=by
    intro j
    induction j using Nat.strongRecOn with
    |_ j ae=>
     intro f d;have q:ops[j]? =some ops[j]:=aqm f;by_cases A:∀e∈(ops[j]).after,Region.binds .any e=true->c.getD e.on false=true
     ·have:j∈Region.ready .any ops.toArray c:=asX.2 ⟨getD_in (by omega) d,ops[j],by simp,A⟩
      rw[a9]at this;cases this
     ·simp only[au5]at A
      obtain⟨e,he,l,a8⟩:=A;have r:=D.back j _ q e he l;exact ae e.on r (by omega) (by simpa using a8)
   exact this j a4 a5
  ·obtain⟨f,o,q,N⟩:=asX.1 g
   have t:ops[j]? =some o:=by simpa using q
   have J:j<ops.length:=(aqh.1 t).1;have I:c.getD j false=false:=atF f;refine y.step D M (YZ.of t x I N) t λv O p u W=>?_;have F:(λi=>(c.setIfInBounds j true).getD i false)=λi=>c.getD i false||i==j:=by
    funext i;by_cases n:i=j
    ·subst n
     simp[ary,show i<c.size by omega]
    ·have d:¬j=i:=λh=>n h.symm
     simp[ary,aua,d,n]
   refine ih _ v O p u (by simpa using B) ?_ ?_ (by rw[F];exact W)
   ·rw[F]
    intro i oi K ab E G l;by_cases n:i=j
    ·subst n
     obtain rfl:=aql (t.symm.trans K);simp[N E G l]
    ·have ac:c.getD i false=true:=by simpa[n]using ab
     have:=x i oi K ac E G l;simp[this]
   ·intro m a7
    have d:(c.toList.filter (·==false)).length=k+1:=s _ rfl;have Y:∀(L:List Bool) (j:Nat),L[j]? =some false->((L.set j true).filter (·==false)).length+1=(L.filter (·==false)).length:=by
     intro L
     induction L with
     |nil=>intro j h;simp at h
     |cons b L ad=>
      intro j h;cases j with
      |zero=>simp at h;subst h;simp
      |succ j=>
       have:=ad j (by simpa using h);cases b<;>simp_all<;>omega
    have h4:=Y c.toList j (by
     have r:j<c.size:=by omega
     have:c[j]=false:=by simpa[r]using I
     simp[r,this])
    rw[as4]at a7;omega
def jM.init(J:TX ops)(f:HW P Dk w0 ops ts hs ns)(F:mD ρ (ts 0) a)(d:HR P w0 ρ (hs 0).get (ns 0) w)(m:∀i,S i=false):jM P Dk w0 ops ts hs ns ρ a w S ρ (hs 0).get a w:=by
 have s:∀k,ρ k≠none->k<ns 0:=λk b=>by
  obtain⟨q,r⟩:=atz.1 b;exact d.lt r
 have z:∀{k x},k<ns 0->Gd ops ns S k x->(hs x).get k=(hs 0).get k:=λ{k x} b ⟨A,H,I,B⟩=>f.RA (aqI _) A (λi l e n=>by
  have:=B i n e (m i);have:=f.le (aqI i) (by omega);omega) b
 refine⟨.wide d (f.le (aqI _) (aqf _)),λi o x c _ _ t=>?_,λx c _ E=>?_,λk x h g=>?_,λk x y h g u=>?_,λx G D=>?_,λk b=>.inl (s k b),.refl a⟩
 ·rw[m i]at t;cases t
 ·obtain⟨v,l,e⟩:=F x c E
  exact⟨v,l,e.mono λk p b=>by rw[Nm.iG (d.lt b)];exact b⟩
 ·exact(z (h.elim id (s k)) g).symm
 ·rw[z (s k h) g]at u
  obtain⟨q,r⟩:=atz.1 h;exact((d.ob k y q.1 q.2 u r).FF d.top).mono (f.le (aqI _) g.1)
 ·exact f.ahS (aqI _) G (λi l e n=>by have:=D i e n;rw[m i]at this;cases this) d.Cy
end
def aeu{r:u}{l:FuncId->Bool}{n:KC u}(M:P.follows .mixedOrders=true)(G:f_ P T)(E:∀b o c,GT b o c->w0.cell? ⟨b,o,none⟩=some c)(F:jE Dk l)(H:gu P w0 n){ops:Array Oper}{k:KK u}(K:We T l n ops.toList k y D e=some r):
 ∃x p v,k x p v=some r/\∀id ρ a w Q,mD ρ y a->HR P w0 ρ D.get e w->(∀h d g,mD h x d->KP P w0 ρ D.get e w h p.get v g->Df Dk a d->Q .normal d g)->(Code.region id ops true).wp P Q a w:=by
 obtain⟨t,ts,hs,ns,rfl,rfl,rfl,s,L⟩:=YU G E F H K;refine⟨_,_,_,L,λid ρ a w Q R q O=>wp_region_any M ?_⟩;have I:HR P w0 ρ (hs 0).get (ns 0) w.drew:=q.drew;have J:=jM.init (S:=λi=>(Array.replicate ops.size false).getD i false) t s R I λi=>ati ..;refine jM.any (ρ0:=ρ) (a0:=a) (ws:=w.drew) t s (λh d g z A B=>O h d g z ((KP.drew q).trans A) B) _ _ ρ _ a _ (by simp) ?_ ?_ J
 ·intro j o U f
  have f:(Array.replicate ops.size false).getD j false=true:=f;rw[ati]at f;cases f
 ·intro m N
  rw[N];simp
end
end
variable{C:FuncId->Bool}
section
open Go Go.RowKit MapKept
section
variable{P:Program}{Dk:Deferred->Prop}{w0:World}{T:TypeId->bj}{R:Type}{r:R}
def ahU(kn:KK R)(kx:Nat->KK R)(kr:KK R):Exit->KK R
 |.normal=>kn
 |.exit i=>kx i
 |.ret=>kr
 |_=>λ_ _ _=>none
def CK(P:Program)(Dk:Deferred->Prop)(w0:World)(c:Code)(t:Tr CV)(h:Tr cO)(n:Nat)(x:Exit)(t':Tr CV)(h':Tr cO)(n':Nat):Prop:=
 ∀ρ a w Q,mD ρ t a->HR P w0 ρ h.get n w->(∀ρ' a' w',mD ρ' t' a'->KP P w0 ρ h.get n w ρ' h'.get n' w'->Df Dk a a'->Q x a' w')->c.wp P Q a w
def OV{O:KC R}(hm:P.follows .mixedOrders=true)(hT:f_ P T)(hG:∀b o u,GT b o u->w0.cell? ⟨b,o,none⟩=some u)(ac:jE Dk C)(hc:gu P w0 O)(c:Code):
 ∀{A:KK R} {B:Nat->KK R} {E:KK R} {t:Tr CV} {h:Tr cO} {n:Nat},OO T C O a c A B E t h n=some r->∃x K H J,ahU A B E x K H J=some r/\CK P Dk w0 c t h n x K H J:=by
 induction c with
 |skip=>intro A B E t h n k;exact⟨.normal,t,h,n,k,λρ d w Q f g j=>wp_skip (j ρ d w f (.refl g) (.refl d))⟩
 |label l=>intro A B E t h n k;exact⟨.normal,t,h,n,k,λρ d w Q f g j=>wp_label (j ρ d w f (.refl g) (.refl d))⟩
 |exit i=>intro A B E t h n k;exact⟨.exit i,t,h,n,k,λρ d w Q f g j=>wp_exit (j ρ d w f (.refl g) (.refl d))⟩
 |ret=>intro A B E t h n k;exact⟨.ret,t,h,n,k,λρ d w Q f g j=>wp_ret (j ρ d w f (.refl g) (.refl d))⟩
 |region id a0 dr=>
  intro A B E t h n k;cases dr with
  |true=>
   have q:We T C O a0.toList A t h n=some r:=k;obtain⟨K,H,J,D,hw⟩:=aeu hm hT hG ac hc q;exact⟨.normal,K,H,J,D,λρ d w Q f g j=>hw id ρ d w Q f g j⟩
  |false=>
   have q:YP T C O a0.toList a0.toList A t h n=some r:=k;obtain⟨K,H,J,D,hw⟩:=Wi hT hG ac hc a0.toList 0 rfl q;refine⟨.normal,K,H,J,D,λρ d w Q f g j=>wp_region ?_⟩;have:=hw ρ d w Q f g j;rw[<-avt]at this;simpa using this
 |seq d b a9 aa=>
  intro A B E t h n k;obtain⟨F,y,p,s,q,z⟩:=a9 k;cases F with
  |normal=>
   obtain⟨X,W,I,V,D,N⟩:=aa q;exact⟨X,W,I,V,D,λρ d w Q f g j=>asf (z ρ d w _ f g λρ1 a1 w1 a7 U a3=>N ρ1 a1 w1 Q a7 U.hr λρ2 a2 w2 a8 ab a4=>j ρ2 a2 w2 a8 (U.trans ab) (a3.trans a4))⟩
  |exit i=>exact⟨.exit i,y,p,s,q,λρ d w Q f g j=>asf (z ρ d w _ f g j)⟩
  |ret=>exact⟨.ret,y,p,s,q,λρ d w Q f g j=>asf (z ρ d w _ f g j)⟩
  |_=>cases q
 |cond x d b a9 aa=>
  intro A B E t h n k;obtain⟨v,hv,q⟩:=bV k;obtain⟨bb,rfl,D⟩:=Q4 q;rcases dt D with⟨rfl,a5⟩|⟨rfl,a5⟩
  ·obtain⟨F,y,p,s,a6,z⟩:=a9 a5
   exact⟨F,y,p,s,a6,λρ d w Q f g j=>wp_cond_true (hv ρ d f).bE (z ρ d w Q f g j)⟩
  ·obtain⟨F,y,p,s,a6,z⟩:=aa a5
   exact⟨F,y,p,s,a6,λρ d w Q f g j=>wp_cond_false (hv ρ d f).bE (z ρ d w Q f g j)⟩
 |block id b S=>
  intro A B E t h n k;obtain⟨F,y,p,s,q,z⟩:=S k;cases F with
  |normal=>exact⟨.normal,y,p,s,q,λρ d w Q f g j=>wp_block (z ρ d w _ f g j)⟩
  |exit i=>
   have Z:bB (Nat.beq i id) A (B i) y p s=some r:=q;rcases hb:Nat.beq i id with _|_
   ·have e:=hb
    rw[e]at Z;have D:B i y p s=some r:=Z;have ad:=iO e;exact⟨.exit i,y,p,s,D,λρ d w Q f g j=>wp_block (z ρ d w _ f g λM G L p I h3=>by
     show(if i=id then Q .normal G L else Q (.exit i) G L);rw[aqc ad];exact j M G L p I h3)⟩
   ·have e:=hb
    rw[e]at Z;have D:A y p s=some r:=Z;obtain rfl:=dW e;exact⟨.normal,y,p,s,D,λρ d w Q f g j=>wp_block (z ρ d w _ f g λM G L p I h3=>by
     show(if i=i then Q .normal G L else _);rw[aqd rfl];exact j M G L p I h3)⟩
  |ret=>exact⟨.ret,y,p,s,q,λρ d w Q f g j=>wp_block (z ρ d w _ f g j)⟩
  |_=>cases q
 |loop b S=>
  intro A B E t h n k;have ag:∀(Y:Nat) {t:Tr CV} {h:Tr cO} {n:Nat},aeo Y (OO T C O a b) B E t h n=some r->
   ∃m x K H J,x≠.normal/\ahU A B E x K H J=some r/\∀ρ d w Q,mD ρ t d->HR P w0 ρ h.get n w->(∀M G L,mD M K G->KP P w0 ρ h.get n w M H.get J L->Df Dk d G->Q x G L)->Code.rounds P b Q m d w:=by
   intro Y
   induction Y with
   |zero=>intro t h n k;cases k
   |succ Y af=>
    intro t h n k;obtain⟨F,y,p,s,q,z⟩:=S k;cases F with
    |normal=>
     obtain⟨m,X,W,I,V,ae,D,N⟩:=af q;exact⟨m+1,X,W,I,V,ae,D,λρ d w Q f g j=>z ρ d w _ f g λρ1 a1 w1 a7 U a3=>N ρ1 a1 w1 Q a7 U.hr λρ2 a2 w2 a8 ab a4=>j ρ2 a2 w2 a8 (U.trans ab) (a3.trans a4)⟩
    |exit i=>exact⟨1,.exit i,y,p,s,by simp,q,λρ d w Q f g j=>z ρ d w _ f g j⟩
    |ret=>exact⟨1,.ret,y,p,s,by simp,q,λρ d w Q f g j=>z ρ d w _ f g j⟩
    |_=>cases q
  obtain⟨m,X,W,I,V,_,D,N⟩:=ag a k;exact⟨X,W,I,V,D,λρ d w Q f g j=>wp_loop_rounds m (N ρ d w Q f g j)⟩
 |scope b S=>
  intro A B E t h n k;obtain⟨F,y,p,s,q,z⟩:=S k;cases F with
  |normal=>exact⟨.normal,y,p,s,q,λρ d w Q f g j=>auY (z ρ d w _ f g j)⟩
  |exit i=>exact⟨.exit i,y,p,s,q,λρ d w Q f g j=>auY (z ρ d w _ f g j)⟩
  |ret=>exact⟨.ret,y,p,s,q,λρ d w Q f g j=>auY (z ρ d w _ f g j)⟩
  |_=>cases q
 |_=>intro A B E t h n k;cases k
end
end
variable{h:List CV}
section
open Go Go.RowKit MapKept
section
variable{P:Program}{Dk:Deferred->Prop}{w0:World}{T:TypeId->bj}{R:Type}{r:R}
def KP.later{w h:World}(c:HR P w0 j O a w)(d:Ext w h):KP P w0 j O a w j O a h:=by
 have k:=KP.refl c;exact⟨⟨c.ext.trans d,λx y b m g f=>(c.ob x y b m g f).mono (zY.refl j) (d.bJ b (c.ob x y b m g f).lt),c.lo,c.inj,c.top,c.Cy⟩,aqf _,λ_ _=>rfl,d.size,
  λb e i=>⟨d.bJ b e,(k.fr b e i).2⟩,k.ol,k.fz⟩
def sE{g:Func}{k:Array Value}{Q:Ending->World->Prop}:∀(D:List Deferred) (w:World),Ext w0 w->(∀d∈D,Fb P w0 d)->(∀a,Ext w a->∃v,(results g k).run P a=.ok v a/\Q (.returned v) a)->Leaves P g k Q D .returning w
 |[],w,_,_,b=>b w (Ext.refl w)
 |d::D,w,h,i,b=>by
  obtain⟨p,m,f,l,y,z⟩:=i d (by simp);obtain⟨q,s⟩:=z w h;refine⟨(by intro e;cases e),p,m,f,l,y,q,λc n u=>?_⟩;obtain⟨e,C,a,o,⟨⟨v,rfl⟩,rfl,j⟩,t⟩:=s c n u;exact⟨.returned v,.returning,a,o,sE D a (h.trans j) (λd x=>i d (by simp[x])) λB A=>b B (j.trans A),t⟩
def Wn:∀{l:List CV} {i:Nat} {t:Tr CV} {k:Tr CV->Option R},anb l i t k=some r->∃g,k g=some r/\(∀j,g.get j=if i<=j/\j<i+l.length then l[j - i]? else t.get j)/\∀j,i<=j->j<i+l.length->∃x,t.get j=some x
 |[],i,t,k,h=>⟨t,h,λj=>by rw[aqc (by simp only[aq5];omega)],λj d b=>by simp at b;omega⟩
 |c::l,i,t,k,h=>by
  obtain⟨u,d,⟨x,p⟩,e⟩:=Tr.mo h;obtain⟨q,b,n,o⟩:=Wn (l:=l) d;refine⟨q,b,λj=>?_,λj s m=>?_⟩
  ·rw[n,e]
   simp only[aqC];by_cases a:j=i
   ·subst a
    rw[aqc (by omega),aqd rfl,aqd (by omega)];simp
   ·by_cases f:i+1<=j/\j<i+1+l.length
    ·rw[aqd f,aqd (by omega),show j - i=(j - (i+1))+1 by omega]
     rfl
    ·rw[aqc f,aqc a,aqc (by omega)]
  ·by_cases a:j=i
   ·subst a;exact⟨x,p⟩
   ·have:=o j (by omega) (by simp at m;omega)
    rw[e,aqc a]at this;exact this
def ag4{cs:List CV}(f:LR (KR j) cs s)(aY:∀b,y.get b=if 0<=b/\b<0+cs.length then cs[b - 0]? else(Tr.fill (.v undef) 64 a).get b)(eK:∀b,0<=b->b<0+cs.length->∃x,(Tr.fill (CV.v undef) 64 a).get b=some x):
 mD j y {tmps:=s.toArray++Array.replicate (a - s.toArray.size) undef,defers:=[]}:=by
 intro i c d;rw[aY]at d;have l:=f.1;by_cases k:i<cs.length
 ·rw[aqd (by omega)]at d
  obtain⟨u,g,h⟩:=f.get (by simpa using d);refine⟨u,?_,h⟩;have e:i<s.length:=by omega
  simp[atf,e];rw[aqm e]at g;simpa using g
 ·rw[aqc (by omega)]at d
  obtain⟨rfl,m⟩:=Tr.jl d;refine⟨undef,?_,.v⟩;have e:¬i<s.length:=by omega
  simp only[atf,ar3,aqc e,Array.getElem?_replicate];rw[aqd (by omega)]
def J3(q:f_ P T)(n:∀b o u,GT b o u->w0.cell? ⟨b,o,none⟩=some u){h:Tr cO}{t:Tr CV}:∀{rs:List ResultVar} {k:List CV->Option R},akc T h t rs k=some r->
 ∃d,(∀ρ a w N,mD ρ t a->HR P w0 ρ h.get N w->∃f,(rs.mapM (k4 a.tmps)).run P w=.ok f w/\LR (KR ρ) d f)/\k d=some r
 |[],k,g=>⟨[],λ_ _ _ _ _ _=>⟨[],by simp,LR.nil⟩,g⟩
 |.tmp i::rs,k,g=>by
  obtain⟨c,s,z⟩:=bu g;obtain⟨d,v,A⟩:=J3 q n (rs:=rs) z;refine⟨c::d,λρ a w N j l=>?_,A⟩;obtain⟨f,D,B⟩:=v ρ a w N j l;obtain⟨u,E,C⟩:=j i c s;refine⟨u::f,?_,LR.cons C B⟩;have e:a.tmps.getD i undef=u:=by simp[ary,E]
  rw[atd];simp only[k4,aqs,aqu,aqt,D,e]
 |.cell x O::rs,k,g=>by
  obtain⟨p,I,z⟩:=bu g;obtain⟨⟨M,m⟩,J,A⟩:=bu z;obtain⟨c,s,F⟩:=ad5 (h:=h) n (q.ty _ _ J) A;obtain⟨d,v,G⟩:=J3 q n (rs:=rs) F;refine⟨c::d,λρ a w N j l=>?_,G⟩;obtain⟨f,D,B⟩:=v ρ a w N j l;obtain⟨u,E,C⟩:=j x p I;obtain⟨b,o,y,K,H,L⟩:=s ρ w u N l C;refine⟨y::f,?_,LR.cons L B⟩;have e:a.tmps.getD x undef=u:=by simp[ary,E]
  rw[atd];simp only[k4,aqs,e,K,asAddr,aqu,aqt,H,D]
def ag5(b:LR (KR j) h s):KR j (YQ h) (if a:s.toArray.size=1 then s.toArray[0]else .tuple s.toArray):=by
 match h,s,b with
 |[],[],b=>exact .tu [] rfl (by simp)
 |[c],[u],b=>simpa[YQ]using b.2 0 c u rfl rfl
 |c::d::h,u::e::s,b=>
  have:¬(u::e::s).toArray.size=1:=by simp
  rw[dif_neg this];exact .tu _ b.1 b.2
 |[],u::s,b=>have:=b.1;simp at this
 |[c],[],b=>have:=b.1;simp at this
 |[c],u::e::s,b=>have:=b.1;simp at this
 |c::d::h,[],b=>have:=b.1;simp at this
 |c::d::h,[u],b=>have:=b.1;simp at this
def Fo{a:Func}{us:List Value}(h:(a.results.toList.mapM (k4 B)).run P m=.ok us m):(results a B).run P m=.ok (if h:us.toArray.size=1 then us.toArray[0]else .tuple us.toArray) m:=by
 have b:(a.results.mapM (k4 B)).run P m=.ok us.toArray m:=by
  rw[aup];simp only[atg,h];rfl
 rw[u0];simp only[aqs,b,aqt,aqu]
def Rm{α:Type}:∀(l:List α) (i:Nat),atL l i=l[i]?
 |[],i=>by cases i<;>rfl
 |x::l,0=>rfl
 |x::l,i+1=>by
  show atL l i=l[i]?;exact Rm l i
structure EOk(P:Program)(w0:World)(E:OP):Prop where
 fs:P.funcs.toList=E.fs
 may:∀f,Nat.testBit E.may f=true->Enters P f
 idle:jE (Fb P w0) λf=>Nat.testBit E.idle f
def OW{E:OP}{C:KC R}(hm:P.follows .mixedOrders=true)(G:f_ P T)(F:∀b o u,GT b o u->w0.cell? ⟨b,o,none⟩=some u)(q:EOk P w0 E)(M:gu P w0 C):gu P w0 (OQ (R:=R) T E a C):=by
 intro f cs h n k r S;obtain⟨a0,U⟩:=bd S;obtain⟨p,H,V⟩:=bu U;obtain⟨c,L,W⟩:=bu V;obtain⟨t,X,aY,eK⟩:=Wn W;obtain⟨x,t',j,l,s,N⟩:=OV hm G F q.idle M c X;have Q:P.funcs[f]? =some p:=by
  rw[Rm,<-q.fs]at H;simpa using H
 have A:(x=.normal\/x=.ret)/\(akc T j t' p.results.toList λm=>k (YQ m) j l)=some r:=by
  cases x with
  |normal=>exact⟨.inl rfl,s⟩
  |ret=>exact⟨.inr rfl,s⟩
  |_=>cases s
 obtain⟨A,Y⟩:=A;obtain⟨m,a1,Z⟩:=J3 G F Y;refine⟨YQ m,j,l,⟨q.may f a0,λρ w vs hs z=>auE Q L (N ρ _ w _ (ag4 z aY eK) hs λg i B a3 y ⟨D,J,O⟩=>?_)⟩,Z⟩;have K:∀d∈i.defers,Fb P w0 d:=by rw[O];simpa using J
 have:Leaves P p i.tmps (λe B=>∃v g,e=.returned v/\KP P w0 ρ h.get n w g j.get l B/\KR g (YQ m) v) i.defers .returning B:=by
  refine sE _ _ y.hr.ext K λa5 a4=>?_;have I:=KP.later y.hr a4;obtain⟨us,a2,z⟩:=a1 g i a5 l a3 I.hr;exact⟨_,Fo a2,_,g,rfl,y.trans I,ag5 z⟩
 rcases A with rfl|rfl<;>exact this
end
end
variable{G:Nat->Option Nat}
section
open Go Go.RowKit MapKept
section
variable{P:Program}{Dk:Deferred->Prop}{w0:World}{T:TypeId->bj}{R:Type}{r:R}
inductive nI(m:Nat->Option Nat):CV->CV->Prop
 |v {x}:nI m (.v x) (.v x)
 |pt {k o k'} (h:m k=some k'):nI m (.pt k o) (.pt k' o)
 |sl {k o n c k'} (h:m k=some k'):nI m (.sl k o n c) (.sl k' o n c)
 |gl {g o}:nI m (.gl g o) (.gl g o)
 |ag {cs} (ds:List CV) (hl:ds.length=cs.length) (hc:∀(j:Nat) c d,cs[j]? =some c->ds[j]? =some d->nI m c d):nI m (.ag cs) (.ag ds)
 |tu {cs} (ds:List CV) (hl:ds.length=cs.length) (hc:∀(j:Nat) c d,cs[j]? =some c->ds[j]? =some d->nI m c d):nI m (.tu cs) (.tu ds)
 |cl {fn fs cs} (es ds:List CV) (hl:es.length=fs.length) (hl2:ds.length=cs.length) (hc:∀(j:Nat) c d,fs[j]? =some c->es[j]? =some d->nI m c d)
  (hc2:∀(j:Nat) c d,cs[j]? =some c->ds[j]? =some d->nI m c d):nI m (.cl fn fs cs) (.cl fn es ds)
def MLe(m m':Nat->Option Nat):Prop:=∀j i,m j=some i->m' j=some i
def nI.mono{m i:Nat->Option Nat}(g:MLe m i)(h:nI m d A):nI i d A:=by
 induction h with
 |v=>exact .v
 |pt h=>exact .pt (g _ _ h)
 |sl h=>exact .sl (g _ _ h)
 |gl=>exact .gl
 |ag a b e c=>exact .ag a b c
 |tu a b e c=>exact .tu a b c
 |cl j a b k e n c l=>exact .cl j a b k c l
def nI.one(h:nI G d A):A.one=d.one:=by cases h<;>rfl
def nI.kr{ρ w:Nm}(t:∀j i,G j=some i->∀p,ρ j=some p->w i=some p)(h:nI G d A):∀{u:Value},KR ρ d u->KR w A u:=by
 induction h with
 |v=>intro u a;cases a;exact .v
 |pt h=>intro u a;cases a with|pt n=>exact .pt (t _ _ h _ n)
 |sl h=>intro u a;cases a with|sl n D x y z=>exact .sl (t _ _ h _ n) D x y z
 |gl=>intro u a;cases a;exact .gl
 |ag o e q l=>
  intro u a;cases a with
  |ag m k g=>
   refine .ag m (k.trans e.symm) λj A u c a=>?_;have b:=(aqh.1 c).1;rw[e]at b;exact l j _ A (aqm b) c (g j _ u (aqm b) a)
 |tu o e q l=>
  intro u a;cases a with
  |tu m k g=>
   refine .tu m (k.trans e.symm) λj A u c a=>?_;have b:=(aqh.1 c).1;rw[e]at b;exact l j _ A (aqm b) c (g j _ u (aqm b) a)
 |cl H o e s q I l E=>
  intro u a;cases a with
  |cl m F k C g B=>
   refine .cl m F (k.trans e.symm) (C.trans s.symm) (λj A u c a=>?_) (λj A u c a=>?_)
   ·have b:=(aqh.1 c).1
    rw[e]at b;exact l j _ A (aqm b) c (g j _ u (aqm b) a)
   ·have b:=(aqh.1 c).1
    rw[s]at b;exact E j _ A (aqm b) c (B j _ u (aqm b) a)
def J4(m:Nat->Option Nat)(t t':Tr CV):Prop:=∀q c',t'.get q=some c'->∃c,t.get q=some c/\nI m c c'
def J4.mono{m a:Nat->Option Nat}(j:MLe m a){t b:Tr CV}(h:J4 m t b):J4 a t b:=λq c i=>let⟨d,e,g⟩:=h q c i;⟨d,e,g.mono j⟩
structure Sn(src:Tr cO)(fz:Bool)(d0:Tr cO)(n0:Nat)(m0 b0:Tr Nat)(d:Tr cO)(n:Nat)(m b:Tr Nat):Prop where
 le:n0<=n
 ml:MLe m0.get m.get
 nw:∀j i,m.get j=some i->m0.get j=some i\/(n0<=i/\i<n/\m0.get j=none/\b.get i=some j/\∃cs N e wr cs',src.get j=some (.ce cs N e wr)/\d.get i=some (.ce cs' N e (bB fz false wr))/\J4 m.get cs cs')
 bn:∀i,n0<=i->i<n->∃j,b.get i=some j/\m.get j=some i/\m0.get j=none
 bo:∀i,¬(n0<=i/\i<n)->b.get i=b0.get i
 dd:∀i,¬(n0<=i/\i<n)->d.get i=d0.get i
section
variable{src:Tr cO}{fz:Bool}{d0:Tr cO}{n0:Nat}{m0 b0:Tr Nat}
def Sn.refl:Sn src fz d0 n0 m0 b0 d0 n0 m0 b0:=⟨aqf _,λ_ _ h=>h,λ_ _ h=>.inl h,λi a b=>by omega,λ_ _=>rfl,λ_ _=>rfl⟩
def ag6(src:Tr cO)(fz:Bool)(d0:Tr cO)(n0:Nat)(m0 b0:Tr Nat)(f:CV->Tr cO->Nat->Tr Nat->Tr Nat->Rg R CV->Option R):Prop:=
 ∀c d n m b k (r:R),Sn src fz d0 n0 m0 b0 d n m b->f c d n m b k=some r->∃c' d' n' m' b',Sn src fz d0 n0 m0 b0 d' n' m' b'/\MLe m.get m'.get/\nI m'.get c c'/\k c' d' n' m' b'=some r
variable{f:CV->Tr cO->Nat->Tr Nat->Tr Nat->Rg R CV->Option R}
def Aa(v:ag6 src fz d0 n0 m0 b0 f):∀{l:List CV} {d n m b} {k:Rg R (List CV)} {r:R},Sn src fz d0 n0 m0 b0 d n m b->snL f l d n m b k=some r->
 ∃a u z g t,Sn src fz d0 n0 m0 b0 u z g t/\MLe m.get g.get/\(a.length=l.length/\∀(j:Nat) c e,l[j]? =some c->a[j]? =some e->nI g.get c e)/\k a u z g t=some r
 |[],d,n,m,b,k,r,p,o=>⟨[],d,n,m,b,p,λ_ _ h=>h,⟨rfl,by simp⟩,o⟩
 |c::l,d,n,m,b,k,r,p,o=>by
  obtain⟨e,N,Q,O,M,E,I,L,G⟩:=v _ _ _ _ _ _ _ p o;obtain⟨a,B,K,J,A,F,w,⟨C,D⟩,H⟩:=Aa v (l:=l) E G;refine⟨e::a,B,K,J,A,F,λj i h=>w _ _ (I _ _ h),⟨by simp[C],λj x y q s=>?_⟩,H⟩;cases j with
  |zero=>simp at q s;subst q;subst s;exact L.mono w
  |succ j=>exact D j x y (by simpa using q) (by simpa using s)
def J5(o:ag6 src fz d0 n0 m0 b0 f):∀{t:Tr CV} {d n m b} {k:Rg R (Tr CV)} {r:R},Sn src fz d0 n0 m0 b0 d n m b->snT f t d n m b k=some r->
 ∃U I O p H,Sn src fz d0 n0 m0 b0 I O p H/\MLe m.get p.get/\J4 p.get t U/\k U I O p H=some r
 |.lf,d,n,m,b,k,r,B,A=>⟨.lf,d,n,m,b,B,λ_ _ h=>h,λq c h=>(by cases h),A⟩
 |.nd l x S,d,n,m,b,k,r,B,A=>by
  obtain⟨N,d1,n1,m1,Y,L,J,Q,M⟩:=J5 o (t:=l) B A;cases x with
  |none=>
   obtain⟨F,u,E,D,s,z,e,G,C⟩:=J5 o (t:=S) L M;refine⟨.nd N none F,u,E,D,s,z,λj i h=>e _ _ (J _ _ h),λq c h=>?_,C⟩;rw[Tr.iF]at h⊢;by_cases g:q=0
   ·rw[aqd g]at h;cases h
   ·rw[aqc g]at h⊢
    by_cases a:q % 2=1
    ·rw[aqd a]at h⊢;obtain⟨y,v,w⟩:=Q _ c h;exact⟨y,v,w.mono e⟩
    ·rw[aqc a]at h⊢;exact G _ c h
  |some x=>
   obtain⟨X,d3,n3,m3,Z,a,K,W,V⟩:=o _ _ _ _ _ _ _ L M;obtain⟨F,u,E,D,s,z,e,G,C⟩:=J5 o (t:=S) a V;refine⟨.nd N (some X) F,u,E,D,s,z,λj i h=>e _ _ (K _ _ (J _ _ h)),λq c h=>?_,C⟩;rw[Tr.iF]at h⊢;by_cases g:q=0
   ·rw[aqd g]at h⊢;cases h;exact⟨x,rfl,W.mono e⟩
   ·rw[aqc g]at h⊢
    by_cases a:q % 2=1
    ·rw[aqd a]at h⊢;obtain⟨y,v,w⟩:=Q _ c h;exact⟨y,v,w.mono λj i h=>e _ _ (K _ _ h)⟩
    ·rw[aqc a]at h⊢;exact G _ c h
def Wo(hf:ag6 src fz d0 n0 m0 b0 f){d n m b}{k:Rg R Nat}{r:R}(I:Sn src fz d0 n0 m0 b0 d n m b)(q:agZ src fz f a d n m b k=some r):
 ∃i D L u C,Sn src fz d0 n0 m0 b0 D L u C/\MLe m.get u.get/\u.get a=some i/\k i D L u C=some r:=by
 unfold agZ at q;cases A:m.get a with
 |some i=>rw[A]at q;exact⟨i,d,n,m,b,I,λ_ _ h=>h,A,q⟩
 |none=>
  rw[A]at q;obtain⟨Q,N,e,wr,a5,a0⟩:=zZ q;obtain⟨S,d1,B,J,b1,l,l1,r1,a1⟩:=J5 hf I a0;obtain⟨t,a2⟩:=bd a1;have t:J.get a=none:=by simpa using t
  obtain⟨W,a3,y⟩:=Tr.nG a2;obtain⟨K,a4,s⟩:=Tr.nG a3;obtain⟨O,G,p⟩:=Tr.nG a4;rw[fm]at G;have a7:=l.le;have o:MLe J.get K.get:=λj c x=>by
   rw[s,aqc]
   ·exact x
   ·intro e;subst e;rw[t]at x;cases x
  have H:m0.get a=none:=by
   cases h:m0.get a with
   |none=>rfl
   |some i=>have:=l.ml _ _ h;rw[t]at this;cases this
  refine⟨B,W,B+1,K,O,⟨by omega,λj c h=>o _ _ (l.ml _ _ h),λj c h=>?_,λi z a6=>?_,λi z=>?_,λi z=>?_⟩,λj c h=>o _ _ (l1 _ _ h),by rw[s,aqd rfl],G⟩
  ·rw[s]at h
   by_cases F:j=a
   ·subst F
    rw[aqd rfl]at h;cases h;exact .inr ⟨by omega,by omega,H,by rw[p,aqd rfl],Q,N,e,wr,S,a5,by rw[y,aqd rfl],r1.mono o⟩
   ·rw[aqc F]at h
    rcases l.nw j c h with g|⟨v,E,w,Y,U,M,X,wr2,V,Z,g6,g7⟩
    ·exact .inl g
    ·exact .inr ⟨v,by omega,w,by rw[p,aqc (by omega)];exact Y,U,M,X,wr2,V,Z,by rw[y,aqc (by omega)];exact g6,g7.mono o⟩
  ·by_cases eK:i=B
   ·subst eK
    exact⟨a,by rw[p,aqd rfl],by rw[s,aqd rfl],H⟩
   ·obtain⟨j,v,E,w⟩:=l.bn i z (by omega)
    exact⟨j,by rw[p,aqc eK];exact v,o _ _ E,w⟩
  ·rw[p,aqc (by omega)];exact l.bo i (by omega)
  ·rw[y,aqc (by omega)];exact l.dd i (by omega)
def Rn:∀N,ag6 src fz d0 n0 m0 b0 (snC (R:=R) src fz N)
 |0=>λc d n m b k r w e=>by cases e
 |N+1=>λc d n m b k r w e=>by
  have B:=Rn N;cases c with
  |v x=>
   have:k (.v x) d n m b=some r:=by
    cases x with
    |int F z=>rw[<-e];show k (.v (.int F z)) d n m b=kI z λz=>k (.v (.int F z)) d n m b;rw[yL]
    |_=>exact e
   exact⟨_,d,n,m,b,w,λ_ _ h=>h,.v,this⟩
  |gl g o=>exact⟨_,d,n,m,b,w,λ_ _ h=>h,.gl,e⟩
  |pt j o=>
   obtain⟨i,u,A,y,t,p,s,l,a⟩:=Wo B w e;rw[fm]at a;exact⟨_,u,A,y,t,p,s,.pt l,a⟩
  |sl j o q c=>
   obtain⟨i,u,A,y,t,p,s,l,a⟩:=Wo B w e;rw[fm,fm]at a;refine⟨.sl i o q c,u,A,y,t,p,s,.sl l,?_⟩;cases c with
   |none=>exact a
   |some c=>simp only[fm]at a;exact a
  |ag E=>
   obtain⟨D,u,A,y,t,p,s,⟨l,C⟩,a⟩:=Aa B w e;exact⟨_,u,A,y,t,p,s,.ag D l C,a⟩
  |tu E=>
   obtain⟨D,u,A,y,t,p,s,⟨l,C⟩,a⟩:=Aa B w e;exact⟨_,u,A,y,t,p,s,.tu D l C,a⟩
  |cl W X E=>
   obtain⟨D,u,A,y,t,p,s,⟨l,C⟩,a⟩:=Aa B w e;obtain⟨S,I,V,U,H,L,G,⟨J,K⟩,Q⟩:=Aa B p a;exact⟨_,I,V,U,H,L,λ_ _ h=>G _ _ (s _ _ h),.cl D S l J (λj c d M O=>(C j c d M O).mono G) K,Q⟩
  |mp j=>cases e
