/- part 8 -/
import Derived.Test.YtillffjlojlhoaaGreatDoorZWholeSound7
set_option linter.all false
noncomputable section
open Go Go.RowKit
set_option maxRecDepth 100000
open Nat (beq blt ble)
namespace Go.Proofs.YtillffjlojlhoaaGreatDoor
variable{I:In}{d h:Nat}{a:Type}{N j:Id}{M i:GE}
section
inductive Tr(α:Type)where
 |lf
 |nd (l:Tr α) (x:Option α) (r:Tr α)
def bB(b:In)(x y:a):a:=Bool.rec (motive:=λ_=>a) y x b
def oB{α R:Type}(o:At α)(k:α->At R):At R:=Option.rec (motive:=λ_=>At R) none k o
def kN(n:Nat)(k:Nat->a):a:=Nat.rec (motive:=λ_=>a) (k 0) (λm _=>k (Nat.succ m)) n
def kI(x:Int)(k:Int->a):a:=Int.rec (motive:=λ_=>a) (λn=>kN n λm=>k (Int.ofNat m)) (λn=>kN n λm=>k (Int.negSucc m)) x
def fY(n:Nat)(k:Nat->a):kN n k=k n:=by cases n<;>rfl
def Dy(x:Int)(k:Int->a):kI x k=k x:=by
 cases x with
 |ofNat n=>exact fY n λm=>k (Int.ofNat m)
 |negSucc n=>exact fY n λm=>k (Int.negSucc m)
def bG{α R:Type}{o:At α}{k:α->At R}{r:R}(h:oB o k=some r):∃x,o=some x/\k x=some r:=by
 cases o with
 |none=>cases h
 |some x=>exact⟨x,rfl,h⟩
def dR{x y:At a}{r:a}(h:bB I x y=some r):(I=true/\x=some r)\/(I=false/\y=some r):=by
 cases I with
 |true=>exact .inl ⟨rfl,h⟩
 |false=>exact .inr ⟨rfl,h⟩
def bj{x:At a}{r:a}(h:bB I x none=some r):I=true/\x=some r:=by
 cases I with
 |true=>exact⟨rfl,h⟩
 |false=>cases h
def Tr.get:Tr a->Nat->At a:=Tr.rec (motive:=λ_=>Nat->At a) (λ_=>none)
 (λ_ x _ b c i=>bB (beq i 0) x (bB (beq (Nat.mod i 2) 1) (b (Nat.div i 2)) (c (Nat.sub (Nat.div i 2) 1))))
def Tr.put{α R:Type}(c:α):Tr α->Nat->(Tr α->At R)->At R:=Tr.rec (motive:=λ_=>Nat->(Tr α->At R)->At R) (λ_ _=>none)
 (λl x r b d i k=>bB (beq i 0) (oB x λ_=>k (.nd l (some c) r)) (bB (beq (Nat.mod i 2) 1) (b (Nat.div i 2) λa=>k (.nd a x r)) (d (Nat.sub (Nat.div i 2) 1) λe=>k (.nd l x e))))
def Tr.new{α R:Type}(c:At α):Nat->Tr α->Nat->(Tr α->At R)->At R:=Nat.rec (motive:=λ_=>Tr α->Nat->(Tr α->At R)->At R) (λ_ _ _=>none)
 (λ_ a t=>Tr.rec (motive:=λ_=>Nat->(Tr α->At R)->At R)
  (λi k=>bB (beq i 0) (k (.nd .lf c .lf)) (bB (beq (Nat.mod i 2) 1) (a .lf (Nat.div i 2) λl=>k (.nd l none .lf)) (a .lf (Nat.sub (Nat.div i 2) 1) λr=>k (.nd .lf none r))))
  (λl x r _ _ i k=>bB (beq i 0) (k (.nd l c r)) (bB (beq (Nat.mod i 2) 1) (a l (Nat.div i 2) λb=>k (.nd b x r)) (a r (Nat.sub (Nat.div i 2) 1) λd=>k (.nd l x d)))) t)
def Tr.fill(c:a):Nat->Nat->Tr a:=Nat.rec (motive:=λ_=>Nat->Tr a) (λ_=>.lf)
 (λ_ b n=>bB (beq n 0) .lf (.nd (b (Nat.div n 2)) (some c) (b (Nat.div (Nat.sub n 1) 2))))
def Tr.jM(l:Tr a)(x:At a)(r:Tr a)(i:Nat):(Tr.nd l x r).get i=if i=0 then x else if i % 2=1 then l.get (i/2)else r.get (i/2 - 1):=by
 show bB (beq i 0) x (bB (beq (i % 2) 1) (l.get (i/2)) (r.get (i/2 - 1)))=_;by_cases c:i=0
 .subst c;rfl
 .have e0:Nat.beq i 0=false:=by cases h:Nat.beq i 0;·rfl
                                .exact absurd (awb h) c
  rw[e0,av2 c];by_cases b:i % 2=1
  .rw[av3 b,b];rfl
  .have d:Nat.beq (i % 2) 1=false:=by cases h:Nat.beq (i % 2) 1;·rfl
                                      .exact absurd (awb h) b
   rw[d,av2 b];rfl
def Tr.WH(i:Nat):(Tr.lf:Tr a).get i=none:=rfl
def rO(c:At a)(i:Nat)(t b:Tr a):Prop:=∀j,b.get j=if j=i then c else t.get j
def rO.left{c:At a}{l g r:Tr a}{x:At a}(i:d % 2=1)(h:rO c (d/2) l g):rO c d (.nd l x r) (.nd g x r):=λj=>by
 rw[Tr.jM,Tr.jM];by_cases e:j=0
 .subst e;rw[av3 rfl,av3 rfl,av2 bv]
 .rw[av2 e,av2 e]
  by_cases b:j % 2=1
  .rw[av3 b,av3 b,h]
   by_cases f:j=d
   .rw[av3 (by rw[f]),av3 f]
   .rw[av2 bv,av2 f]
  .rw[av2 b,av2 b,av2 bv]
def rO.right{c:At a}{l r g:Tr a}{x:At a}(i:¬d=0)(k:¬d % 2=1)(h:rO c (d/2 - 1) r g):rO c d (.nd l x r) (.nd l x g):=λj=>by
 rw[Tr.jM,Tr.jM];by_cases e:j=0
 .subst e;rw[av3 rfl,av3 rfl,av2 bv]
 .rw[av2 e,av2 e]
  by_cases b:j % 2=1
  .rw[av3 b,av3 b,av2 bv]
  .rw[av2 b,av2 b,h]
   by_cases f:j=d
   .rw[av3 (by rw[f]),av3 f]
   .rw[av2 bv,av2 f]
def rO.here{c:At a}{l r:Tr a}{x:At a}:rO c 0 (.nd l x r) (.nd l c r):=λj=>by
 rw[Tr.jM,Tr.jM];by_cases h:j=0<;>simp[h]
def eL(a:beq d h=true):d=h:=awb a
def ks(a:beq d h=false):¬d=h:=λe=>by rw[e,awD]at a;cases a
def Tr.oM{α R:Type}{c:α}{r:R}:∀{t:Tr α} {i:Nat} {k:Tr α->At R},Tr.put c t i k=some r->∃d,k d=some r/\(∃x,t.get i=some x)/\rO (some c) i t d
 |.lf,i,k,h=>by cases h
 |.nd l x j,i,k,h=>by
  change bB _ _ _=_ at h;rcases dR h with⟨b,h⟩|⟨b,h⟩
  .obtain rfl:=eL b
   obtain⟨y,rfl,h⟩:=bG h;exact⟨_,h,⟨y,by rw[Tr.jM,av3 rfl]⟩,rO.here⟩
  .have b:=ks b
   rcases dR h with⟨a,h⟩|⟨a,h⟩
   .have a:i % 2=1:=eL a
    obtain⟨d,e,g,f⟩:=Tr.oM (t:=l) h;exact⟨_,e,by rw[Tr.jM,av2 b,av3 a];exact g,rO.left a f⟩
   .have a:¬i % 2=1:=ks a
    obtain⟨d,e,g,f⟩:=Tr.oM (t:=j) h;exact⟨_,e,by rw[Tr.jM,av2 b,av2 a];exact g,rO.right b a f⟩
def Tr.qS{α R:Type}{c:At α}{r:R}:∀{N:Nat} {t:Tr α} {i:Nat} {k:Tr α->At R},Tr.new c N t i k=some r->∃t',k t'=some r/\rO c i t t'
 |0,t,i,k,h=>by cases h
 |N+1,t,i,k,h=>by
  have m:∀l x d,(∀j,t.get j=(Tr.nd l x d).get j)->bB (beq i 0) (k (.nd l c d)) (bB (beq (Nat.mod i 2) 1) (Tr.new c N l (Nat.div i 2) λo=>k (.nd o x d)) (Tr.new c N d (Nat.sub (Nat.div i 2) 1) λp=>k (.nd l x p)))=some r->
   ∃t',k t'=some r/\rO c i t t':=by
   intro l x d n h;have g:∀{t'},rO c i (.nd l x d) t'->rO c i t t':=λe j=>by rw[e j,n j]
   rcases dR h with⟨b,h⟩|⟨b,h⟩
   .obtain rfl:=eL b
    exact⟨_,h,g rO.here⟩
   .have b:=ks b
    rcases dR h with⟨a,h⟩|⟨a,h⟩
    .have a:i % 2=1:=eL a
     obtain⟨t',f,e⟩:=Tr.qS h;exact⟨_,f,g (rO.left a e)⟩
    .have a:¬i % 2=1:=ks a
     obtain⟨t',f,e⟩:=Tr.qS h;exact⟨_,f,g (rO.right b a e)⟩
  cases t with
  |lf=>exact m .lf none .lf (λj=>by
   rw[Tr.jM];by_cases b:j=0
   .simp[b,Tr.WH]
   .by_cases a:j % 2=1<;>simp[b,a,Tr.WH]) h
  |nd l x d=>exact m l x d (λ_=>rfl) h
def Tr.kU{α:Type}{c:α}:∀{N n i:Nat} {x:α},(Tr.fill c N n).get i=some x->x=c/\i<n
 |0,n,i,x,h=>by cases h
 |N+1,n,i,x,h=>by
  change(bB (beq n 0) Tr.lf (Tr.nd (Tr.fill c N (n/2)) (some c) (Tr.fill c N ((n - 1)/2)))).get i=_ at h;cases a:beq n 0 with
  |true=>rw[a]at h;cases h
  |false=>
   rw[a]at h;have b:=ks a;change(Tr.nd _ _ _).get i=_ at h;rw[Tr.jM]at h;split at h
   .cases h;exact⟨rfl,bv⟩
   .split at h
    .have:=Tr.kU h;exact⟨this.1,bv⟩
    .have:=Tr.kU h;exact⟨this.1,bv⟩
inductive CV where
 |v (x:Value)
 |pt (k o:Nat)
 |sl (k o n:Nat) (c:cn)
 |mp (k:Nat)
 |gl (g o:Nat)
 |ag (cs:List CV)
 |tu (cs:List CV)
 |cl (fn:Fn) (fs cs:List CV)
instance:Inhabited CV:=⟨.v undef⟩
def CV.one:CV->In
 |.v x=>x.oneCell'
 |.pt .. |.sl .. |.mp _|.cl .. |.gl .. =>true
 |.ag _|.tu _=>false
abbrev Nm:=Nat->PL
inductive KR(ρ:Nm):CV->Value->Prop
 |v {x}:KR ρ (.v x) x
 |pt {k o b m} (h:ρ k=some (b,m)):KR ρ (.pt k o) (.pointer (some ⟨b,o,none⟩))
 |sl {k o n c b m cap f} (h:ρ k=some (b,m)) (ho:0<n\/o=0->f=o) (h1:n<=cap) (h3:∀x,c=some x->cap=x) (h4:c=none->o=0->cap=m):KR ρ (.sl k o n c) (.slice (some ⟨b,f,none⟩) n cap)
 |mp {k b m} (h:ρ k=some (b,m)):KR ρ (.mp k) (.map (some b))
 |gl {g o}:KR ρ (.gl g o) (.pointer (some ⟨g,o,none⟩))
 |ag {cs} (us:bI) (hl:us.length=cs.length) (hc:∀(j:Nat) c u,cs[j]? =some c->us[j]? =some u->KR ρ c u):KR ρ (.ag cs) (.agg us.toArray)
 |tu {cs} (us:bI) (hl:us.length=cs.length) (hc:∀(j:Nat) c u,cs[j]? =some c->us[j]? =some u->KR ρ c u):KR ρ (.tu cs) (.tuple us.toArray)
 |cl {fn fs cs} (us xs:bI) (hl:us.length=fs.length) (hl2:xs.length=cs.length) (hc:∀(j:Nat) c u,fs[j]? =some c->us[j]? =some u->KR ρ c u)
  (hc2:∀(j:Nat) c u,cs[j]? =some c->xs[j]? =some u->KR ρ c u):KR ρ (.cl fn fs cs) (.func fn us.toArray xs.toArray)
def EN(ρ a:Nm):Prop:=∀k p,ρ k=some p->a k=some p
def EN.refl(ρ:Nm):EN ρ ρ:=λ_ _ h=>h
def KR.mono{ρ g:Nm}(e:EN ρ g){c:CV}(h:KR ρ c j):KR g c j:=by
 induction h with
 |v=>exact .v
 |pt h=>exact .pt (e _ _ h)
 |sl h n i k l=>exact .sl (e _ _ h) n i k l
 |mp h=>exact .mp (e _ _ h)
 |gl=>exact .gl
 |ag d a f b=>exact .ag d a b
 |tu d a f b=>exact .tu d a b
 |cl d p a m f q b o=>exact .cl d p a m b o
def KR.kT{ρ:Nm}{c:CV}(h:KR ρ c j)(a:c.one=true):j.oneCell'=true:=by
 cases h with
 |v=>simpa[CV.one]using a
 |ag=>simp[CV.one]at a
 |tu=>simp[CV.one]at a
 |_=>rfl
def KR.bS{ρ:Nm}(h:KR ρ (.v j) N):N=j:=by cases h;rfl
def KR.Ao{ρ:Nm}(a:KR ρ (.pt d h) j):∃b m,ρ d=some (b,m)/\j=.pointer (some ⟨b,h,none⟩):=by
 cases a with
 |pt a=>exact⟨_,_,a,rfl⟩
def KR.fI{ρ:Nm}{cs:Do CV}(h:KR ρ (.ag cs) j):∃a,j=.agg a.toArray/\LR (KR ρ) cs a:=by
 cases h with
 |ag a c b=>exact⟨a,rfl,c,b⟩
def KR.HM{ρ:Nm}{cs:Do CV}(h:KR ρ (.tu cs) j):∃a,j=.tuple a.toArray/\LR (KR ρ) cs a:=by
 cases h with
 |tu a c b=>exact⟨a,rfl,c,b⟩
inductive di where
 |ce (cs:Tr CV) (n:Nat) (ext:cn) (wr:Bool)
 |ma (t:TypeId) (es:List (Value×CV)) (wr:Bool)
def di.wr:di->In
 |.ce _ _ _ b=>b
 |.ma _ _ b=>b
abbrev KH:=Nat->At di
variable{P:Fd}{w0:GE}
def BR(P:Fd)(ρ:Nm)(w:GE)(b m:Nat):di->Prop
 |.ce h n ext _=>∃t a,w.heap[b]? =some (.cells a t (0,0))/\n<=a.size/\(∀j c,h.get j=some c->j<n/\∃u,a[j]? =some u/\KR ρ c u/\c.one=true)/\∀g,ext=some g->a.size=m*g
 |.ma t i _=>∃d z e f,mapA P t=some (d,z)/\w.heap[b]? =some (.map e f)/\KE (KR ρ) d i e f
def BR.lt{ρ:Nm}{x:di}(a:BR P ρ i d h x):d<i.heap.size:=by
 cases x with
 |ce f n ext wr=>obtain⟨t,j,a,_⟩:=a;exact(awS.1 a).1
 |ma t g wr=>obtain⟨b,z,c,e,_,a,_⟩:=a;exact(awS.1 a).1
def BR.mono{ρ q:Nm}{w p:GE}{b m:Nat}{x:di}(h:BR P ρ w b m x)(i:EN ρ q)(o:p.heap[b]? =w.heap[b]?):BR P q p b m x:=by
 cases x with
 |ce B n ext wr=>
  obtain⟨t,A,e,f,g,v⟩:=h;exact⟨t,A,by rw[o];exact e,f,λj c y=>let⟨l,u,a,b,c⟩:=g j c y;⟨l,u,a,b.mono i,c⟩,v⟩
 |ma t C wr=>
  obtain⟨d,z,r,s,e,f,g⟩:=h;exact⟨d,z,r,s,e,by rw[o];exact f,g.imp λ_ _ k=>k.mono i⟩
structure HR(P:Program)(w0:World)(ρ:Nm)(h:KH)(n:Nat)(w:World):Prop where
 ext:Ext w0 w
 ob:∀k x b m,h k=some x->ρ k=some (b,m)->BR P ρ w b m x
 lo:∀k x b m,h k=some x->ρ k=some (b,m)->w0.heap.size<=b
 inj:∀k k' x x' b m m',h k=some x->h k'=some x'->ρ k=some (b,m)->ρ k'=some (b,m')->x.wr=true->k=k'
 top:∀k,n<=k->ρ k=none
 HH:∀k,n<=k->h k=none
def HR.lt{ρ:Nm}{a:KH}(e:HR P w0 ρ a d i){p:Nat×Nat}(b:ρ h=some p):h<d:=by
 by_cases c:h<d
 .exact c
 .rw[e.top h bv]at b;cases b
def HR.lth{ρ:Nm}{a:KH}(e:HR P w0 ρ a d i){x:di}(b:a h=some x):h<d:=by
 by_cases c:h<d
 .exact c
 .rw[e.HH h bv]at b;cases b
def ai_(ρ:Nm)(h:KH)(b:Nat):Prop:=∀k x m,h k=some x->x.wr=true->ρ k≠some (b,m)
structure KP(P:Program)(w0:World)(ρ:Nm)(h:KH)(n:Nat)(w:World)(ρ':Nm)(h':KH)(n':Nat)(w':World):Prop where
 hr:HR P w0 ρ' h' n' w'
 nn:n<=n'
 ro:∀k,k<n->ρ' k=ρ k
 sz:w.heap.size<=w'.heap.size
 fr:∀b,b<w.heap.size->ai_ ρ h b->w'.heap[b]? =w.heap[b]? /\∀k x m,n<=k->h' k=some x->ρ' k≠some (b,m)
 ol:∀k x',k<n->h' k=some x'->∃x,h k=some x/\x.wr=x'.wr
 fz:∀k x,k<n->h k=some x->x.wr=false->h' k=some x
def KP.le{ρ c:Nm}{a e:KH}(f:KP P w0 ρ a d i c e h M)(g:HR P w0 ρ a d i):EN ρ c:=λk p b=>by rw[f.ro k (g.lt b)];exact b
def KP.refl{ρ:Nm}{h:KH}(c:HR P w0 ρ h d i):KP P w0 ρ h d i ρ h d i:=
 ⟨c,av5 _,λ_ _=>rfl,av5 _,λb g j=>⟨rfl,λk x m e a=>by rw[c.HH k e]at a;cases a⟩,λk f _ a=>⟨f,a,rfl⟩,λk x _ a _=>a⟩
def KP.trans{ρ p z:Nm}{h i q:KH}{n o u:Nat}{w v y:GE}(a:KP P w0 ρ h n w p i o v)(b:KP P w0 p i o v z q u y):KP P w0 ρ h n w z q u y:=by
 have J:=a.nn;refine⟨b.hr,awH a.nn b.nn,λk d=>(b.ro k bv).trans (a.ro k d),awH a.sz b.sz,λc E s=>?_,λk H d e=>?_,λk x d e g=>?_⟩
 .obtain⟨j,r⟩:=a.fr c E s
  have F:ai_ p i c:=λk x m e g=>by
   by_cases d:k<n
   .obtain⟨f,l,G⟩:=a.ol k x d e
    rw[a.ro k d];exact s k f m l (G.trans g)
   .exact r k x m bv e
  obtain⟨C,D⟩:=b.fr c (by have:=a.sz;omega) F;refine⟨C.trans j,λk x m d e=>?_⟩;by_cases t:k<o
  .obtain⟨f,l,_⟩:=b.ol k x t e
   rw[b.ro k t];exact r k f m d l
  .exact D k x m bv e
 .obtain⟨I,j,A⟩:=b.ol k H bv e
  obtain⟨f,B,e0⟩:=a.ol k I d j;exact⟨f,B,e0.trans A⟩
 .exact b.fz k x bv (a.fz k x d e g) g
def HR.new{ρ:Nm}{h u:KH}(g:HR P w0 ρ h d i)(x:di)(m:Nat)(j:∀k,u k=if k=d then some x else h k)(t:Ext i M)(E:i.heap.size<M.heap.size)
 (s:BR P (λk=>if k=d then some (i.heap.size,m)else ρ k) M i.heap.size m x):
 KP P w0 ρ h d i (λk=>if k=d then some (i.heap.size,m)else ρ k) u (d+1) M:=by
 have B:EN ρ (λk=>if k=d then some (i.heap.size,m)else ρ k):=λk p a=>by
  have:=g.lt a;simp only;rw[av2 bv];exact a
 have ca:∀b,b<i.heap.size->M.heap[b]? =i.heap[b]? :=λb s=>t.ca b s;refine⟨⟨g.ext.trans t,λk y b r c a=>?_,λk y b r c a=>?_,λk q y z b v w c o a l C=>?_,λk a=>?_,λk a=>?_⟩,Nat.le_succ _,λk a=>?_,t.size,λb A D=>⟨ca b A,λk y r a c=>?_⟩,λk y a c=>?_,λk y a c _=>?_⟩
 .skip
  rw[j]at c;by_cases f:k=d
  .rw[av3 f]at c a;cases c;cases a;exact s
  .rw[av2 f]at c a
   have:=g.ob k y b r c a;exact this.mono B (ca b this.lt)
 .skip
  rw[j]at c;by_cases f:k=d
  .rw[av3 f]at c a;cases a;exact g.ext.size
  .rw[av2 f]at c a
   exact g.lo k y b r c a
 .skip
  rw[j]at c o;by_cases f:k=d
  .by_cases n:q=d
   .rw[f,n]
   .rw[av3 f]at a;rw[av2 n]at l o
    cases a;have:=(g.ob q z _ w o l).lt;omega
  .rw[av2 f]at a c
   by_cases n:q=d
   .rw[av3 n]at l
    cases l;have:=(g.ob k y _ v c a).lt;omega
   .rw[av2 n]at l o
    exact g.inj k q y z b v w c o a l C
 .rw[av2 bv];exact g.top k bv
 .rw[j,av2 bv];exact g.HH k bv
 .rw[av2 bv]
 .rw[j]at c
  by_cases f:k=d
  .rw[av3 f];intro e;cases e;omega
  .rw[av2 f]at c;rw[g.HH k a]at c;cases c
 .rw[j,av2 bv]at c;exact⟨y,c,rfl⟩
 .rw[j,av2 bv];exact c
def HR.set{ρ:Nm}{h s:KH}{w p:GE}(g:HR P w0 ρ h d w){i b0 r:Nat}{m:di}(x:di)(l:h i=some m)(t:ρ i=some (b0,r))(o:m.wr=true)(v:x.wr=true)
 (j:∀k,s k=if k=i then some x else h k) (I:Ext w0 p) (H:p.heap.size=w.heap.size) (u:∀b,b≠b0->p.heap[b]? =w.heap[b]?) (E:BR P ρ p b0 r x):
 KP P w0 ρ h d w ρ s d p:=by
 have U:=g.lth l;refine⟨⟨I,λk y b n a c=>?_,λk y b n a c=>?_,λk A y O b M N a J c G q=>?_,g.top,λk c=>?_⟩,av5 _,λk c=>rfl,Nat.le_of_eq H.symm,λb S F=>⟨u b ?_,λk y n c a=>?_⟩,λk y c a=>?_,λk y c a q=>?_⟩
 .rw[j]at a
  by_cases f:k=i
  .subst f
   rw[av3 rfl]at a;rw[t]at c;cases a;cases c;exact E
  .rw[av2 f]at a
   exact(g.ob k y b n a c).mono (EN.refl ρ) (u b λe=>f (by subst e;exact(g.inj i k m y b r n l a t c o).symm))
 .rw[j]at a
  by_cases f:k=i
  .subst f;exact g.lo k m b n l c
  .rw[av2 f]at a;exact g.lo k y b n a c
 .have B:∀k y,s k=some y->∃C,h k=some C/\C.wr=y.wr:=λk y a=>by
   rw[j]at a;by_cases f:k=i
   .subst f;rw[av3 rfl]at a;cases a;exact⟨m,l,o.trans v.symm⟩
   .rw[av2 f]at a;exact⟨y,a,rfl⟩
  obtain⟨z,K,D⟩:=B k y a;obtain⟨Q,L,R⟩:=B A O J;exact g.inj k A z Q b M N K L c G (D.trans q)
 .rw[j,av2 bv];exact g.HH k c
 .intro e;subst e;exact F i m r l o t
 .rw[j,av2 bv]at a;rw[g.HH k c]at a;cases a
 .rw[j]at a
  by_cases f:k=i
  .subst f;rw[av3 rfl]at a;cases a;exact⟨m,l,o.trans v.symm⟩
  .rw[av2 f]at a;exact⟨y,a,rfl⟩
 .rw[j,av2]
  .exact a
  .intro e;subst e;rw[l]at a;cases a;rw[o]at q;cases q
def HR.kill{ρ:Nm}{a h':KH}(f:HR P w0 ρ a d i){p:di}(r:a h=some p)(s:p.wr=true)(l:∀k,h' k=if k=h then none else a k):KP P w0 ρ a d i ρ h' d i:=by
 have g:∀k y,h' k=some y->a k=some y:=λk y c=>by
  rw[l]at c;split at c
  .cases c
  .exact c
 refine⟨⟨f.ext,λk y b m c=>f.ob k y b m (g k y c),λk y b m c=>f.lo k y b m (g k y c),λk o y q b u v c t=>f.inj k o y q b u v (g k y c) (g o q t),f.top,λk j=>?_⟩,av5 _,λ_ _=>rfl,av5 _,
  λb w x=>⟨rfl,λk y m j c=>?_⟩,λk y j c=>⟨y,g k y c,rfl⟩,λk y j c n=>?_⟩
 .rw[l];split
  .rfl
  .exact f.HH k j
 .have:=g k y c;rw[f.HH k j]at this;cases this
 .rw[l,av2]
  .exact c
  .intro e;subst e;rw[r]at c;cases c;rw[s]at n;cases n
def HR.move{ρ:Nm}{h D:KH}(g:HR P w0 ρ h d i){l b0 j:Nat}{n:di}(x:di)(m:h l=some n)(t:ρ l=some (b0,j))(w:n.wr=true)(Q:x.wr=true)
 (A:∀k,D k=if k=d then some x else if k=l then none else h k) (L:Ext w0 M) (K:M.heap.size=i.heap.size) (F:∀b,b≠b0->M.heap[b]? =i.heap[b]?)
 (I:BR P (λk=>if k=d then some (b0,j)else ρ k) M b0 j x):
 KP P w0 ρ h d i (λk=>if k=d then some (b0,j)else ρ k) D (d+1) M:=by
 have O:=g.lth m;have J:EN ρ (λk=>if k=d then some (b0,j)else ρ k):=λk p a=>by
  have:=g.lt a;simp only;rw[av2 bv];exact a
 have r:∀k y,¬k=d->D k=some y->h k=some y/\¬k=l:=λk y f c=>by
  rw[A,av2 f]at c;split at c
  .cases c
  next o=>exact⟨c,o⟩
 refine⟨⟨L,λk y b z c a=>?_,λk y b z c a=>?_,λk u y C b G H c B a s v=>?_,λk a=>?_,λk a=>?_⟩,Nat.le_succ _,λk a=>?_,Nat.le_of_eq K.symm,λb N E=>⟨F b ?_,λk y z a c=>?_⟩,λk y a c=>?_,λk y a c v=>?_⟩
 .skip
  by_cases f:k=d
  .rw[av3 f]at a;rw[A,av3 f]at c;cases c;cases a;exact I
  .rw[av2 f]at a
   obtain⟨c,o⟩:=r k y f c;exact(g.ob k y b z c a).mono J (F b λe=>o (by subst e;exact(g.inj l k n y b j z m c t a w).symm))
 .skip
  by_cases f:k=d
  .rw[av3 f]at a;cases a;exact g.lo l n b0 j m t
  .rw[av2 f]at a
   exact g.lo k y b z (r k y f c).1 a
 .skip
  by_cases f:k=d
  .by_cases q:u=d
   .rw[f,q]
   .rw[av3 f]at a;rw[av2 q]at s
    cases a;obtain⟨B,o⟩:=r u C q B;exact absurd (g.inj l u n C b0 j H m B t s w).symm o
  .rw[av2 f]at a
   obtain⟨c,o⟩:=r k y f c;by_cases q:u=d
   .rw[av3 q]at s
    cases s;exact absurd (g.inj k l y n b0 G j c m a t v) o
   .rw[av2 q]at s
    exact g.inj k u y C b G H c (r u C q B).1 a s v
 .rw[av2 bv];exact g.top k bv
 .rw[A,av2 bv,av2 bv];exact g.HH k bv
 .rw[av2 bv]
 .intro e;subst e;exact E l n j m w t
 .by_cases f:k=d
  .rw[av3 f];intro e;cases e;exact E l n j m w t
  .have:=(r k y f c).1;rw[g.HH k a]at this;cases this
 .have:=r k y bv c;exact⟨y,this.1,rfl⟩
 .rw[A,av2 bv,av2]
  .exact c
  .intro e;subst e;rw[m]at c;cases c;rw[w]at v;cases v
end
variable{C:Act}{B e:CV}{s:Do CV}{A:Nat}{V:Op}{u:Oper}{v:Tr CV}{W:cn}{D:bI}
section
variable{P:Fd}{Dk:Deferred->Prop}{w0:GE}{T:EQ->bz}
def o8(ρ:Nm)(t:Tr CV)(a:Act):Prop:=∀i c,t.get i=some c->∃u,a.tmps[i]? =some u/\KR ρ c u
def o8.mono{ρ b:Nm}{t:Tr CV}{a:Act}(h:o8 ρ t a)(g:EN ρ b):o8 b t a:=λi c j=>let⟨u,e,f⟩:=h i c j;⟨u,e,f.mono g⟩
def cvK:Id->CV
 |.agg a=>.ag (a.toList.map .v)
 |x=>.v x
def LR.vs{ρ:Nm}(b:bI):LR (KR ρ) (b.map .v) b:=⟨d5,λj c u a e=>by
 rw[awp,e]at a;cases a;exact .v⟩
def Kd{ρ:Nm}(x:Id):KR ρ (cvK x) x:=by
 unfold cvK;split
 next a=>have h:=LR.vs (ρ:=ρ) a.toList;have:=KR.ag (ρ:=ρ) a.toList h.1 h.2;simpa using this
 .exact .v
def er(t:Tr CV){R:Type}(x:If)(k:CV->At R):At R:=
 Operand.rec (motive:=λ_=>(CV->At R)->At R) (λi k=>oB (t.get i) k) (λv k=>k (cvK v)) (λg k=>k (.gl g 0)) (λf k=>k (.v (.func (.func f) #[] #[]))) x k
def lE(t:Tr CV)(x:If)(c:CV):Prop:=∀ρ a,o8 ρ t a->KR ρ c (a.eval x)
def cD{t:Tr CV}{R:Type}{x:If}{k:CV->At R}{r:R}(h:er t x k=some r):∃c,lE t x c/\k c=some r:=by
 cases x with
 |tmp i=>
  obtain⟨c,l,h⟩:=bG h;refine⟨c,λρ a b=>?_,h⟩;obtain⟨u,e,j⟩:=b i c l;have:a.eval (.tmp i)=u:=by simp[Act.eval,axm,e]
  rw[this];exact j
 |const v=>exact⟨_,λρ a b=>Kd v,h⟩
 |global g=>exact⟨_,λρ a b=>.gl,h⟩
 |func f=>exact⟨_,λρ a b=>.v,h⟩
def tH(t:Tr CV){R:Type}(e:o_):(Do CV->At R)->At R:=
 List.rec (motive:=λ_=>(Do CV->At R)->At R) (λk=>k []) (λx _ b k=>er t x λc=>b λa=>k (c::a)) e
def HI{t:Tr CV}{R:Type}{r:R}:∀{xs:o_} {k:Do CV->At R},tH t xs k=some r->∃b,(∀ρ a,o8 ρ t a->LR (KR ρ) b (xs.map a.eval))/\k b=some r
 |[],k,h=>⟨[],λ_ _ _=>LR.nil,h⟩
 |x::xs,k,h=>by
  obtain⟨c,f,h⟩:=cD h;obtain⟨b,g,h⟩:=HI (xs:=xs) h;exact⟨c::b,λρ a e=>LR.cons (f ρ a e) (g ρ a e),h⟩
def Ke(P:Fd)(w0:GE)(d:Deferred):Prop:=∃c b f a,d.target=.fn c b/\∀w,Ext w0 w->(invoke d.target d.args).run P w=.ok (.enter f a) w/\CallsD P f a .returning w λe u g=>(∃v,e=.returned v)/\u=.returning/\Ext w g
def Yld(P:Fd)(Dk:Deferred->Prop)(o:Oper)(a:Act)(w:GE)(R:Id->GE->Prop):Prop:=
 ∀next Q,(∀v b D,R v b->(∀d∈D,Dk d)->next (({a with defers:=D++a.defers}:Act).put o.dst v) b)->o.wp P a w next Q
def Yld.value{w w':GE}{v:Id}{R:Id->GE->Prop}(b:(execOp C.eval u).run P w=.ok (.value v) w')(h:R v w'):Yld P Dk u C w R:=λnext Q a=>eO b (a _ _ [] h d5)
def Yld.skip{w w':GE}{R:Id->GE->Prop}(b:(execOp C.eval u).run P w=.ok .skip w')(h:R undef w'):Yld P Dk u C w R:=λnext Q a=>xC b (a _ _ [] h d5)
def FK(P:Fd)(Dk:Deferred->Prop)(w0:GE)(o:Oper)(t:Tr CV)(h:Tr di)(n:Nat)(c:CV)(e:Tr di)(f:Nat):Prop:=
 ∀ρ a w,o8 ρ t a->HR P w0 ρ h.get n w->Yld P Dk o a w λv g=>∃b,KP P w0 ρ h.get n w b e.get f g/\KR b c v
def QK(P:Fd)(o:Oper)(t:Tr CV)(c:CV):Prop:=∀ρ a w,o8 ρ t a->∃v,(execOp a.eval o).run P w=.ok (.value v) w/\KR ρ c v
def PK(P:Fd)(w0:GE)(o:Oper)(t:Tr CV)(h:Tr di)(c:CV):Prop:=∀ρ a w N,o8 ρ t a->HR P w0 ρ h.get N w->∃v,(execOp a.eval o).run P w=.ok (.value v) w/\KR ρ c v
def yp(H:KH)(N:Nat):At di->KH
 |none=>H
 |some b=>λk=>if k=N then some b else H k
def Dz(N:Nat):At di->Nat
 |none=>N
 |some _=>N+1
def ZK(P:Fd)(Dk:Deferred->Prop)(w0:GE)(o:Oper)(t:Tr CV)(e:Nat->CV)(b:At di):Prop:=∀ρ a w (H:KH) N,o8 ρ t a->HR P w0 ρ H N w->Yld P Dk o a w λv f=>∃c,KP P w0 ρ H N w c (yp H N b) (Dz N b) f/\KR c (e N) v
def QK.z{t:Tr CV}(f:QK P u t e):ZK P Dk w0 u t (λ_=>e) none:=λρ a w H N i g=>by
 obtain⟨v,b,c⟩:=f ρ a w i;exact .value b ⟨ρ,.refl g,c⟩
def PK.fk{t:Tr CV}{h:Tr di}{n:Nat}(g:PK P w0 u t h e):FK P Dk w0 u t h n e h n:=λρ a w i b=>by
 obtain⟨v,c,f⟩:=g ρ a w n i b;exact .value c ⟨ρ,.refl b,f⟩
def FK.pure{t:Tr CV}{h:Tr di}{n:Nat}(g:∀ρ a w,o8 ρ t a->HR P w0 ρ h.get n w->∃v,(execOp a.eval u).run P w=.ok (.value v) w/\KR ρ e v):FK P Dk w0 u t h n e h n:=λρ a w i b=>by
 obtain⟨v,c,f⟩:=g ρ a w i b;exact .value c ⟨ρ,.refl b,f⟩
section
variable{t:Tr CV}{h:Tr di}{n:Nat}{d:jQ}{ty t1 t2:EQ}{pos:String}{af:dY}{gd:gg}{x y z:If}{R:Type}{r:R}
def asI(c:CV){R:Type}(k:IntKind->Int->At R):At R:=match c with
 |.v (.int a m)=>k a m
 |_=>none
def O8{k:IntKind->Int->At R}(h:asI e k=some r):∃a m,e=.v (.int a m)/\k a m=some r:=by
 unfold asI at h;split at h
 .exact⟨_,_,rfl,h⟩
 .cases h
def asB(c:CV){R:Type}(k:In->At R):At R:=match c with
 |.v (.bool b)=>k b
 |_=>none
def WI{k:In->At R}(h:asB e k=some r):∃b,e=.v (.bool b)/\k b=some r:=by
 unfold asB at h;split at h
 .exact⟨_,rfl,h⟩
 .cases h
def blC(h:Tr di)(k:Nat){R:Type}(f:Tr CV->Nat->cn->In->At R):At R:=oB (h.get k) λx=>match x with
 |.ce a n e wr=>f a n e wr
 |_=>none
def EO{f:Tr CV->Nat->cn->In->At R}(a:blC h A f=some r):∃b m e wr,h.get A=some (.ce b m e wr)/\f b m e wr=some r:=by
 obtain⟨x,c,a⟩:=bG a;split at a
 .exact⟨_,_,_,_,c,a⟩
 .cases a
def rdC(a:Tr CV){R:Type}:Nat->Nat->(Do CV->At R)->At R:=Nat.rec (motive:=λ_=>Nat->(Do CV->At R)->At R) (λ_ k=>k [])
 (λ_ b o k=>oB (a.get o) λc=>b (Nat.succ o) λl=>k (c::l))
def Kf{b:Tr CV}:∀{m o:Nat} {k:Do CV->At R},rdC b m o k=some r->∃l,l.length=m/\(∀(j:Nat) c,l[j]? =some c->b.get (o+j)=some c)/\k l=some r
 |0,o,k,h=>⟨[],rfl,d5,h⟩
 |m+1,o,k,h=>by
  obtain⟨c,i,h⟩:=bG h;obtain⟨l,e,f,g⟩:=Kf (m:=m) h;refine⟨c::l,by simp[e],λj x a=>?_,g⟩;cases j with
  |zero=>simp at a;subst a;exact i
  |succ j=>rw[show o+(j+1)=o+1+j by omega];exact f j x (by simpa using a)
def BR.cells{ρ:Nm}{b m N:Nat}{wr:In}(D:BR P ρ i b m (.ce v N W wr)):∀(l:Do CV),(∀(j:Nat) c,l[j]? =some c->v.get (A+j)=some c)->
 ∃s,LR (KR ρ) l s/\(∀(j:Nat) u,s[j]? =some u->i.cell? ⟨b,A+j,none⟩=some u)/\∀u∈s,u.oneCell'=true:=λl G=>by
 obtain⟨ty,f,B,I,C,J⟩:=D;have q:∀(j:Nat) c,l[j]? =some c->KR ρ c (f.getD (A+j) undef)/\i.cell? ⟨b,A+j,none⟩=some (f.getD (A+j) undef)/\(f.getD (A+j) undef).oneCell'=true:=λj c g=>by
  obtain⟨_,u,e,w,H⟩:=C _ _ (G j c g);have:f.getD (A+j) undef=u:=by simp[axm,e]
  rw[this];exact⟨w,by rw[aw8 i b (A+j) f ty (0,0) B,e],w.kT H⟩
 have g:∀(j:Nat) u,((List.range l.length).map λj=>f.getD (A+j) undef)[j]? =some u->∃c,l[j]? =some c/\u=f.getD (A+j) undef:=λj u e=>by
  rw[awp]at e;obtain⟨a,F,rfl⟩:=awC.1 e;have:=(av7.1 F);obtain⟨p,rfl⟩:=this;simp at p;exact⟨l[j],awf p,d5⟩
 refine⟨(List.range l.length).map λj=>f.getD (A+j) undef,⟨d5,λj c u E e=>?_⟩,λj u e=>?_,λu e=>?_⟩
 .obtain⟨k,o,rfl⟩:=g j u e
  exact(q j c E).1
 .obtain⟨k,o,rfl⟩:=g j u e
  exact(q j k o).2.1
 .obtain⟨j,p,rfl⟩:=awV e
  obtain⟨k,o,W⟩:=g j _ (awf p);rw[W];exact(q j k o).2.2
def FK.ev(b:V=.move x\/V=.assign x)(f:lE t x e):QK P ⟨d,V,ty,pos,af,gd⟩ t e:=λρ a w c=>by
 refine⟨a.eval x,?_,f ρ a c⟩;rcases b with rfl|rfl<;>simp[execOp]
def abg(a:In)(l:Do CV){R:Type}(k:CV->At R):At R:=bB a (k (.ag l)) (match l with
 |[c]=>k c
 |_=>none)
def M3{ρ:Nm}{w:GE}{m b o:Nat}{k:CV->At R}(l:UW P t1=some (I,m))(i:s.length=m)(p:abg I s k=some r)(a:LR (KR ρ) s D)(g:∀(j:Nat) u,D[j]? =some u->w.cell? ⟨b,o+j,none⟩=some u):
 ∃u,(loadVar t1 ⟨b,o,none⟩).run P w=.ok u w/\∀c,(I=true/\c=.ag s\/I=false/\s=[c])->KR ρ c u:=by
 have f:=sb (P:=P) l (b:=b) (o:=o) (us:=D) (w:=w) (by rw[a.1,i]) g;cases I with
 |true=>
  refine⟨.agg D.toArray,f.1 rfl,λc e=>?_⟩;rcases e with⟨_,rfl⟩|⟨h,_⟩
  .exact .ag D a.1 a.2
  .cases h
 |false=>
  have:∃c,s=[c]:=by
   rcases dR p with⟨h,_⟩|⟨_,h⟩
   .cases h
   .split at h
    .exact⟨_,rfl⟩
    .cases h
  obtain⟨c,rfl⟩:=this;obtain⟨u,rfl⟩:∃u,D=[u]:=by
   match D,a.1 with
   |[u],_=>exact⟨u,rfl⟩
  refine⟨u,f.2 rfl u rfl,λq e=>?_⟩;rcases e with⟨h,_⟩|⟨_,h⟩
  .cases h
  .cases h;exact a.2 0 c u rfl rfl
def Up{k:CV->At R}(a:abg I s k=some r):∃c,(I=true/\c=.ag s\/I=false/\s=[c])/\k c=some r:=by
 rcases dR a with⟨rfl,h⟩|⟨rfl,h⟩
 .exact⟨_,.inl ⟨rfl,rfl⟩,h⟩
 .split at h
  .exact⟨_,.inr ⟨rfl,rfl⟩,h⟩
  .cases h
def atK(h:Tr di)(c:CV)(a:In)(m:Nat){R:Type}(k:CV->At R):At R:=match c with
 |.pt j o=>blC h j λb _ _ _=>rdC b m o λl=>abg a l k
 |.gl g o=>oB (abJ aeh g) λp=>bB (beq m 1) (oB (p.2[o]?) λx=>abg a [.v (.int p.1 x)] k) none
 |_=>none
def ajb(J:∀b o u,GT b o u->w0.cell? ⟨b,o,none⟩=some u){k:CV->At R}(E:UW P t1=some (I,A))(f:atK h e I A k=some r):
 ∃c,(∀ρ w v N,HR P w0 ρ h.get N w->KR ρ e v->∃b o u,v=.pointer (some ⟨b,o,none⟩)/\(loadVar t1 ⟨b,o,none⟩).run P w=.ok u w/\KR ρ c u)/\k c=some r:=by
 unfold atK at f;split at f
 next j o=>obtain⟨X,N,a,wr,K,f⟩:=EO f;obtain⟨l,O,Q,f⟩:=Kf f;obtain⟨c,i,p⟩:=Up f;refine⟨c,λρ w v _ B D=>?_,p⟩;obtain⟨b,q,U,rfl⟩:=D.Ao;obtain⟨Z,G,H,Y⟩:=(B.ob _ _ _ _ K U).cells l Q;obtain⟨u,C,s⟩:=M3 E O f G H;exact⟨b,o,u,rfl,C,s c i⟩
 next g o=>
  obtain⟨⟨F,W⟩,M,f⟩:=bG f;obtain⟨S,f⟩:=bj f;obtain rfl:=eL S;obtain⟨x,V,f⟩:=bG f;obtain⟨c,i,p⟩:=Up f;refine⟨c,λρ w v _ B D=>?_,p⟩;cases D with
  |gl=>
   have L:w.cell? ⟨g,o,none⟩=some (.int F x):=B.ext.cell (J g o _ ⟨F,W,x,M,V,rfl⟩);obtain⟨u,C,s⟩:=M3 (ρ:=ρ) (w:=w) (b:=g) (o:=o) E rfl f (LR.cons .v LR.nil) (λj u m=>by
    cases j with
    |zero=>simp at m;subst m;exact L
    |succ j=>simp at m)
   exact⟨g,o,u,rfl,C,s c i⟩
 .cases f
def ajc(T:EQ->bz)(h:Tr di)(t1:EQ)(c:CV){R:Type}(k:CV->At R):At R:=oB (T t1).ty λp=>atK h c p.1 p.2 k
def FK.load(p:hS P T)(l:∀b o u,GT b o u->w0.cell? ⟨b,o,none⟩=some u){k:CV->At R}(B:lE t x e)(f:ajc T h t1 e k=some r):∃c,PK P w0 ⟨d,.load t1 x,ty,pos,af,gd⟩ t h c/\k c=some r:=by
 obtain⟨⟨C,m⟩,A,f⟩:=bG f;obtain⟨c,q,f⟩:=ajb (h:=h) l (p.ty _ _ A) f;refine⟨c,λρ a w N v s=>?_,f⟩;obtain⟨b,o,u,g,i,j⟩:=q ρ w _ N s (B ρ a v);exact⟨u,by simp[execOp,Instr.loadAt,Instr.sureAddr,g,i],j⟩
def ptK(c:CV)(f:Nat){R:Type}(k:CV->At R):At R:=match c with
 |.pt j o=>kN (Nat.add o f) λo=>k (.pt j o)
 |.gl g o=>kN (Nat.add o f) λo=>k (.gl g o)
 |_=>none
def ajd{f:Nat}{k:CV->At R}(a:ptK e f k=some r):∃c,(∀ρ v,KR ρ e v->∃b o,v=.pointer (some ⟨b,o,none⟩)/\KR ρ c (.pointer (some ⟨b,o+f,none⟩)))/\k c=some r:=by
 unfold ptK at a;split at a
 .rw[fY]at a
  refine⟨_,λρ v g=>?_,a⟩;obtain⟨b,m,i,rfl⟩:=g.Ao;exact⟨b,_,rfl,.pt i⟩
 .rw[fY]at a
  refine⟨_,λρ v g=>?_,a⟩;cases g with
  |gl=>exact⟨_,_,rfl,.gl⟩
 .cases a
def FK.fieldAddr(v:hS P T){k:CV->At R}(H:lE t x e)(g:(oB (T t1).fd[A]? λq=>bB (beq q.2.2 0) none (ptK e q.1 k))=some r):∃c,QK P ⟨d,.fieldAddr t1 x A,ty,pos,af,gd⟩ t c/\k c=some r:=by
 obtain⟨⟨N,I,m⟩,D,g⟩:=bG g;rcases dR g with⟨_,j⟩|⟨j,g⟩
 .cases j
 obtain⟨c,C,g⟩:=ajd g;refine⟨c,λρ a w f=>?_,g⟩;obtain⟨b,o,F,G⟩:=C ρ _ (H ρ a f);refine⟨_,?_,G⟩;have f:=v.fd _ _ _ D;have E:m≠0:=ks j;unfold fdA at f;split at f
 next K l=>
  split at f
  next fl p=>
   split at f
   next J M s=>simp only[av6,awn]at f;obtain⟨rfl,rfl,rfl⟩:=f;obtain⟨O,i,L,u,_,rfl⟩:=jg s;have B:(⟨b,o,none⟩:Addr).add fl.offset=⟨b,o+fl.offset,none⟩:=awT ..;simp[execOp,Instr.fieldAt,aww l,p,F,Instr.sureAddr,fieldPlace,cT w u,E,B]
   .cases f
  .cases f
 .cases f
def WJ(T:EQ->bz)(t1:EQ)(c:CV)(i:Nat){R:Type}(k:CV->At R):At R:=match c with
 |.sl j o m _=>bB (blt i m) (oB (T t1).el λe=>kN (Nat.add o (Nat.mul i e.2.1)) λo=>k (.pt j o)) none
 |c=>oB (T t1).ar λq=>bB (blt i q.1) (ptK c (Nat.mul i q.2.2) k) none
def yq(c:CV){R:Type}(k:Nat->At R):At R:=match c with
 |.v (.int _ (.ofNat m))=>k m
 |_=>none
def nM{k:Nat->At R}(a:yq e k=some r):∃b m,e=.v (.int b (Int.ofNat m))/\k m=some r:=by
 unfold yq at a;split at a
 .exact⟨_,_,rfl,a⟩
 .cases a
def FK.indexAddr(F:hS P T){k:CV->At R}(H:lE t x e)(I:lE t y B)(g:(yq B λi=>WJ T t1 e i k)=some r):∃c,QK P ⟨d,.indexAddr t1 x y,ty,pos,af,gd⟩ t c/\k c=some r:=by
 obtain⟨kd,i,rfl,g⟩:=nM g;unfold WJ at g;split at g
 next j o m _ _=>
  obtain⟨l,g⟩:=bj g;have l:i<m:=awd l;obtain⟨⟨E,W,X,z⟩,C,g⟩:=bG g;rw[fY]at g;refine⟨_,λρ a w q=>?_,g⟩;obtain⟨p,zv,K,v,Z,h4,rfl,_,_⟩:=c_ (F.el _ _ C);have s:=H ρ a q;have D:=(I ρ a q).bS;generalize M:a.eval x=u at s;cases s with
  | @sl _ _ _ _ b _ Y f U S a2 a0 a1=>
   have O:f=o:=S (.inl bv);subst O;refine⟨.pointer (some ⟨b,f+i*p.size,none⟩),?_,.pt U⟩;have A:(⟨b,f,none⟩:Addr).add (i*p.size)=⟨b,f+i*p.size,none⟩:=awT ..;have G:Int.ofNat i<(m:Int):=by simp;exact l
   simp[execOp,Instr.indexAt,D,asIntOf,aww K,M,l,cT w v,A]
 .obtain⟨⟨m,E,W⟩,C,g⟩:=bG g
  obtain⟨l,g⟩:=bj g;have Q:i<m:=awd l;obtain⟨c,N,g⟩:=ajd g;refine⟨c,λρ a w q=>?_,g⟩;obtain⟨p,L,v,rfl⟩:=xB (F.ar _ _ C);obtain⟨b,o,s,V⟩:=N ρ _ (H ρ a q);have D:=(I ρ a q).bS;refine⟨_,?_,V⟩;have A:(⟨b,o,none⟩:Addr).add (i*p.size)=⟨b,o+i*p.size,none⟩:=awT ..;have G:(Int.ofNat i)<(m:Int):=Int.ofNat_lt.2 Q;have J:0<=Int.ofNat i:=Int.natCast_nonneg i;simp only[execOp,Instr.indexAt,D,asIntOf,aww L,s,Instr.sureAddr,J,G,cT w v,awi,awm,awk,and_self,awG];exact awh (λe=>Result.ok (Next.value (.pointer (some e))) w) A
def alV(c:CV){R:Type}(k:ByteArray->At R):At R:=match c with
 |.v (.string s)=>k s
 |_=>none
def alW{k:ByteArray->At R}(a:alV e k=some r):∃s,e=.v (.string s)/\k s=some r:=by
 unfold alV at a;split at a
 .exact⟨_,rfl,a⟩
 .cases a
def FK.Ic(o:hS P T){k:CV->At R}(E:lE t x e)(F:lE t y B)(f:(bB (T t1).sg (yq B λi=>alV e λs=>oB (s.data.toList[i]?) λb=>kN b.toNat λm=>k (.v (.int .u8 (Int.ofNat m)))) none)=some r):
 ∃c,QK P ⟨d,.index t1 x y,ty,pos,af,gd⟩ t c/\k c=some r:=by
 obtain⟨u,f⟩:=bj f;have D:=o.sg _ u;obtain⟨G,i,rfl,f⟩:=nM f;obtain⟨s,rfl,f⟩:=alW f;obtain⟨b,p,f⟩:=bG f;rw[fY]at f;refine⟨_,λρ a w g=>⟨_,?_,.v⟩,f⟩;have j:=(E ρ a g).bS;have l:=(F ρ a g).bS;have A:s[i]? =some b:=by
  obtain⟨v,q⟩:=av7.1 p;have C:i<s.size:=by simpa using v
  rw[getElem?_pos s i C];exact awh some q
 simp[execOp,Instr.index,j,l,asIntOf,aww D,A]
def tuK(c:CV){R:Type}(k:Do CV->At R):At R:=match c with
 |.tu s=>k s
 |_=>none
def apv{k:Do CV->At R}(a:tuK e k=some r):∃s,e=.tu s/\k s=some r:=by
 unfold tuK at a;split at a
 .exact⟨_,rfl,a⟩
 .cases a
def agK(c:CV){R:Type}(k:Do CV->At R):At R:=match c with
 |.ag s=>k s
 |_=>none
def aje{k:Do CV->At R}(a:agK e k=some r):∃s,e=.ag s/\k s=some r:=by
 unfold agK at a;split at a
 .exact⟨_,rfl,a⟩
 .cases a
def FK.extract{i:Nat}{p:CV}{k:CV->At R}(q:lE t x p)(b:(tuK p λe=>oB (e[i]?) k)=some r):∃c,QK P ⟨d,.extract x i,ty,pos,af,gd⟩ t c/\k c=some r:=by
 obtain⟨e,rfl,b⟩:=apv b;obtain⟨c,g,b⟩:=bG b;refine⟨c,λρ a w m=>?_,b⟩;obtain⟨s,f,j⟩:=(q ρ a m).HM;obtain⟨u,o,l⟩:=j.get g;exact⟨u,by simp[execOp,Instr.extract,f,o],l⟩
def LR.auH{ρ:Nm}(h:LR (KR ρ) s D)(o n:Nat)(a:o+n<=s.length):LR (KR ρ) ((s.drop o).take n) ((D.drop o).take n)/\((D.drop o).take n).length=n:=by
 refine⟨(h.drop o).take n,?_⟩;rw[awM,axO,h.1];omega
def FK.field(K:hS P T){f:Nat}{p:CV}{k:CV->At R}(G:lE t x p)(b:(agK p λg=>oB (T t1).fd[f]? λq=>bB (ble (Nat.add q.1 q.2.2) g.length) (bB q.2.1 (k (.ag ((g.drop q.1).take q.2.2))) (oB (g[q.1]?) k)) none)=some r):
 ∃c,QK P ⟨d,.field t1 x f,ty,pos,af,gd⟩ t c/\k c=some r:=by
 obtain⟨g,rfl,b⟩:=aje b;obtain⟨⟨S,U,m⟩,M,b⟩:=bG b;obtain⟨E,b⟩:=bj b;have N:S+m<=g.length:=awd E;clear E;have e:=K.fd _ _ _ M;unfold fdA at e;split at e
 next W B=>
  split at e
  next j C=>
   split at e
   next V X I=>
    simp only[av6,awn]at e;obtain⟨rfl,rfl,rfl⟩:=e;obtain⟨Y,i,D,J,o,rfl⟩:=jg I;rcases dR b with⟨l,b⟩|⟨l,b⟩
    .refine⟨_,λρ a w e=>?_,b⟩
     obtain⟨s,v,A⟩:=(G ρ a e).fI;have F:=A.auH j.offset i.size N;refine⟨.agg ((s.drop j.offset).take i.size).toArray,?_,.ag _ F.1.1 F.1.2⟩;simp only at l;rw[l]at o;have H:s.toArray.extract j.offset (j.offset+i.size)=((s.drop j.offset).take i.size).toArray:=by
      simp[aAL]
     simp[execOp,Instr.field,aww B,C,v,asAgg,part,nQ w D,<-o,cT w J,H]
    .obtain⟨c,L,b⟩:=bG b
     refine⟨c,λρ a w e=>?_,b⟩;obtain⟨s,v,A⟩:=(G ρ a e).fI;obtain⟨u,Q,O⟩:=A.get L;refine⟨u,?_,O⟩;simp only at l;rw[l]at o;simp[execOp,Instr.field,aww B,C,v,asAgg,part,nQ w D,<-o,Q]
   .cases e
  .cases e
 .cases e
def FK.pick{g i j:CV}{k:CV->At R}(l:lE t z g)(m:lE t x i)(o:lE t y j)(e:(asB g λb=>bB b (k i) (k j))=some r):∃c,QK P ⟨d,.pick z x y,ty,pos,af,gd⟩ t c/\k c=some r:=by
 obtain⟨b,rfl,e⟩:=WI e;rcases dR e with⟨rfl,e⟩|⟨rfl,e⟩
 .exact⟨_,λρ a w f=>⟨_,by simp[execOp,(l ρ a f).bS,asBool],m ρ a f⟩,e⟩
 .exact⟨_,λρ a w f=>⟨_,by simp[execOp,(l ρ a f).bS,asBool],o ρ a f⟩,e⟩
def nnK:CV->In
 |.pt .. =>true
 |.gl .. =>true
 |.cl (.func _) _ _=>true
 |.v (.func (.func _) _ _)=>true
 |_=>false
def FK.nilCheck(l:lE t x e)(c:nnK e=true):QK P ⟨d,.nilCheck x,ty,pos,af,gd⟩ t e:=λρ a w k=>by
 have i:=l ρ a k;refine⟨a.eval x,?_,i⟩;generalize g:a.eval x=u at i;cases i with
 |pt=>simp[execOp,g]
 |gl=>simp[execOp,g]
 | @cl j q p s A=>
  cases j with
  |func f=>simp[execOp,g]
  |_=>simp[nnK]at c
 | @v u=>
  unfold nnK at c;split at c
  next b=>cases b
  next b=>cases b
  next b=>cases b
  next f m o b=>cases b;simp[execOp,g]
  .cases c
 |_=>simp[nnK]at c
end
end
variable{J:BinOp}{K:IntKind}{G:Nat}{H:jP}
section
variable{P:Fd}{Dk:Deferred->Prop}{w0:GE}{T:EQ->bz}
def K3(k:IntKind):Nat:=IntKind.rec (motive:=λ_=>Nat) 128 32768 2147483648 9223372036854775808 256 65536 4294967296 18446744073709551616 k
def sgK(k:IntKind):In:=IntKind.rec (motive:=λ_=>In) true true true true false false false false k
def wrI{R:Type}(k:IntKind)(z:Int)(f:Int->R):R:=Int.rec (motive:=λ_=>R)
 (λn=>bB (blt n (K3 k)) (kN n λn=>f (Int.ofNat n)) (kI (k.wrap (Int.ofNat n)) f))
 (λm=>bB (sgK k) (bB (blt m (K3 k)) (kN m λm=>f (Int.negSucc m)) (kI (k.wrap (Int.negSucc m)) f)) (kI (k.wrap (Int.negSucc m)) f)) z
def ajf{n:Nat}(h:n<K3 K):K.wrap (Int.ofNat n)=Int.ofNat n:=by
 have e:(Int.ofNat n)=(n:Int):=rfl;rw[e];cases K<;>simp only[K3]at h<;>simp only[wZ,IntKind.wrap,IntKind.bits,IntKind.signed]<;>simp<;>omega
def ajg{n:Nat}(a:sgK K=true)(h:n<K3 K):K.wrap (Int.negSucc n)=Int.negSucc n:=by
 have e:(Int.negSucc n)= -(n:Int) - 1:=bv
 rw[e];cases K<;>simp only[K3]at h<;>simp only[sgK,axE]at a<;>simp only[wZ,IntKind.wrap,IntKind.bits,IntKind.signed]<;>simp<;>omega
def Ap{R:Type}(k:IntKind)(z:Int)(f:Int->R):wrI k z f=f (k.wrap z):=by
 cases z with
 |ofNat n=>
  show bB (blt n (K3 k)) (kN n λn=>f (Int.ofNat n)) (kI (k.wrap (Int.ofNat n)) f)=_;rw[fY,Dy];cases h:blt n (K3 k)with
  |false=>rfl
  |true=>rw[ajf (awd h)];rfl
 |negSucc m=>
  show bB (sgK k) (bB (blt m (K3 k)) (kN m λm=>f (Int.negSucc m)) (kI (k.wrap (Int.negSucc m)) f)) (kI (k.wrap (Int.negSucc m)) f)=_;rw[fY,Dy];cases a:sgK k with
  |false=>rfl
  |true=>
   cases h:blt m (K3 k)with
   |false=>rfl
   |true=>rw[ajg a (awd h)];rfl
def ltK(a b:Int):In:=Int.rec (motive:=λ_=>In) (λm=>Int.rec (motive:=λ_=>In) (λn=>blt m n) (λ_=>false) b) (λm=>Int.rec (motive:=λ_=>In) (λ_=>true) (λn=>blt n m) b) a
def eqK(a b:Int):In:=Int.rec (motive:=λ_=>In) (λm=>Int.rec (motive:=λ_=>In) (λn=>beq m n) (λ_=>false) b) (λm=>Int.rec (motive:=λ_=>In) (λ_=>false) (λn=>beq n m) b) a
def abh(m n:Nat):blt m n=decide (m<n):=by
 by_cases h:m<n
 .rw[awu h];exact aAi h
 .rw[awz h]
  cases a:blt m n with
  |false=>rfl
  |true=>exact absurd (awd a) h
def Uq(m n:Nat):beq m n=decide (m=n):=by
 by_cases h:m=n
 .rw[awu h,h,awD]
 .rw[awz h]
  cases a:beq m n with
  |false=>rfl
  |true=>exact absurd (eL a) h
def xf(a b:Int):ltK a b=decide (a<b):=by
 cases a with
 |ofNat m=>cases b with
  |ofNat n=>
   show blt m n=decide ((m:Int)<(n:Int));rw[abh];exact axL.2 (by constructor<;>intro h<;>omega)
  |negSucc n=>
   show false=decide ((m:Int)<Int.negSucc n);exact(awz bv).symm
 |negSucc m=>cases b with
  |ofNat n=>
   show true=decide (Int.negSucc m<(n:Int));exact(awu bv).symm
  |negSucc n=>
   show blt n m=_;rw[abh];exact axL.2 (by constructor<;>intro h<;>omega)
def xg(a b:Int):eqK a b=decide (a=b):=by
 cases a with
 |ofNat m=>cases b with
  |ofNat n=>
   show beq m n=decide ((m:Int)=(n:Int));rw[Uq];exact axL.2 (by constructor<;>intro h<;>omega)
  |negSucc n=>
   show false=decide ((m:Int)=Int.negSucc n);exact(awz bv).symm
 |negSucc m=>cases b with
  |ofNat n=>
   show false=decide (Int.negSucc m=(n:Int));exact(awz bv).symm
  |negSucc n=>
   show beq n m=_;rw[Uq];exact axL.2 (by constructor<;>intro h<;>omega)
def bK{R:Type}(b:In)(k:CV->R):R:=Bool.rec (motive:=λ_=>R) (k (.v (.bool false))) (k (.v (.bool true))) b
def xh{R:Type}(b:In)(k:CV->R):bK b k=k (.v (.bool b)):=by cases b<;>rfl
def xi{R:Type}(c:BinOp)(k:IntKind)(a b:Int)(f:CV->At R):At R:=match c with
 |.add=>wrI k (Int.add a b) λz=>f (.v (.int k z))
 |.sub=>wrI k (Int.sub a b) λz=>f (.v (.int k z))
 |.mul=>wrI k (Int.mul a b) λz=>f (.v (.int k z))
 |.quo=>bB (eqK b 0) none (wrI k (a.tdiv b) λz=>f (.v (.int k z)))
 |.rem=>bB (eqK b 0) none (kI (a.tmod b) λz=>f (.v (.int k z)))
 |.lss=>bK (ltK a b) f
 |.gtr=>bK (ltK b a) f
 |.leq=>bK (!ltK b a) f
 |.geq=>bK (!ltK a b) f
 |.eql=>bK (eqK a b) f
 |.neq=>bK (!eqK a b) f
 |.and=>kI (bits .and k a b) λz=>f (.v (.int k z))
 |.or=>kI (bits .or k a b) λz=>f (.v (.int k z))
 |.xor=>kI (bits .xor k a b) λz=>f (.v (.int k z))
 |.andNot=>kI (bits .andNot k a b) λz=>f (.v (.int k z))
 |_=>none
def shK{R:Type}(b:BinOp)(k:IntKind)(a:Int)(m:Nat)(f:CV->At R):At R:=match b with
 |.shl=>wrI k (a*2^(min m k.bits)) λz=>f (.v (.int k z))
 |.shr=>kI (a.fdiv (2^(min m k.bits))) λz=>f (.v (.int k z))
 |_=>none
def auJ:BinOp->In
 |.shl=>true
 |.shr=>true
 |_=>false
def asW:(s:Sc)->Do CV->At (s.dp×Do CV)
 |.pr x y,b=>match asW x b with
  |some (a,e)=>match asW y e with
   |some (c,f)=>some ((a,c),f)
   |none=>none
  |none=>none
 |.u,b=>some ((),b)
 |.i k,.v (.int g z)::b=>if g=k then some (z,b)else none
 |.b,.v (.bool z)::b=>some (z,b)
 |_,_=>none
def O9:∀(s:Sc) {b cs':Do CV} {x:s.dp},asW s b=some (x,cs')->s.key=true->b=(dv s x).map .v++cs'
 |.pr a c,b,cs',x,h,f=>by
  simp only[Sc.key,av4]at f;simp only[asW]at h;split at h
  next p j g=>
   split at h
   next q l i=>cases h;rw[O9 a g f.1,O9 c i f.2];simp[dv]
   .cases h
  .cases h
 |.u,b,cs',x,h,f=>by
  simp only[asW]at h;cases h;rfl
 |.i k,b,cs',x,h,f=>by
  cases b with
  |nil=>cases h
  |cons c b=>
   cases c with
   |v u=>cases u with
    |int m z=>
     simp only[asW]at h;split at h
     next e=>cases h;subst e;rfl
     .cases h
    |_=>cases h
   |_=>cases h
 |.b,b,cs',x,h,f=>by
  cases b with
  |nil=>cases h
  |cons c b=>
   cases c with
   |v u=>cases u with
    |bool z=>
     simp only[asW]at h;cases h;rfl
    |_=>cases h
   |_=>cases h
 |.sl r,b,cs',x,h,f=>by simp[Sc.key]at f
def asx{R:Type}(T:EQ->bz)(c:BinOp)(t1:EQ)(a b:Do CV)(f:CV->At R):At R:=oB (T t1).eq λs=>oB (asW s a) λp=>oB (asW s b) λq=>match p.2,q.2 with
 |[],[]=>(match c with
  |.eql=>bK (jE s p.1 q.1) f
  |.neq=>bK (!jE s p.1 q.1) f
  |_=>none)
 |_,_=>none
def isC:If->In
 |.const _=>true
 |_=>false
def aji{R:Type}(T:EQ->bz)(c:BinOp)(t1:EQ)(j:In)(a b:CV)(f:CV->At R):At R:=match a with
 |.v (.int k x)=>(match b with
  |.v (.int i y)=>bB (auJ c) (yq b λm=>shK c k x m f) (bB (decide (k=i)) (xi c k x y f) none)
  |_=>none)
 |.v (.bool x)=>(match b with
  |.v (.bool y)=>bB (T t1).bo (match c with
   |.eql=>bK (x==y) f
   |.neq=>bK (!(x==y)) f
   |_=>none) none
  |_=>none)
 |.v (.slice none 0 0)=>(match b with
  |.v (.slice none 0 0)=>bB (T t1).lH (match c with
   |.eql=>f (.v (.bool true))
   |.neq=>f (.v (.bool false))
   |_=>none) none
  |_=>none)
 |.sl _ _ _ _=>(match b with
  |.v (.slice none 0 0)=>bB (T t1).lH (match c with
   |.eql=>f (.v (.bool false))
   |.neq=>f (.v (.bool true))
   |_=>none) none
  |_=>none)
 |.v .nilIface=>(match b with
  |.v .nilIface=>bB j (bB (T t1).nf (match c with
   |.eql=>f (.v (.bool true))
   |.neq=>f (.v (.bool false))
   |_=>none) none) none
  |_=>none)
 |.ag e=>agK b λg=>asx T c t1 e g f
 |_=>none
section
variable{t:Tr CV}{h:Tr di}{n:Nat}{d:jQ}{ty t1 t2:EQ}{pos:String}{af:dY}{gd:gg}{x y z:If}{R:Type}{r:R}
def FK.bin{u v z:Id}(f:lE t x (.v u))(g:lE t y (.v v))(c:∀w,(eqGuard J t1 x y u v).run P w=.ok () w)(e:∀w,(binOp J t1 u v).run P w=.ok z w):QK P ⟨d,.binOp J t1 x y t2,ty,pos,af,gd⟩ t (.v z):=λρ a w b=>by
 refine⟨z,?_,.v⟩;simp only[execOp,(f ρ a b).bS,(g ρ a b).bS,awi,c,e,awk,awm]
def FK.o3{k c:IntKind}{a b:Int}(f:lE t x (.v (.int k a)))(g:lE t y (.v (.int c b)))(e:∀w,(binOp J t1 (.int k a) (.int c b)).run P w=.ok j w):QK P ⟨d,.binOp J t1 x y t2,ty,pos,af,gd⟩ t (.v j):=
 FK.bin f g (e8 _ _ _ _ _ _ _ _) e
def asy(a b:Int):(!decide (b<a))=decide (a<=b):=by
 by_cases h:b<a
 .rw[awu h,awz bv];rfl
 .rw[awz h,awu bv];rfl
def al0{a b:Int}{f:CV->At R}(g:lE t x (.v (.int K a)))(i:lE t y (.v (.int K b)))(e:xi J K a b f=some r):∃c,QK P ⟨d,.binOp J t1 x y t2,ty,pos,af,gd⟩ t c/\f c=some r:=by
 cases J with
 |add=>simp only[xi,Ap]at e;exact⟨_,FK.o3 g i λw=>by simp only[binOp_add,Op.intArith,awm];rfl,e⟩
 |sub=>simp only[xi,Ap]at e;exact⟨_,FK.o3 g i λw=>by simp only[binOp_sub,Op.intArith,awm];rfl,e⟩
 |mul=>simp only[xi,Ap]at e;exact⟨_,FK.o3 g i λw=>by simp only[binOp_mul,Op.intArith,awm];rfl,e⟩
 |quo=>
  simp only[xi,Ap]at e;rcases dR e with⟨_,j⟩|⟨j,e⟩
  .cases j
  have j:¬b=0:=by rw[xg]at j;simpa using j
  exact⟨_,FK.o3 g i λw=>by simp[binOp_quo,Op.intDiv,j],e⟩
 |rem=>
  simp only[xi,Dy]at e;rcases dR e with⟨_,j⟩|⟨j,e⟩
  .cases j
  have j:¬b=0:=by rw[xg]at j;simpa using j
  exact⟨_,FK.o3 g i λw=>by simp[binOp_rem,Op.intDiv,j],e⟩
 |lss=>simp only[xi,xh,xf]at e;exact⟨_,FK.o3 g i λw=>by simp[binOp_lss],e⟩
 |gtr=>simp only[xi,xh,xf]at e;exact⟨_,FK.o3 g i λw=>by simp[binOp_gtr],e⟩
 |leq=>simp only[xi,xh,xf,asy]at e;exact⟨_,FK.o3 g i λw=>by simp[binOp_leq],e⟩
 |geq=>simp only[xi,xh,xf,asy]at e;exact⟨_,FK.o3 g i λw=>by simp[binOp_geq],e⟩
 |eql=>simp only[xi,xh,xg]at e;exact⟨_,FK.o3 g i λw=>by simp only[binOp_eql,awm,Xg],e⟩
 |neq=>simp only[xi,xh,xg]at e;exact⟨_,FK.o3 g i λw=>by simp only[binOp_neq,awm,Xh,decide_not],e⟩
 |and=>simp only[xi,Dy]at e;exact⟨_,FK.o3 g i λw=>by simp[binOp_and,intBits_and],e⟩
 |or=>simp only[xi,Dy]at e;exact⟨_,FK.o3 g i λw=>by simp[binOp_or,intBits_or],e⟩
 |xor=>simp only[xi,Dy]at e;exact⟨_,FK.o3 g i λw=>by simp[binOp_xor,intBits_xor],e⟩
 |andNot=>simp only[xi,Dy]at e;exact⟨_,FK.o3 g i λw=>by simp[binOp_andNot,intBits_andNot],e⟩
 |_=>cases e
def KR.WK{ρ:Nm}{us a:bI}(b:LR (KR ρ) (us.map .v) a):a=us:=by
 refine List.ext_getElem (by rw[b.1];simp) λj c e=>?_;exact(b.2 j (.v us[j]) a[j] (by simp[e]) (awf c)).bS
def al1(B:hS P T){j k:Do CV}{f:CV->At R}(L:lE t x (.ag j))(M:lE t y (.ag k))(v:asx T J t1 j k f=some r):∃c,QK P ⟨d,.binOp J t1 x y t2,ty,pos,af,gd⟩ t c/\f c=some r:=by
 obtain⟨s,H,o⟩:=bG v;obtain⟨⟨p,O⟩,F,u⟩:=bG o;obtain⟨⟨q,Q⟩,G,e⟩:=bG u;clear o u v;have g:=B.eq _ _ H;have l:=O9 s F g.1;have m:=O9 s G g.1;simp only at e;split at e
 .simp only[awN]at l m
  subst l m;have run:∀i b,(∀w,(binOp i t1 (.agg (dv s p).toArray) (.agg (dv s q).toArray)).run P w=.ok b w)->QK P ⟨d,.binOp i t1 x y t2,ty,pos,af,gd⟩ t (.v b):=λi b C=>λρ a w A=>by
   obtain⟨S,I,D⟩:=(L ρ a A).fI;obtain⟨U,K,E⟩:=(M ρ a A).fI;obtain rfl:=KR.WK D;obtain rfl:=KR.WK E;refine⟨b,?_,.v⟩;have N:=(g.2 p q w).2;simp only[execOp,I,K,awi,N,awk,C,awm]
  cases J with
  |eql=>simp only[xh]at e;exact⟨_,run _ _ λw=>by have:=(g.2 p q w).1;simp only[binOp,awi,this,awk,awm],e⟩
  |neq=>simp only[xh]at e;exact⟨_,run _ _ λw=>by have:=(g.2 p q w).1;simp only[binOp,awi,this,awk,awm],e⟩
  |_=>cases e
 .cases e
def yg{t:EQ}(h:lH P t=true):∃E,P.underlying t=some (.slice E):=by
 unfold lH at h;split at h
 .exact⟨_,by assumption⟩
 .cases h
def run_neq_slice_nil(w:GE)(t E:EQ)(c:At Addr)(n f g e:Nat)(j:P.underlying t=some (.slice E)):(binOp .neq t (.slice c n f) (.slice none g e)).run P w=.ok (.bool (!c.isNone)) w:=by
 have a:=aAe w t E c n f g e j;simp only[binOp,awi]at a⊢;cases i:(Op.equal t (.slice c n f) (.slice none g e)).run P w with
 |ok b k=>rw[i]at a;simp only[awk,awm,Result.ok.injEq,Value.bool.injEq]at a⊢;rw[a.1];exact⟨rfl,a.2⟩
 |halt h k=>rw[i]at a;cases a
def M4{c:CV}{ad:In}{f:CV->At R}(s:lH P t1=true)(p:∀ρ a,o8 ρ t a->∃A m b,a.eval x=.slice A m b/\A.isNone=ad)(q:lE t y (.v (.slice none 0 0)))(l:(match J with
 |.eql=>f (.v (.bool ad))
 |.neq=>f (.v (.bool (!ad)))
 |_=>none)=some r):∃c,QK P ⟨d,.binOp J t1 x y t2,ty,pos,af,gd⟩ t c/\f c=some r:=by
 obtain⟨E,o⟩:=yg s;cases J with
 |eql=>
  refine⟨_,λρ a w e=>?_,l⟩;obtain⟨A,m,b,g,i⟩:=p ρ a e;have j:=(q ρ a e).bS;have k:(eqGuard .eql t1 x y (.slice A m b) (.slice none 0 0)).run P w=.ok () w:=by simp[eqGuard]
  exact⟨.bool ad,by simp only[execOp,g,j,k,awi,aAe w t1 E A m b 0 0 o,awk,awm,i],.v⟩
 |neq=>
  refine⟨_,λρ a w e=>?_,l⟩;obtain⟨A,m,b,g,i⟩:=p ρ a e;have j:=(q ρ a e).bS;have k:(eqGuard .neq t1 x y (.slice A m b) (.slice none 0 0)).run P w=.ok () w:=by simp[eqGuard]
  exact⟨.bool (!ad),by simp only[execOp,g,j,k,awi,run_neq_slice_nil w t1 E A m b 0 0 o,awk,awm,i],.v⟩
 |_=>cases l
def FK.aji(o:hS P T){l:BinOp}{a b:CV}{f:CV->At R}(i:lE t x a)(j:lE t y b)(g:aji T l t1 (isC y) a b f=some r):∃c,QK P ⟨d,.binOp l t1 x y t2,ty,pos,af,gd⟩ t c/\f c=some r:=by
 unfold Go.Proofs.YtillffjlojlhoaaGreatDoor.aji at g;split at g
 next k m=>
  split at g
  next L J=>
   rcases dR g with⟨s,g⟩|⟨s,g⟩
   .obtain⟨M,q,e,p⟩:=nM g
    cases e;have F:((q:Int)<0)=False:=eq_false bv;cases l with
    |shl=>simp only[shK,Ap]at p;exact⟨_,FK.o3 i j λw=>by simp only[binOp_shl,Op.shift,F,aw1,av9,azP,awm],p⟩
    |shr=>simp only[shK,Dy]at p;exact⟨_,FK.o3 i j λw=>by simp only[binOp_shr,Op.shift,F,aw1,av9,azP,awm],p⟩
    |_=>cases p
   .obtain⟨e,I⟩:=bj g
    have e:=awX e;subst e;exact al0 i j I
  .cases g
 next m=>
  split at g
  next J=>
   obtain⟨A,g⟩:=bj g;have A:=o.bo _ A;cases l with
   |eql=>simp only[xh]at g;exact⟨_,FK.bin i j (λw=>by simp[eqGuard]) (λw=>run_eql_bool w t1 _ _ A),g⟩
   |neq=>simp only[xh]at g;exact⟨_,FK.bin i j (λw=>by simp[eqGuard]) (λw=>run_neq_bool w t1 _ _ A),g⟩
   |_=>cases g
  .cases g
 .split at g
  .obtain⟨s,g⟩:=bj g
   exact M4 (c:=.v undef) (ad:=true) (o.lH _ s) (λρ a C=>⟨none,0,0,(i ρ a C).bS,rfl⟩) j g
  .cases g
 .split at g
  .obtain⟨s,g⟩:=bj g
   refine M4 (c:=.v undef) (ad:=false) (o.lH _ s) (λρ a C=>?_) j g;have G:=i ρ a C;generalize a.eval x=u at G;cases G with
   |sl=>exact⟨_,_,_,rfl,rfl⟩
  .cases g
 .split at g
  .obtain⟨H,g⟩:=bj g
   obtain⟨B,g⟩:=bj g;obtain⟨N,B⟩:=o.nf _ B;have D:∀l w,(eqGuard l t1 x y .nilIface .nilIface).run P w=.ok () w:=λl w=>by
    cases y with
    |const v=>cases l<;>simp[eqGuard]
    |_=>cases H
   have E:∀w,(Op.equal t1 .nilIface .nilIface).run P w=.ok true w:=λw=>by
    show(Op.equalIn (9999+1) t1 .nilIface .nilIface).run P w=_;rw[Op.equalIn];simp[aww B]
   cases l with
   |eql=>exact⟨_,FK.bin i j (D _) (λw=>by simp[binOp,E]),g⟩
   |neq=>exact⟨_,FK.bin i j (D _) (λw=>by simp[binOp,E]),g⟩
   |_=>cases g
  .cases g
 .obtain⟨K,rfl,g⟩:=aje g
  exact al1 o i j g
 .cases g
def unK{R:Type}(c:UnOp)(a:CV)(f:CV->At R):At R:=match c with
 |.not=>asB a λb=>bK (!b) f
 |.neg=>asI a λk m=>wrI k (Int.sub 0 m) λz=>f (.v (.int k z))
 |_=>none
def FK.un{j:UnOp}{f:CV->At R}(l:lE t x e)(g:unK j e f=some r):∃c,QK P ⟨d,.unOp j t1 x,ty,pos,af,gd⟩ t c/\f c=some r:=by
 cases j with
 |not=>
  obtain⟨b,rfl,a⟩:=WI g;rw[xh]at a;exact⟨_,λρ e w i=>⟨_,by simp only[execOp,(l ρ e i).bS,unary_not,awi,awm,awk],.v⟩,a⟩
 |neg=>
  obtain⟨k,m,rfl,a⟩:=O8 g;rw[Ap]at a;refine⟨_,λρ e w i=>⟨_,?_,.v⟩,a⟩;simp only[execOp,(l ρ e i).bS,unary_neg,Op.intArith,awi,awm,awk];rfl
 |_=>cases g
def FK.conv(i:hS P T){f:CV->At R}(v:lE t x e)(q:(oB (T t1).ik λ_=>oB (T t2).ik λb=>asI e λk m=>wrI b m λz=>f (.v (.int b z)))=some r):∃c,QK P ⟨d,.convert t1 t2 x,ty,pos,af,gd⟩ t c/\f c=some r:=by
 obtain⟨A,l,o⟩:=bG q;obtain⟨b,a,p⟩:=bG o;obtain⟨k,m,rfl,g⟩:=O8 p;rw[Ap]at g;have s:=i.ik _ _ l;have a:=i.ik _ _ a;refine⟨_,λρ e w u=>⟨_,?_,.v⟩,g⟩;have j:P.intKind t2=b:=by simp[Program.intKind,a]
 have:=run_convert_int w t1 t2 k m (by rw[s];rfl) (by rw[j];exact a);rw[j]at this;simp only[execOp,(v ρ e u).bS,awi,this,awk,awm]
def Ur{R:Type}(a:CV)(k:Nat->At R):At R:=match a with
 |.sl _ _ m _=>k m
 |.v (.slice none 0 0)=>k 0
 |_=>none
def Us{k:Nat->At R}(a:Ur e k=some r):∃m,(∀ρ v,KR ρ e v->∃A c,v=.slice A m c)/\k m=some r:=by
 unfold Ur at a;split at a
 .refine⟨_,λρ v b=>?_,a⟩
  cases b with
  |sl=>exact⟨_,_,rfl⟩
 .exact⟨_,λρ v b=>⟨_,_,b.bS⟩,a⟩
 .cases a
def mpK{R:Type}(a:CV)(k:Nat->At R):At R:=match a with
 |.mp j=>k j
 |_=>none
def WL{k:Nat->At R}(a:mpK e k=some r):∃j,e=.mp j/\k j=some r:=by
 unfold mpK at a;split at a
 .exact⟨_,rfl,a⟩
 .cases a
def blM(h:Tr di)(k:Nat){R:Type}(f:EQ->Do (Id×CV)->In->At R):At R:=oB (h.get k) λx=>match x with
 |.ma t a wr=>f t a wr
 |_=>none
def WM{f:EQ->Do (Id×CV)->In->At R}(a:blM h A f=some r):∃t b wr,h.get A=some (.ma t b wr)/\f t b wr=some r:=by
 obtain⟨x,c,a⟩:=bG a;split at a
 .exact⟨_,_,_,c,a⟩
 .cases a
def asA{R:Type}(T:EQ->bz)(h:Tr di)(c:Do EQ)(a:CV)(f:CV->At R):At R:=oB (c[0]?) λt1=>bB (T t1).lH (Ur a λm=>f (.v (.int .i64 (Int.ofNat m))))
 (mpK a λj=>blM h j λt2 b _=>bB (beq t1 t2) (kN b.length λm=>f (.v (.int .i64 (Int.ofNat m)))) none)
def ane{t1:EQ}(h:H.toList[0]? =some t1):H[0]? =some t1:=by rw[<-axq];exact h
def adY{a:At Addr}(b:H[0]? =some t1)(c:lH P t1=true)(f:C.eval x=.slice a A G)(w:GE):(execOp C.eval ⟨d,.call ⟨.builtin .len, #[x],H⟩,ty,pos,af,gd⟩).run P w=.ok (.value (.int .i64 A)) w:=by
 obtain⟨E,e⟩:=yg c;simp[execOp,resolve,invoke,builtin,Builtin.len_,b,aww e,f,goInt]
def FK.len(v:hS P T){s:jP}{c:CV}{f:CV->At R}(q:lE t x c)(b:asA T h s.toList c f=some r):∃c,PK P w0 ⟨d,.call ⟨.builtin .len, #[x],s⟩,ty,pos,af,gd⟩ t h c/\f c=some r:=by
 obtain⟨t1,g,b⟩:=bG b;have g:=ane g;rcases dR b with⟨k,b⟩|⟨_,b⟩
 .obtain⟨m,F,b⟩:=Us b
  refine⟨_,λρ a w N l U=>?_,b⟩;obtain⟨A,L,e⟩:=F ρ _ (q ρ a l);exact⟨_,adY g (v.lH _ k) e w,.v⟩
 .obtain⟨j,rfl,D⟩:=WL b
  obtain⟨t2,Q,wr,C,E⟩:=WM D;obtain⟨e,o⟩:=bj E;obtain rfl:=eL e;rw[fY]at o;refine⟨_,λρ a w N l k=>?_,o⟩;have p:=q ρ a l;generalize B:a.eval x=u at p;cases p with
  |mp G=>
   obtain⟨O,z,K,M,H,I,J⟩:=k.ob _ _ _ _ C G;obtain⟨V,S,i,p1,p2,p3,p4⟩:=iS H;refine⟨_,?_,.v⟩;simp[execOp,resolve,invoke,builtin,Builtin.len_,g,aww p1,B,goInt,aw_ I,J.len]
def asC{R:Type}(T:EQ->bz)(b:Do EQ)(a:CV)(f:CV->At R):At R:=oB (b[0]?) λt1=>match a with
 |.sl _ _ _ (some m)=>bB (T t1).lH (f (.v (.int .i64 (Int.ofNat m)))) none
 |.v (.slice none 0 0)=>bB (T t1).lH (f (.v (.int .i64 (Int.ofNat 0)))) none
 |_=>none
def FK.cap(l:hS P T){f:CV->At R}(o:lE t x e)(b:asC T H.toList e f=some r):∃e,QK P ⟨d,.call ⟨.builtin .cap, #[x],H⟩,ty,pos,af,gd⟩ t e/\f e=some r:=by
 obtain⟨t1,c,b⟩:=bG b;have c:=ane c;split at b
 .obtain⟨j,b⟩:=bj b
  obtain⟨E,g⟩:=yg (l.lH _ j);refine⟨_,λρ a w k=>?_,b⟩;have m:=o ρ a k;generalize i:a.eval x=u at m;cases m with
  |sl h v s p q=>
   obtain rfl:=p _ rfl;exact⟨_,by simp[execOp,resolve,invoke,builtin,Builtin.cap_,c,aww g,i,goInt],.v⟩
 .obtain⟨j,b⟩:=bj b
  obtain⟨E,g⟩:=yg (l.lH _ j);refine⟨_,λρ a w k=>⟨_,?_,.v⟩,b⟩;have i:=(o ρ a k).bS;simp[execOp,resolve,invoke,builtin,Builtin.cap_,c,aww g,i,goInt]
 .cases b
def FK.ajj{b:Builtin}{ts:jP}{f:CV->At R}(A:lE t x e)(C:lE t y B)(i:(asI e λk m=>asI B λ_ q=>match b with
 |.min=>bB (ltK q m) (f (.v (.int k q))) (f (.v (.int k m)))
 |.max=>bB (ltK m q) (f (.v (.int k q))) (f (.v (.int k m)))
 |_=>none)=some r):∃B,QK P ⟨d,.call ⟨.builtin b, #[x,y],ts⟩,ty,pos,af,gd⟩ t B/\f B=some r:=by
 obtain⟨k,m,rfl,a⟩:=O8 i;obtain⟨p,q,rfl,j⟩:=O8 a;have o:∀v,(∀(e:Act) w,e.eval x=.int k m->e.eval y=.int p q->(execOp e.eval ⟨d,.call ⟨.builtin b, #[x,y],ts⟩,ty,pos,af,gd⟩).run P w=.ok (.value v) w)->QK P ⟨d,.call ⟨.builtin b, #[x,y],ts⟩,ty,pos,af,gd⟩ t (.v v):=λv u=>
  λρ e w s=>⟨v,u e w (A ρ e s).bS (C ρ e s).bS,.v⟩
 have l:∀e:Act,e.eval x=.int k m->e.eval y=.int p q->(#[x,y]:gV).map e.eval= #[.int k m,.int p q]:=λe c g=>by simp only[ayr,awo,axd,c,g]
 cases b with
 |min=>
  simp only at j;rcases dR j with⟨a,i⟩|⟨a,i⟩
  .rw[xf]at a
   have a:=awX a;exact⟨_,o _ λe w c g=>by simp only[execOp,resolve,l e c g,awi,awm,awk,invoke,builtin,Builtin.min_,ayF,ayG,Builtin.min2,av3 a],i⟩
  .rw[xf]at a
   have a:=axT a;exact⟨_,o _ λe w c g=>by simp only[execOp,resolve,l e c g,awi,awm,awk,invoke,builtin,Builtin.min_,ayF,ayG,Builtin.min2,av2 a],i⟩
 |max=>
  simp only at j;rcases dR j with⟨a,i⟩|⟨a,i⟩
  .rw[xf]at a
   have a:q>m:=awX a;exact⟨_,o _ λe w c g=>by simp only[execOp,resolve,l e c g,awi,awm,awk,invoke,builtin,Builtin.max_,ayF,ayG,Builtin.max2,av3 a],i⟩
  .rw[xf]at a
   have a:¬q>m:=axT a;exact⟨_,o _ λe w c g=>by simp only[execOp,resolve,l e c g,awi,awm,awk,invoke,builtin,Builtin.max_,ayF,ayG,Builtin.max2,av2 a],i⟩
 |_=>cases j
end
end
variable{L:ey}
section
open Go Go.RowKit MapKept
section
variable{P:Fd}{Dk:Deferred->Prop}{w0:GE}{T:EQ->bz}
def O_{R:Type}(l:Do CV):Nat->Tr CV->(Tr CV->At R)->At R:=List.rec (motive:=λ_=>Nat->Tr CV->(Tr CV->At R)->At R) (λ_ t k=>k t) (λc _ a i t k=>Tr.new (some c) 64 t i λb=>a (Nat.succ i) b k) l
def tJ{R:Type}{r:R}:∀{l:Do CV} {i:Nat} {t:Tr CV} {k:Tr CV->At R},O_ l i t k=some r->∃a,k a=some r/\∀j,a.get j=if i<=j/\j<i+l.length then l[j - i]? else t.get j
 |[],i,t,k,h=>⟨t,h,λj=>by rw[av2 d5]⟩
 |c::l,i,t,k,h=>by
  change Tr.new (some c) 64 t i (λa=>O_ l (i+1) a k)=some r at h;obtain⟨t1,m,f⟩:=Tr.qS h;obtain⟨t2,o,g⟩:=tJ m;refine⟨t2,o,λj=>?_⟩;rw[g j,f j];simp only[aws];by_cases e:j=i
  .subst e
   rw[av2 bv,av3 rfl,av3 bv];simp
  .by_cases b:i+1<=j/\j<i+1+l.length
   .rw[av3 b,av3 bv,show j - i=(j - (i+1))+1 by omega]
    simp
   .rw[av2 b,av2 e,av2 bv]
def trL(l:Do CV):Tr CV:=Option.rec (motive:=λ_=>Tr CV) .lf (λt=>t) (O_ l 0 .lf some)
def ajk(h:(trL s).get A=some e):s[A]? =some e:=by
 unfold trL at h;cases a:O_ s 0 .lf (some:Tr CV->At (Tr CV))with
 |none=>rw[a]at h;cases h
 |some t=>
  rw[a]at h;obtain⟨f,b,c⟩:=tJ a;cases b;change t.get A=some e at h;rw[c]at h;split at h
  .simpa using h
  .cases h
def oN(l:Do CV):In:=List.rec (motive:=λ_=>In) true (λc _ a=>bB c.one a false) l
def hB:∀{l:Do CV},oN l=true->∀c∈l,c.one=true
 |[],_,c,a=>by simp at a
 |x::l,h,c,a=>by
  change bB x.one (oN l) false=true at h;cases b:x.one with
  |false=>rw[b]at h;cases h
  |true=>
   rw[b]at h;rcases awr.1 a with rfl|a
   .exact b
   .exact hB (l:=l) h c a
def DA{R:Type}(h:Tr di)(n:Nat)(b:di)(k:Tr di->Nat->At R):At R:=Tr.new (some b) 64 h n λa=>kN (Nat.succ n) λc=>k a c
def yh{R:Type}{r:R}{h:Tr di}{n:Nat}{b:di}{k:Tr di->Nat->At R}(f:DA h n b k=some r):∃a,k a (n+1)=some r/\∀j,a.get j=if j=n then some b else h.get j:=by
 obtain⟨a,c,e⟩:=Tr.qS f;rw[fY]at c;exact⟨a,c,e⟩
def xj{R:Type}(c:CV)(k:Do CV->At R):At R:=match c with
 |.ag a=>k a
 |c=>bB c.one (k [c]) none
def EP{R:Type}{r:R}{k:Do CV->At R}(c:xj e k=some r):∃l,(∀ρ v,KR ρ e v->∃b,v.cells=b.toArray/\LR (KR ρ) l b)/\k l=some r:=by
 have m:∀e:CV,(∀g,e≠.ag g)->bB e.one (k [e]) none=some r->∃l,(∀ρ v,KR ρ e v->∃b,v.cells=b.toArray/\LR (KR ρ) l b)/\k l=some r:=λe _ c=>by
  obtain⟨i,c⟩:=bj c;exact⟨_,λρ v f=>⟨[v],ql (f.kT i),LR.cons f LR.nil⟩,c⟩
 cases e with
 |ag g=>exact⟨_,λρ v f=>by obtain⟨b,rfl,j⟩:=f.fI;exact⟨b,rfl,j⟩,c⟩
 |_=>exact m _ (λg a=>by cases a) c
def Nm.new(ρ:Nm)(n b m:Nat):Nm:=λk=>if k=n then some (b,m)else ρ k
def Nm.tK{ρ:Nm}{n b m:Nat}:ρ.new n b m n=some (b,m):=av3 rfl
def HR.le{ρ:Nm}{h:KH}{n:Nat}(c:HR P w0 ρ h n i)(b m:Nat):EN ρ (ρ.new n b m):=λk p a=>by
 have:=c.lt a;show(if k=n then _ else _)=_;rw[av2 bv];exact a
def HR.drew{ρ:Nm}{h:KH}{n:Nat}{w:GE}(a:HR P w0 ρ h n w):HR P w0 ρ h n w.drew:=
 ⟨a.ext.drew,λk x b m e c=>(a.ob k x b m e c).mono (EN.refl ρ) rfl,a.lo,a.inj,a.top,a.HH⟩
def KP.drew{ρ:Nm}{h:KH}{n:Nat}{w:GE}(a:HR P w0 ρ h n w):KP P w0 ρ h n w ρ h n w.drew:=
 let k:=KP.refl a
 ⟨a.drew,av5 _,λ_ _=>rfl,av5 _,k.fr,k.ol,k.fz⟩
def HR.M5{ρ:Nm}{h e:KH}{n:Nat}(f:HR P w0 ρ h n i)(ty:EQ)(m:Nat)(ext:cn){N:Nat}{ct:Tr CV}(v:N<=L.size)(w:∀g,ext=some g->L.size=m*g)
 (o:∀j c,ct.get j=some c->j<N/\∃u,L[j]? =some u/\KR ρ c u/\c.one=true) (p:∀k,e k=if k=n then some (.ce ct N ext true)else h k):
 KP P w0 ρ h n i (ρ.new n i.heap.size m) e (n+1) (i.alloc (.cells L ty)):=by
 have s:=f.le i.heap.size m;exact f.new _ m p ((Ext.refl i).alloc _) d5 ⟨ty,L,abL i _,v,λj c q=>let⟨l,u,a,b,d⟩:=o j c q;⟨l,u,a,b.mono s,d⟩,w⟩
def LR.at{ρ:Nm}(g:LR (KR ρ) s D)(b:∀c∈s,c.one=true)(e:∀j c,v.get j=some c->s[j]? =some c):∀j c,v.get j=some c->j<s.length/\∃u,D.toArray[j]? =some u/\KR ρ c u/\c.one=true:=λj c a=>by
 have a:=e j c a;obtain⟨u,i,f⟩:=g.get a;exact⟨(av7.1 a).1,u,by simpa using i,f,b c (awg a)⟩
section
variable{t:Tr CV}{h:Tr di}{n:Nat}{d:jQ}{ty t1 t2:EQ}{pos:String}{af:dY}{gd:gg}{x y z:If}{R:Type}{r:R}
def Pa{b:di}{k:Tr di->Nat->At R}(f:DA h n b k=some r):∃a,(∀j,a.get j=yp h.get n (some b) j)/\k a (Dz n (some b))=some r:=by
 obtain⟨a,c,e⟩:=yh f;exact⟨a,e,c⟩
def ajl{R:Type}(h:Tr di)(n:Nat)(l:Do CV)(k:Nat->Tr di->Nat->At R):At R:=bB (oN l) (O_ l 0 .lf λa=>kN l.length λm=>DA h n (.ce a m none true) λb c=>k n b c) none
def abi{k:Nat->Tr di->Nat->At R}(a:ajl h n s k=some r):∃b f,(∀ρ w i ty (H:KH) N,HR P w0 ρ H N w->LR (KR ρ) s i->KP P w0 ρ H N w (ρ.new N w.heap.size 0) (yp H N (some b)) (N+1) (w.alloc (.cells i.toArray ty)))/\(∀j,f.get j=yp h.get n (some b) j)/\k n f (n+1)=some r:=by
 obtain⟨m,a⟩:=bj a;obtain⟨u,a,o⟩:=tJ a;rw[fY]at a;obtain⟨f,p,a⟩:=Pa a;refine⟨_,f,λρ w i ty H N q l=>?_,p,a⟩;refine q.M5 ty 0 none (N:=s.length) (by simp[l.1]) (λv e=>by cases e) (l.at (hB m) λj c g=>?_) (λ_=>rfl);rw[o]at g;split at g
 .simpa using g
 .cases g
def FK.box{a:CV}{k:CV->Tr di->Nat->At R}(C:lE t x a)(e:(xj a λl=>ajl h n l λi c D=>k (.pt i 0) c D)=some r):∃g f c,ZK P Dk w0 ⟨d,.box t1 x,ty,pos,af,gd⟩ t g f/\(∀j,c.get j=yp h.get n f j)/\k (g n) c (Dz n f)=some r:=by
 obtain⟨l,p,e⟩:=EP e;obtain⟨b,c,s,o,e⟩:=abi (P:=P) (w0:=w0) e;refine⟨λn=>.pt n 0,some b,c,λρ a w H N A u=>?_,o,e⟩;obtain⟨m,B,q⟩:=p ρ _ (C ρ a A);refine .value (v:=.pointer (some ⟨w.heap.size,0,none⟩)) (w':=w.alloc (.cells m.toArray t1)) ?_ ⟨_,s ρ w m t1 H N u q,.pt Nm.tK⟩;simp[execOp,Instr.box,newVar,newRow,newObj,B,Sem.run]
def FK.alloc(p:hS P T){k:CV->Tr di->Nat->At R}(u:(oB (T t1).ze λz=>bB (oN (z.map .v)) (DA h n (.ce (trL (z.map .v)) z.length none true) λb F=>k (.pt n 0) b F) none)=some r):∃m l b,ZK P Dk w0 ⟨d,.alloc t1,ty,pos,af,gd⟩ t m l/\(∀j,b.get j=yp h.get n l j)/\k (m n) b (Dz n l)=some r:=by
 obtain⟨z,f,A⟩:=bG u;obtain⟨o,B⟩:=bj A;obtain⟨b,q,C⟩:=Pa B;have f:=p.ze _ _ f;unfold Fc at f;obtain⟨i,s,f⟩:=ayp.1 f;obtain⟨G,E,rfl⟩:=awC.1 f;refine⟨λn=>.pt n 0,_,b,λρ a w H N I D=>?_,q,C⟩;refine .value (v:=.pointer (some ⟨w.heap.size,0,none⟩)) (w':=w.alloc (.cells G.cells.toList.toArray t1)) ?_ ⟨_,D.M5 t1 0 none d5 (λJ e=>by cases e) (λj c g=>by have:=LR.at (ρ:=ρ) (LR.vs _) (hB o) (λj c g=>ajk g) j c g;simpa using this) (λ_=>rfl),.pt Nm.tK⟩;simp[execOp,Instr.alloc,zeroValue,typeInfo,s,E,newVar,newRow,newObj,Sem.run]
def lX{R:Type}(t:Tr CV)(b:AH):(Do (Nat×Do CV)->At R)->At R:=
 List.rec (motive:=λ_=>(Do (Nat×Do CV)->At R)->At R) (λk=>k []) (λp _ a k=>er t p.2 λc=>xj c λl=>a λe=>k ((p.1,l)::e)) b
def ER:∀{ps:AH} {k:Do (Nat×Do CV)->At R},lX t ps k=some r->∃e,(∀ρ a,o8 ρ t a->e.length=(ps.map λp=>(p.1,a.eval p.2)).length/\∀(j:Nat) p q,e[j]? =some p->(ps.map λp=>(p.1,a.eval p.2))[j]? =some q->p.1=q.1/\LR (KR ρ) p.2 q.2.cells.toList)/\k e=some r
 |[],k,b=>⟨[],λρ a m=>⟨rfl,d5⟩,b⟩
 |(i,x)::ps,k,b=>by
  obtain⟨c,u,b⟩:=cD b;obtain⟨l,v,b⟩:=EP b;obtain⟨e,A,b⟩:=ER (ps:=ps) b;refine⟨(i,l)::e,λρ a m=>?_,b⟩;obtain⟨o,s⟩:=A ρ a m;refine⟨by simp[o],λj p q f g=>?_⟩;cases j with
  |zero=>
   simp at f g;subst f g;obtain⟨C,B,w⟩:=v ρ _ (u ρ a m);exact⟨rfl,by simpa[B]using w⟩
  |succ j=>exact s j p q (by simpa using f) (by simpa using g)
def FK.build(G:hS P T){A:HL}{k:CV->At R}(f:(oB (T t1).pl λp=>lX t A.toList λB=>oB (hQ (λi=>p.2[i]?) (p.1.map .v) B) λj=>k (.ag j))=some r):∃c,QK P ⟨d,.build t1 A,ty,pos,af,gd⟩ t c/\k c=some r:=by
 obtain⟨⟨z,l⟩,v,f⟩:=bG f;obtain⟨B,J,f⟩:=ER f;obtain⟨j,u,f⟩:=bG f;obtain⟨M,b,I⟩:=G.pl _ _ _ v;have u:=zT I u;refine⟨_,λρ a w K=>?_,f⟩;obtain⟨E,F⟩:=J ρ a K;have v:LR (KR ρ) (z.map .v) z.toArray.toList:=by simpa using LR.vs z
 obtain⟨g,C,D⟩:=kU (place:=M) B _ (z.map .v) j z.toArray v E F u;refine⟨.agg g.toList.toArray,?_,.ag _ D.1 D.2⟩;have H:P.built t1 (A.map λ(i,x)=>(i,a.eval x)).toList=some g:=by
  unfold plA at b;unfold Program.built;simp only[axP];split at b
  next L n e m o=>
   split at b
   next N Q q s=>simp only[av6,awn]at b;obtain⟨rfl,rfl⟩:=b;simp only[m,o,q,s];simpa using C
   .cases b
  next L O m o=>
   split at b
   next N S q s=>simp only[av6,awn]at b;obtain⟨rfl,rfl⟩:=b;simp only[m,o,q,s];simpa using C
   .cases b
  .cases b
 have:=run_build w t1 _ g H;simp only[execOp,awi,this,awk,awm,az1]
def FK.buildSlice(O:hS P T){len:Nat}{parts:HL}{k:CV->Tr di->Nat->At R}(C:(oB (T t1).el λe=>bB (ble (Nat.mul len e.2.1) 16777216) (lX t parts.toList λqs=>oB (hQ (λi=>some (i*e.2.1,e.2.1)) (List.replicate (Nat.mul len e.2.1) (.v undef)) qs) λcs=>ajl h n cs λi h' n'=>k (.sl i 0 len (some len)) h' n') none)=some r):
 ∃B s h',ZK P Dk w0 ⟨d,.buildSlice t1 len parts,ty,pos,af,gd⟩ t B s/\(∀j,h'.get j=yp h.get n s j)/\k (B n) h' (Dz n s)=some r:=by
 obtain⟨⟨E,sz,a5,z⟩,S,X⟩:=bG C;obtain⟨m,Y⟩:=bj X;have m:len*sz<=16777216:=awd m;obtain⟨qs,l,Z⟩:=ER Y;obtain⟨cs,U,D⟩:=bG Z;have a3:=(bj D).1;obtain⟨J,h',g,W,o⟩:=abi (P:=P) (w0:=w0) D;obtain⟨i,zv,K,L,M,h5,rfl,_,_⟩:=c_ (O.el _ _ S);refine⟨λn=>.sl n 0 len (some len),some J,h',λρ a w H N ht hs=>?_,W,o⟩;obtain⟨p1,p2⟩:=l ρ a ht;obtain⟨A,Q,a4⟩:=mO (P:=P) w t1 E len (parts.map λ(i,x)=>(i,a.eval x)) i zv K L M m;have a2:LR (λc u=>c=CV.v undef\/KR ρ c u) (List.replicate (len*i.size) (.v undef)) A.toList:=by
  refine⟨by simp[Q],λj c u b I=>?_⟩;rw[ayB]at b;split at b
  .simp at b;exact .inl b.symm
  .cases b
 have G:qs.length=(parts.map λ(i,x)=>(i,a.eval x)).toList.length/\∀(j:Nat) p q,qs[j]? =some p->(parts.map λ(i,x)=>(i,a.eval x)).toList[j]? =some q->p.1=q.1/\LR (λc u=>c=CV.v undef\/KR ρ c u) p.2 q.2.cells.toList:=by
  rw[axP];exact⟨p1,λj p q g l=>⟨(p2 j p q g l).1,(p2 j p q g l).2.imp λ_ _ o=>.inr o⟩⟩
 obtain⟨f,V,F⟩:=kU (place:=λj=>some (j*i.size,i.size)) qs _ _ cs A a2 G.1 G.2 U;have a1:LR (KR ρ) cs f.toList:=⟨F.1,λj c u b I=>by
  rcases F.2 j c u b I with rfl|C
  .have:=hB a3 _ (awg b)
   cases this
  .assumption⟩
 have a0:=g ρ w f.toList E H N hs a1;refine .value (v:=.slice (some ⟨w.heap.size,0,none⟩) len len) (w':=w.alloc (.cells f.toList.toArray E)) ?_ ⟨_,a0,.sl Nm.tK (λ_=>rfl) (av5 _) (λx e=>by cases e;rfl) (λe=>by cases e)⟩;simp only[execOp,awi,a4 f V,awk,awm,az1]
def tM{z:ey}{m j:Nat}{u:Id}(c:0<z.size)(f:j<m)(b:z[j % z.size]? =some u):(madeCells z m)[j]? =some u:=by
 have a:j % z.size<z.size:=ayE _ c;have e:z[j % z.size]! =u:=by
  rw[awU a]at b;cases b;simp[a]
 simp[madeCells,f,e]
def WN{α:Type}(z:Do α)(b:0<z.length):∀(m j:Nat) c,(List.replicate m z).flatten[j]? =some c->z[j % z.length]? =some c/\j<m*z.length
 |0,j,c,h=>by simp at h
 |m+1,j,c,h=>by
  rw[axG,awI]at h;by_cases a:j<z.length
  .rw[awY a]at h
   exact⟨by rw[ayq a];exact h,by rw[awK];omega⟩
  .rw[axl bv]at h
   obtain⟨e,f⟩:=WN z b m _ c h;exact⟨by rw[<-e,az7 (ayD a)],by rw[awK];omega⟩
def Kg(z:bI)(m:Nat):Tr CV:=match z with
 |[v]=>Tr.fill (.v v) 64 m
 |z=>trL ((List.replicate m (z.map .v)).flatten)
def M6{z:bI}(c:0<z.length)(h:(Kg z A).get G=some e):∃u,e=.v u/\z[G % z.length]? =some u/\G<A*z.length:=by
 unfold Kg at h;split at h
 next v=>obtain⟨rfl,a⟩:=Tr.kU h;exact⟨v,rfl,by simp[Nat.mod_one],by simpa using a⟩
 .have a:=ajk h
  have f:0<(z.map CV.v).length:=by simpa using c
  obtain⟨b,g⟩:=WN _ f A G e a;rw[awa,awp]at b;obtain⟨u,i,rfl⟩:=awC.1 b;exact⟨u,rfl,i,by simpa using g⟩
def FK.makeSlice(S:hS P T){k:CV->Tr di->Nat->At R}(hx:lE t x e)(hy:lE t y B)(X:(oB (T t1).el λb=>yq e λm=>yq B λM=>bB (beq m M) (bB (ble (Nat.mul b.2.2.1 m) 140737488355328) (bB (ble m 1048576) (bB (blt 0 b.2.1) (bB (oN (b.2.2.2.map .v)) (DA h n (.ce (Kg b.2.2.2 m) (Nat.mul m b.2.1) none true) λf n'=>k (.sl n 0 m (some m)) f n') none) none) none) none) none)=some r):
 ∃s o f,ZK P Dk w0 ⟨d,.makeSlice t1 x y,ty,pos,af,gd⟩ t s o/\(∀j,f.get j=yp h.get n o j)/\k (s n) f (Dz n o)=some r:=by
 obtain⟨⟨E,O,Q,z⟩,U,Y⟩:=bG X;obtain⟨k1,m,rfl,Z⟩:=nM Y;obtain⟨k2,M,rfl,a0⟩:=nM Z;obtain⟨hm,a1⟩:=bj a0;obtain rfl:=eL hm;obtain⟨D,a2⟩:=bj a1;obtain⟨J,a3⟩:=bj a2;obtain⟨G,a4⟩:=bj a3;obtain⟨a7,a5⟩:=bj a4;obtain⟨f,V,a6⟩:=Pa a5;have D:Q*m<=140737488355328:=awd D;have J:m<=1048576:=awd J;have I:0<O:=awd G;clear G;obtain⟨i,q,p2,p3,p4,p,rfl,rfl,rfl⟩:=c_ (S.el _ _ U);refine⟨λn=>.sl n 0 m (some m),_,f,λρ a w H N K hs=>?_,V,a6⟩;have F:=run_make (P:=P) w t1 E i q p2 p3 p4 k1 k2 m m bv (axx _) (by
  have h:((i.bytes*m:Nat):Int)<=281474976710656:=bv
  rwa[ax1]at h) bv
 simp only[av9]at F;have L:q.cells.toList.length=i.size:=by simpa using p
 refine .value (v:=.slice (some ⟨w.heap.size,0,none⟩) m m) (w':=w.alloc (.cells (madeCells q.cells (m*i.size)) E)) ?_ ⟨_,hs.M5 E 0 none (by simp[az8]) (λO b=>by cases b) (λj c W=>?_) (λ_=>rfl),.sl Nm.tK (λ_=>rfl) (av5 _) (λx b=>by cases b;rfl) (λb=>by cases b)⟩
 .have A:=(hx ρ a K).bS
  have C:=(hy ρ a K).bS;simp only[azP]at A C;simp only[execOp,A,C,awi,F,awk,awm]
 .obtain⟨u,rfl,l,g⟩:=M6 (by rw[L];exact I) W
  rw[L]at l g;refine⟨by simpa using g,u,tM (by rw[p];exact I) g (by rw[p];simpa using l),.v,?_⟩;exact hB a7 _ (awe.2 ⟨u,awg l,rfl⟩)
def FK.makeMap(g:hS P T){k:CV->Tr di->Nat->At R}(m:(oB (T t1).mp λ_=>DA h n (.ma t1 [] true) λb s=>k (.mp n) b s)=some r):∃f e b,ZK P Dk w0 ⟨d,.makeMap t1 none,ty,pos,af,gd⟩ t f e/\(∀j,b.get j=yp h.get n e j)/\k (f n) b (Dz n e)=some r:=by
 obtain⟨⟨u,z⟩,c,o⟩:=bG m;obtain⟨b,l,p⟩:=Pa o;have c:=g.mp _ _ c;obtain⟨C,A,i,p1,p2,p3,p4⟩:=iS c;refine⟨λn=>.mp n,_,b,λρ a w H N B q=>?_,l,p⟩;refine .value (v:=.map (some w.heap.size)) (w':=w.alloc (.map #[] 0)) ?_ ⟨_,q.new _ 0 (λ_=>rfl) ((Ext.refl w).alloc _) d5 ⟨u,z, #[],0,c,abL w _,rfl,d5,d5,stamped_empty 0,d5,rfl⟩,.mp Nm.tK⟩;simp[execOp,run_makeMap]
def FK.makeFunc{g:Fn}{i f:gV}{k:CV->At R}(e:(tH t i.toList λp=>tH t f.toList λb=>k (.cl g p b))=some r):∃c,QK P ⟨d,.makeFunc g i f,ty,pos,af,gd⟩ t c/\k c=some r:=by
 obtain⟨p,q,e⟩:=HI e;obtain⟨b,s,e⟩:=HI e;refine⟨_,λρ a w l=>?_,e⟩;have m:=q ρ a l;have o:=s ρ a l;refine⟨.func g (i.toList.map a.eval).toArray (f.toList.map a.eval).toArray,?_,.cl _ _ m.1 o.1 m.2 o.2⟩;have j:∀b:gV,(b.toList.map a.eval).toArray=b.map a.eval:=λb=>by rw[<-axP]
 rw[j,j];simp[execOp,Instr.makeFunc]
end
end
end
variable{O:Tr CV}{Y:jO}
section
open Go Go.RowKit MapKept
section
variable{P:Fd}{Dk:Deferred->Prop}{w0:GE}{T:EQ->bz}
def apw{R:Type}(l:Do CV):Nat->Tr CV->(Tr CV->At R)->At R:=List.rec (motive:=λ_=>Nat->Tr CV->(Tr CV->At R)->At R) (λ_ t k=>k t) (λc _ a i t k=>Tr.put c t i λb=>a (Nat.succ i) b k) l
def abj{R:Type}{r:R}:∀{l:Do CV} {i:Nat} {t:Tr CV} {k:Tr CV->At R},apw l i t k=some r->∃b,k b=some r/\(∀j,b.get j=if i<=j/\j<i+l.length then l[j - i]? else t.get j)/\∀j,i<=j->j<i+l.length->∃x,t.get j=some x
 |[],i,t,k,h=>⟨t,h,λj=>by rw[av2 d5],λj g e=>by simp at e;omega⟩
 |c::l,i,t,k,h=>by
  change Tr.put c t i (λb=>apw l (i+1) b k)=some r at h;obtain⟨t1,g,u,f⟩:=Tr.oM h;obtain⟨t2,e,p,q⟩:=abj g;refine⟨t2,e,λj=>?_,λj v s=>?_⟩
  .rw[p j,f j]
   simp only[aws];by_cases a:j=i
   .subst a
    rw[av2 bv,av3 rfl,av3 bv];simp
   .by_cases m:i+1<=j/\j<i+1+l.length
    .rw[av3 m,av3 bv,show j - i=(j - (i+1))+1 by omega]
     simp
    .rw[av2 m,av2 a,av2 bv]
  .by_cases a:j=i
   .subst a;exact u
   .simp only[aws]at s
    obtain⟨x,o⟩:=q j bv bv;rw[f j,av2 a]at o;exact⟨x,o⟩
def Ext.setRow{w0 w:GE}(h:Ext w0 w){b:Nat}(e:w0.heap.size<=b)(a:ey):Ext w0 (w.setRow b a):=
 ⟨⟨h.os,h.tape,h.output,by simp[World.setRow];exact h.size,λk c=>by rw[ayS w b k a bv];exact h.ca k c⟩,h.drawn⟩
def HR.write{ρ:Nm}{h I:KH}{n:Nat}(g:HR P w0 ρ h n i){j b m o N:Nat}{ext:cn}{l:Do CV}{us:bI}(w:h j=some (.ce v N ext true))(B:ρ j=some (b,m))(s:LR (KR ρ) l us)(K:∀c∈l,c.one=true)
 (L:∀a,O.get a=if o<=a/\a<o+l.length then l[a - o]? else v.get a) (M:∀a,o<=a->a<o+l.length->∃x,v.get a=some x) (Q:∀k,I k=if k=j then some (.ce O N ext true)else h k):
 ∃V,(storeCells ⟨b,o,none⟩ us 0).run P i=.ok () V/\KP P w0 ρ h n i ρ I n V:=by
 obtain⟨ty,q,D,W,C,H⟩:=g.ob _ _ _ _ w B;have E:o+us.length<=q.size\/us=[]:=by
  by_cases J:us=[]
  .exact .inr J
  .left
   have hp:0<us.length:=axV.2 J;obtain⟨x,G⟩:=M (o+us.length - 1) bv (by rw[<-s.1];omega);have:=(C _ _ G).1;omega
 rcases E with E|rfl
 .have Y:∀u∈us,u.oneCell'=true:=λu p=>by
   obtain⟨a,f,rfl⟩:=awV p;have S:a<l.length:=by rw[<-s.1];exact f
   exact(s.2 a l[a] us[a] (awf S) (awf f)).kT (K _ (ayx S))
  have a1:=run_storeCells_at P b o ty us 0 q i D (by simpa using E) Y;refine⟨_,a1,?_⟩;have U:=g.lo _ _ _ _ w B;refine g.set _ w B rfl rfl Q (g.ext.setRow U _) (by simp[World.setRow]) (λk A=>ayS i b k _ A) ⟨ty,_,azZ i b q _ ty (0,0) D,?_,λa c f=>?_,λsz e=>?_⟩
  .simp;omega
  .rw[L]at f
   split at f
   next F=>
    obtain⟨x,G⟩:=M a F.1 F.2;obtain⟨u,p,A⟩:=s.get f;refine⟨(C _ _ G).1,u,?_,A,K c (awg f)⟩;have e0:(q.toList.take o).length=o:=d7
    simp only[axv,axD];rw[awx,axl bv,e0,awY (by have:=(av7.1 p).1;exact this)];exact p
   next F=>
    obtain⟨X,u,p,A,ho⟩:=C _ _ f;refine⟨X,u,?_,A,ho⟩;have e0:(q.toList.take o).length=o:=d7
    simp only[axv,axD];rw[awx];by_cases a0:a<o
    .rw[awY bv,awP,av3 a0];simpa using p
    .have a2:o+us.length<=a:=by rw[s.1];omega
     rw[axl bv,e0,axl bv,axt];rw[show o+us.length+(a - o - us.length)=a by omega];simpa using p
  .rw[<-H sz e];simp;omega
 .refine⟨i,rfl,?_⟩
  have Z:l=[]:=aw6 s.1.symm;subst Z;have U:=g.lo _ _ _ _ w B;refine g.set _ w B rfl rfl Q g.ext rfl (λ_ _=>rfl) ⟨ty,q,D,W,λa c f=>?_,H⟩;rw[L,av2 d5]at f;exact C a c f
section
variable{t:Tr CV}{h:Tr di}{n:Nat}{d:jQ}{ty t1 t2:EQ}{pos:String}{af:dY}{gd:gg}{x y z:If}{R:Type}{r:R}
def wrK{R:Type}(h:Tr di)(j o:Nat)(l:Do CV)(k:Tr di->At R):At R:=blC h j λa N ext wr=>bB wr (bB (oN l) (apw l o a λb=>Tr.put (.ce b N ext true) h j k) none) none
def ajm{k:Tr di->At R}(o:wrK h A G s k=some r):
 ∃a,(∀ρ w b m c,HR P w0 ρ h.get n w->ρ A=some (b,m)->LR (KR ρ) s c->∃e,(storeCells ⟨b,G,none⟩ c 0).run P w=.ok () e/\KP P w0 ρ h.get n w ρ a.get n e)/\k a=some r:=by
 obtain⟨F,N,ext,wr,l,p⟩:=EO o;obtain⟨rfl,q⟩:=bj p;obtain⟨f,u⟩:=bj q;obtain⟨H,v,g,i⟩:=abj u;obtain⟨a,B,_,j⟩:=Tr.oM v;exact⟨a,λρ w b m c E D C=>E.write l D C (hB f) g i j,B⟩
def ptA{R:Type}(c:CV)(k:Nat->Nat->At R):At R:=match c with
 |.pt j o=>k j o
 |_=>none
def apx{k:Nat->Nat->At R}(a:ptA e k=some r):∃j o,e=.pt j o/\k j o=some r:=by
 unfold ptA at a;split at a
 .exact⟨_,_,rfl,a⟩
 .cases a
def FK.store(C:hS P T){k:CV->Tr di->Nat->At R}(W:lE t x e)(X:lE t y B)(E:(oB (T t1).ty λf=>ptA e λj o=>xj B λl=>bB (beq l.length f.2) (wrK h j o l λg=>k (.v undef) g n) none)=some r):
 ∃c g u,FK P Dk w0 ⟨d,.store t1 x y,ty,pos,af,gd⟩ t h n c g u/\k c g u=some r:=by
 obtain⟨⟨ag,m⟩,S,F⟩:=bG E;obtain⟨j,o,rfl,G⟩:=apx F;obtain⟨l,L,H⟩:=EP G;obtain⟨p,I⟩:=bj H;obtain⟨g,V,J⟩:=ajm (P:=P) (w0:=w0) (n:=n) I;have p:l.length=m:=eL p;refine⟨_,g,n,λρ a w s O=>?_,J⟩;obtain⟨b,Y,M,D⟩:=(W ρ a s).Ao;obtain⟨v,U,q⟩:=L ρ _ (X ρ a s);obtain⟨Z,N,K⟩:=V ρ w b Y v O M q;obtain⟨td,i,h2,A,_,rfl⟩:=jg (C.ty _ _ S);refine .skip (w':=Z) ?_ ⟨ρ,K,.v⟩;have Q:v.length=i.size:=by rw[q.1];exact p
 simp[execOp,Instr.storeAt,Instr.sureAddr,D,storeVar,U,cT w A,Q,N]
def yr{R:Type}(t:Tr CV)(o:jO)(a:Nat)(k:Nat->At R):At R:=Option.rec (motive:=λ_=>At R) (k a) (λx=>er t x λc=>yq c k) o
def tO{k:Nat->At R}(e:yr t Y A k=some r):∃m,(∀ρ a,o8 ρ t a->(Y.map a.eval=none/\m=A)\/∃b,Y.map a.eval=some (.int b (m:Int)))/\k m=some r:=by
 cases Y with
 |none=>exact⟨A,λρ a f=>.inl ⟨rfl,rfl⟩,e⟩
 |some x=>
  obtain⟨c,g,i⟩:=cD e;obtain⟨b,m,rfl,j⟩:=nM i;exact⟨m,λρ a f=>.inr ⟨b,by simp[(g ρ a f).bS]⟩,j⟩
def asE(c:cn)(m:Nat):Nat:=Option.rec (motive:=λ_=>Nat) m (λa=>a) c
def pcK{R:Type}(j o g l c a:Nat)(k:CV->At R):At R:=kN (bB (beq a l) o (Nat.add o (Nat.mul l g))) λf=>kN (Nat.sub c l) λe=>kN (Nat.sub a l) λb=>k (.sl j f e (some b))
def WO{j o e l c a:Nat}{k:CV->At R}:pcK j o e l c a k=k (.sl j (if a=l then o else o+l*e) (c - l) (some (a - l))):=by
 unfold pcK;rw[fY,fY,fY];cases b:beq a l with
 |true=>rw[av3 (eL b)];rfl
 |false=>rw[av2 (ks b)];rfl
def xk{R:Type}(T:EQ->bz)(t:Tr CV)(t1:EQ)(a:CV)(p f i:jO)(k:CV->At R):At R:=match a with
 |.sl j o m c=>oB (T t1).el λe=>bB (blt 0 e.2.1) (yr t p 0 λl=>yr t f m λb=>bB (ble l b) (bB (ble b m) (Option.rec (motive:=λ_=>At R)
  (Option.rec (motive:=λ_=>At R) (kN (Nat.add o (Nat.mul l e.2.1)) λv=>kN (Nat.sub b l) λu=>k (.sl j v u none)) (λq=>bB (ble m q) (pcK j o e.2.1 l b q k) none) c)
  (λw=>bB f.isSome (er t w λs=>yq s λg=>bB (ble b g) (bB (ble g (asE c m)) (pcK j o e.2.1 l b g k) none) none) none) i) none) none) none
 |.v (.slice none 0 0)=>oB (T t1).el λ_=>yr t p 0 λl=>yr t f 0 λb=>yr t i 0 λg=>bB (beq l 0) (bB (beq b 0) (bB (beq g 0) (bB (i.isNone||f.isSome) (k (.v (.slice none 0 0))) none) none) none) none
 |.pt j o=>oB (T t1).ar λe=>bB i.isNone (bB (blt 0 e.2.2) (yr t p 0 λl=>yr t f e.1 λb=>bB (ble l b) (bB (ble b e.1) (pcK j o e.2.2 l b e.1 k) none) none) none) none
 |_=>none
def ajn{ρ:Nm}{j o m p l i g b s cap f:Nat}{c:cn}(A:0<p)(q:ρ j=some (b,s))(k:0<m\/o=0->f=o)(u:l<=i)(v:i<=m)(w:i<=g):
 KR ρ (.sl j (if g=l then o else o+l*p) (i - l) (some (g - l))) (.slice (if g=l then some ⟨b,f,none⟩else(some (⟨b,f,none⟩:Addr)).map (·.add (l*p))) (i - l) (g - l)):=by
 by_cases e:g=l
 .rw[av3 e,av3 e]
  refine .sl q (λa=>?_) bv (λx e=>by cases e;rfl) (λe=>by cases e);rcases a with a|a
  .omega
  .exact k (.inr a)
 .rw[av2 e,av2 e]
  simp only[aw9,awT];refine .sl q (λa=>?_) bv (λx e=>by cases e;rfl) (λe=>by cases e);rcases a with a|a
  .rw[k (.inl bv)]
  .have:o=0:=bv
   rw[k (.inr this)]
def FK.slice(hT:hS P T){a:CV}{lo Q mx:jO}{k:CV->At R}(hx:lE t x a)(I:xk T t t1 a lo Q mx k=some r):∃c,QK P ⟨d,.slice t1 x lo Q mx,ty,pos,af,gd⟩ t c/\k c=some r:=by
 cases a with
 |sl j o m c=>
  change(oB (T t1).el λe=>_)=some r at I;obtain⟨⟨E,sz,ab,z⟩,he,a2⟩:=bG I;obtain⟨L,V⟩:=bj a2;have L:0<sz:=awd L;obtain⟨l,W,a3⟩:=tO V;obtain⟨s,U,a4⟩:=tO a3;obtain⟨C,a5⟩:=bj a4;obtain⟨D,H⟩:=bj a5;have C:l<=s:=awd C;have D:s<=m:=awd D;obtain⟨i,zv,p2,p3,p4,p5,rfl,_,_⟩:=c_ (hT.el _ _ he);have a9:∀{ρ:Nm} {a:Act},o8 ρ t a->∃b mm q f,a.eval x=.slice (some ⟨b,f,none⟩) m q/\ρ j=some (b,mm)/\(0<m\/o=0->f=o)/\m<=q/\(∀y,c=some y->q=y)/\(c=none->o=0->q=mm):=λ{ρ a} p=>by
   have hv:=hx ρ a p;generalize a.eval x=u at hv;cases hv with
   |sl B J M Y Z=>exact⟨_,_,_,_,rfl,B,J,M,Y,Z⟩
  cases mx with
  |none=>
   cases c with
   |none=>
    change kN _ (λo'=>kN _ λm'=>k (.sl j o' m' none))=some r at H;rw[fY,fY]at H;refine⟨_,λρ a w p=>?_,H⟩;obtain⟨b,mm,q,f,G,B,J,M,Y,Z⟩:=a9 p;have X:=fK (P:=P) p2 p3 (some ⟨b,f,none⟩) m q l s none q (lo.map a.eval) (Q.map a.eval) none w (W ρ a p) (U ρ a p) (.inl ⟨rfl,rfl⟩) C D bv (av5 _) M;refine⟨.slice (if q=l then some ⟨b,f,none⟩else(some (⟨b,f,none⟩:Addr)).map (·.add (l*i.size))) (s - l) (q - l),by simp only[execOp,awi,G,ax2,X,awk,awm],?_⟩;show KR ρ (.sl j (o+l*i.size) (s - l) none) _;by_cases e:q=l
    .rw[av3 e]
     have ah:l=0\/0<l*i.size:=by
      by_cases S:l=0
      .exact .inl S
      .exact .inr (ayy bv L)
     refine .sl B (λK=>?_) bv (λx e=>by cases e) (λ_ S=>?_)
     .rcases K with K|K
      .omega
      .have S:l=0:=bv
       have h5:o=0:=bv
       rw[S,ayz,axv];exact J (.inr h5)
     .have h5:l=0:=bv
      have h6:=Z rfl bv;omega
    .rw[av2 e]
     simp only[aw9,awT];have ah:l=0\/0<l*i.size:=by
      by_cases S:l=0
      .exact .inl S
      .exact .inr (ayy bv L)
     refine .sl B (λK=>?_) bv (λx e=>by cases e) (λ_ S=>?_)
     .rcases K with K|K
      .rw[J (.inl bv)]
      .rw[J (.inr bv)]
     .have h5:l=0:=bv
      have h6:=Z rfl bv;omega
   |some cp=>
    obtain⟨A,a0⟩:=bj H;rw[WO]at a0;refine⟨_,λρ a w p=>?_,a0⟩;obtain⟨b,mm,q,f,G,B,J,M,Y,Z⟩:=a9 p;obtain rfl:=Y cp rfl;have X:=fK (P:=P) p2 p3 (some ⟨b,f,none⟩) m q l s none q (lo.map a.eval) (Q.map a.eval) none w (W ρ a p) (U ρ a p) (.inl ⟨rfl,rfl⟩) C D bv (av5 _) M;exact⟨_,by simp only[execOp,awi,G,ax2,X,awk,awm],ajn (c:=none) (cap:=q) L B J C D bv⟩
  |some xm=>
   obtain⟨gs,a0⟩:=bj H;obtain⟨cm,ad,a8⟩:=cD a0;obtain⟨km,ml,rfl,ag⟩:=nM a8;obtain⟨A,ae⟩:=bj ag;obtain⟨F,aa⟩:=bj ae;have A:s<=ml:=awd A;have F:ml<=asE c m:=awd F;rw[WO]at aa;refine⟨_,λρ a w p=>?_,aa⟩;obtain⟨b,mm,q,f,G,B,J,M,Y,Z⟩:=a9 p;have g5:ml<=q:=by
    cases c with
    |none=>exact awH F M
    |some cp=>rw[Y cp rfl];exact F
   have X:=fK (P:=P) p2 p3 (some ⟨b,f,none⟩) m q l s none ml (lo.map a.eval) (Q.map a.eval) (some (a.eval xm)) w (W ρ a p) (U ρ a p) (.inr ⟨⟨km,by rw[(ad ρ a p).bS];rfl⟩,by cases Q with|none=>cases gs|some y=>simp⟩) C D A g5 M;exact⟨_,by simp only[execOp,awi,G,aw9,X,awk,awm],ajn (c:=none) (cap:=q) L B J C D A⟩
 |v u=>
  unfold xk at I;split at I
  next e=>cases e
  next e=>
   cases e;obtain⟨⟨E,sz,ab,z⟩,he,a2⟩:=bG I;obtain⟨l,W,V⟩:=tO a2;obtain⟨s,U,a3⟩:=tO V;obtain⟨ml,ai,a4⟩:=tO a3;obtain⟨e1,a5⟩:=bj a4;obtain⟨e2,H⟩:=bj a5;obtain⟨e3,a0⟩:=bj H;obtain⟨e4,a8⟩:=bj a0;obtain rfl:=eL e1;obtain rfl:=eL e2;obtain rfl:=eL e3;obtain⟨i,zv,p2,p3,p4,p5,rfl,_,_⟩:=c_ (hT.el _ _ he);refine⟨_,λρ a w p=>?_,a8⟩;have X:=fK (P:=P) p2 p3 none 0 0 0 0 none 0 (lo.map a.eval) (Q.map a.eval) (mx.map a.eval) w (W ρ a p) (U ρ a p) (by
    rcases ai ρ a p with⟨g,_⟩|⟨kd,g⟩
    .exact .inl ⟨g,rfl⟩
    .refine .inr ⟨⟨kd,g⟩,?_⟩
     cases mx with
     |none=>cases g
     |some y=>cases Q with
      |none=>cases e4
      |some y=>simp) (av5 _) (av5 _) (av5 _) (av5 _) (av5 _)
   exact⟨_,by simp only[execOp,awi,(hx ρ a p).bS,X,awk,awm,awG,azu],.v⟩
  next e=>cases e
  .cases I
 |pt j o=>
  change(oB (T t1).ar λe=>_)=some r at I;obtain⟨⟨N,E,sz⟩,he,a2⟩:=bG I;obtain⟨gm,V⟩:=bj a2;obtain⟨L,V⟩:=bj V;have L:0<sz:=awd L;obtain⟨l,W,a3⟩:=tO V;obtain⟨s,U,a4⟩:=tO a3;obtain⟨C,a5⟩:=bj a4;obtain⟨D,H⟩:=bj a5;have C:l<=s:=awd C;have D:s<=N:=awd D;rw[WO]at H;cases mx with
  |some y=>cases gm
  |none=>
  refine⟨_,λρ a w p=>?_,H⟩;obtain⟨b,mm,B,G⟩:=(hx ρ a p).Ao;obtain⟨aj,a7,ac,rfl⟩:=xB (hT.ar _ _ he);have a1:P.elem t1=E:=by simp[Program.elem,a7]
  have O:P.arrayLen t1=N:=by simp[Program.arrayLen,a7]
  have hu:P.underlying t1=some (.array (P.arrayLen t1) (P.elem t1)):=by rw[a1,O];exact a7
  refine⟨slicedAt ⟨b,o,none⟩ l s N aj.size,?_,?_⟩
  .have a6:=cT (P:=P) w ac
   rcases W ρ a p with⟨A,rfl⟩|⟨kl,A⟩<;>rcases U ρ a p with⟨F,rfl⟩|⟨kh,F⟩
   .simp[execOp,G,A,F,aAQ w t1 ⟨b,o,none⟩ hu,a1,O,a6]
   .simp only[execOp,G,ax2,A,F,aAR w t1 ⟨b,o,none⟩ hu kh s bv (by rw[O];omega),awi,a1,a6,O,awk,av9,awm]
   .simp only[execOp,G,ax2,A,F,aAS w t1 ⟨b,o,none⟩ hu kl l bv (by rw[O];omega),awi,a1,a6,O,awk,av9,awm]
   .simp only[execOp,G,ax2,A,F,aAT w t1 ⟨b,o,none⟩ hu kl kh l s bv bv (by rw[O];omega),awi,a1,a6,O,awk,av9,awm]
  .unfold slicedAt
   by_cases e:N=l
   .rw[av3 e,av3 e]
    exact .sl B (λK=>rfl) bv (λx e=>by cases e;rfl) (λe=>by cases e)
   .rw[av2 e,av2 e,awT]
    exact .sl B (λK=>rfl) bv (λx e=>by cases e;rfl) (λe=>by cases e)
 |_=>cases I
def apy{R:Type}(h:Tr di)(c:Nat)(a:CV)(k:Nat->Do CV->At R):At R:=match a with
 |.sl j o m _=>bB (beq m 0) (k 0 []) (blC h j λb _ _ _=>rdC b (Nat.mul m c) o λl=>k m l)
 |.v (.slice none 0 0)=>k 0 []
 |_=>none
def al2{k:Nat->Do CV->At R}(f:apy h A e k=some r):∃m l,(∀ρ w v,HR P w0 ρ h.get n w->KR ρ e v->∃b D g,v=.slice b m D/\LR (KR ρ) l g/\g.length=m*A/\(∀u∈g,u.oneCell'=true)/\(m=0\/∃q,b=some q/\∀(j:Nat) u,g[j]? =some u->w.cell? (q.add j)=some u))/\k m l=some r:=by
 unfold apy at f;split at f
 next j o m c=>
  rcases dR f with⟨a,f⟩|⟨a,f⟩
  .have a:=eL a
   refine⟨0,[],λρ w v p i=>?_,f⟩;cases i with
   |sl B s E F G=>rw[a];exact⟨_,_,[],rfl,LR.nil,d5,d5,.inl rfl⟩
  .have a:=ks a
   obtain⟨O,N,ext,wr,H,f⟩:=EO f;obtain⟨l,J,K,f⟩:=Kf f;refine⟨m,l,λρ w v p i=>?_,f⟩;cases i with
   |sl B s E F G=>
    obtain⟨g,C,L,M⟩:=(p.ob _ _ _ _ H B).cells l K;obtain rfl:=s (.inl bv);exact⟨_,_,g,rfl,C,by rw[C.1,J];rfl,M,.inr ⟨_,rfl,λj u I=>by rw[awT];exact L j u I⟩⟩
 .exact⟨0,[],λρ w v p i=>⟨_,_,[],i.bS,LR.nil,d5,d5,.inl rfl⟩,f⟩
 .cases f
def abk{R:Type}(h:Tr di)(n e m:Nat)(l:Do CV)(k:CV->Tr di->Nat->At R):At R:=bB (oN l) (O_ l 0 .lf λa=>kN l.length λN=>DA h n (.ce a N (some e) true) λb c=>k (.sl n 0 m none) b c) none
def Kh{k:CV->Tr di->Nat->At R}(b:abk h n A G s k=some r):∃l,(∀ρ w i g rest E,HR P w0 ρ h.get n w->LR (KR ρ) s i->i.length=G*A->G<=g->(i.toArray++rest).size=g*A->
 ∃q,KP P w0 ρ h.get n w q l.get (n+1) (w.drew.alloc (.cells (i.toArray++rest) E))/\KR q (.sl n 0 G none) (.slice (some ⟨w.heap.size,0,none⟩) G g))/\k (.sl n 0 G none) l (n+1)=some r:=by
 obtain⟨B,b⟩:=bj b;obtain⟨v,b,C⟩:=tJ b;rw[fY]at b;obtain⟨l,b,D⟩:=yh b;refine⟨l,λρ w i g rest E I o L H J=>?_,b⟩;have m:=KP.drew I;refine⟨ρ.new n w.heap.size g,m.trans (HR.M5 m.hr E g (some A) (N:=s.length) (ct:=v) (by simp[o.1]) (λa e=>by cases e;exact J) (λj c f=>?_) D),.sl Nm.tK (λ_=>rfl) H (λx e=>by cases e) (λ_ _=>rfl)⟩;rw[C]at f;split at f
 next K=>simp only[ay1]at f;obtain⟨u,p,b⟩:=o.get f;have F:=(av7.1 p).1;refine⟨(av7.1 f).1,u,?_,b,hB B c (awg f)⟩;rw[ayt (by simpa using F)];simpa using p
 .cases f
def anf{R:Type}(h:Tr di)(n a j b m:Nat)(l:Do CV)(k:CV->Tr di->Nat->At R):At R:=blC h j λp N ext wr=>bB wr (oB ext λs=>bB (beq a s) (bB (oN l)
 (bB (beq N (Nat.mul b a)) (O_ l N p λe=>kN (Nat.add N l.length) λc=>Tr.new none 64 h j λg=>DA g n (.ce e c (some a) true) λf o=>kN (Nat.add b m) λi=>k (.sl n 0 i none) f o)
  (bB (beq b 0) (O_ l 0 .lf λe=>kN l.length λc=>Tr.new none 64 h j λg=>DA g n (.ce e c (some a) true) λf o=>kN m λi=>k (.sl n 0 i none) f o)
   (bB (ble (Nat.mul b a) N) (rdC p (Nat.mul b a) 0 λq=>O_ (q++l) 0 .lf λe=>kN (Nat.add (Nat.mul b a) l.length) λc=>Tr.new none 64 h j λg=>DA g n (.ce e c (some a) true) λf o=>kN (Nat.add b m) λi=>k (.sl n 0 i none) f o) none))) none) none) none
def ajo{b j f m:Nat}{l:Do CV}{k:CV->Tr di->Nat->At R}(L:anf h n b j f m l k=some r):∃o p N g,h.get j=some (.ce p N (some b) true)/\(∀c∈l,c.one=true)/\
 (∀i c,g.get i=some c->(i<f*b/\p.get i=some c)\/(f*b<=i/\l[i - f*b]? =some c)\/(N<=i/\p.get i=some c))/\
 f*b<=N/\(∀k,o.get k=if k=n then some (.ce g (f*b+l.length) (some b) true)else if k=j then none else h.get k)/\k (.sl n 0 (f+m) none) o (n+1)=some r:=by
 obtain⟨p,N,ext,wr,F,M⟩:=EO L;obtain⟨rfl,Q⟩:=bj M;obtain⟨Y,K,S⟩:=bG Q;obtain⟨e,U⟩:=bj S;obtain rfl:=eL e;subst K;obtain⟨D,V⟩:=bj U;rcases dR V with⟨e,G⟩|⟨e,G⟩
 .have e:N=f*b:=eL e
  obtain⟨g,q,A⟩:=tJ G;rw[fY]at q;obtain⟨I,s,v⟩:=Tr.qS q;obtain⟨o,u,w⟩:=yh s;rw[fY]at u;refine⟨o,p,N,g,F,hB D,λi c a=>?_,bv,λk=>?_,u⟩
  .rw[A]at a
   split at a
   .right;left;rw[<-e];exact⟨bv,a⟩
   .by_cases E:i<f*b
    .exact .inl ⟨E,a⟩
    .exact .inr (.inr ⟨bv,a⟩)
  .rw[w,v,e]
   rfl
 .rcases dR G with⟨e,q⟩|⟨e,q⟩
  .obtain rfl:=eL e
   obtain⟨g,s,A⟩:=tJ q;rw[fY]at s;obtain⟨I,u,v⟩:=Tr.qS s;obtain⟨o,B,w⟩:=yh u;rw[fY]at B;refine⟨o,p,N,g,F,hB D,λi c a=>?_,d5,λk=>?_,by rw[awB];exact B⟩
   .rw[A]at a
    split at a
    .exact .inr (.inl (by simpa using a))
    .cases a
   .rw[w,v]
    simp
  .obtain⟨C,s⟩:=bj q
   have C:f*b<=N:=awd C;obtain⟨X,H,W,u⟩:=Kf s;have H:X.length=f*b:=H;obtain⟨g,B,A⟩:=tJ u;rw[fY]at B;obtain⟨I,O,v⟩:=Tr.qS B;obtain⟨o,J,w⟩:=yh O;rw[fY]at J;refine⟨o,p,N,g,F,hB D,λi c a=>?_,C,λk=>?_,J⟩
   .rw[A]at a
    split at a
    .simp only[ay1]at a
     by_cases E:i<f*b
     .rw[awY bv]at a
      have:=W i c a;rw[awB]at this;exact .inl ⟨E,this⟩
     .rw[axl bv,H]at a
      exact .inr (.inl ⟨bv,a⟩)
    .cases a
   .rw[w,v]
    rfl
end
end
end
section
open Go Go.RowKit MapKept
section
variable{P:Fd}{Dk:Deferred->Prop}{w0:GE}{T:EQ->bz}
section
variable{t:Tr CV}{h:Tr di}{n:Nat}{d:jQ}{ty t1 t2:EQ}{pos:String}{af:dY}{gd:gg}{x y z:If}{R:Type}{r:R}
def ES(w:GE)(t ty e k:EQ)(i:TypeInfo)(D:P.underlying t=some (.slice e))(v:P.info? e=some i)
 (g b f:Nat) (cur:ey) (s:w.heap[g]? =some (.cells cur k (0,0)))
 (a:Addr) (m c:Nat) (news:bI) (A:news.length=m*i.size) (B:∀j u,news[j]? =some u->w.cell? (a.add j)=some u) (o:∀u∈news,u.oneCell'=true)
 (C:b+m<=f) (q:b*i.size+news.length<=cur.size):
 (Builtin.append_ #[t,t] ty #[.slice (some ⟨g,0,none⟩) b f,.slice (some a) m c]).run P w=
  .ok (.slice (some ⟨g,0,none⟩) (b+m) f) (w.setRow g (cur.toList.take (b*i.size)++news++cur.toList.drop (b*i.size+news.length)).toArray):=by
 have p:=run_firstCells_some (P:=P) w i.size m a m c news A B;have l:=run_storeCells_at P g (b*i.size) k news 0 cur w s (by simpa using q) o;simp only[axv]at l;simp[Builtin.append_,aww D,sizeOf,typeInfo,v,Builtin.lenOf,C,p,awT,l]
def gM(h:(Builtin.append_ #[t1,t2] ty #[C.eval x,C.eval y]).run P i=.ok j M):
 (execOp C.eval ⟨W,.call ⟨.builtin .append, #[x,y], #[t1,t2]⟩,ty,pos,af,gd⟩).run P i=.ok (.value j) M:=by
 have a:(#[x,y]:gV).map C.eval= #[C.eval x,C.eval y]:=by simp only[ayr,awo,axd]
 simp only[execOp,resolve,a,awi,awm,awk,invoke,builtin];simp only[ay3,h,awk]
def toK{R:Type}(h:Tr di)(n e f:Nat)(a:CV)(m:Nat)(l:Do CV)(k:CV->Tr di->Nat->At R):At R:=match a with
 |.v (.slice none 0 0)=>bB (ble m 1048576) (bB (ble (Nat.mul m f) 140737488355328) (abk h n e m l k) none) none
 |.sl j o b c=>bB (ble (Nat.add b m) 1048576) (bB (ble (Nat.mul (Nat.add b m) f) 140737488355328) (Option.rec (motive:=λ_=>At R)
  (bB (beq o 0) (anf h n e j b m l k) none)
  (λg=>bB (blt g (Nat.add b m)) (bB (beq b 0) (abk h n e m l k) (blC h j λi _ _ _=>rdC i (Nat.mul b e) o λq=>kN (Nat.add b m) λp=>abk h n e p (q++l) k)) none) c) none) none
 |_=>none
def abl{R:Type}(T:EQ->bz)(h:Tr di)(n:Nat)(t1 t2:EQ)(a b:CV)(k:CV->Tr di->Nat->At R):At R:=oB (T t1).el λe=>bB (blt 0 e.2.1) (bB (beq t1 t2)
 (apy h e.2.1 b λm l=>bB (beq m 0) (Ur a λ_=>k a h n) (toK h n e.2.1 e.2.2.1 a m l k))
 (oB (T t2).ik λ_=>yq b λm=>match a with
  |.v (.slice none 0 0)=>bB (blt 0 m) (bB (ble m 1048576) (bB (ble (Nat.mul m e.2.2.1) 140737488355328) (bB (oN (e.2.2.2.map .v)) (DA h n (.ce (Kg e.2.2.2 m) (Nat.mul m e.2.1) (some e.2.1) true) λc f=>k (.sl n 0 m none) c f) none) none) none) none
  |_=>none)) none
def Ut{z:ey}{c rest:ey}{m a b:Nat}(g:z.size=b)(f:c.size=m*b)(e:rest=Builtin.zeroCells z (a - m))(i:m<=a):(c++rest).size=a*b:=by
 rw[ayk,f,e,axN,g,<-awK];congr 1;omega
def apz(hT:hS P T){E sz ae:Nat}{m:Nat}{l:Do CV}{k:CV->Tr di->Nat->At R}(he:(T t1).el=some (E,sz,ae,D))(az:0<sz)(hx:lE t x e)
 (ax:∀ρ w v,HR P w0 ρ h.get n w->KR ρ B v->∃A C us,v=.slice A m C/\LR (KR ρ) l us/\us.length=m*sz/\(∀u∈us,u.oneCell'=true)/\(m=0\/∃I,A=some I/\∀(j:Nat) u,us[j]? =some u->w.cell? (I.add j)=some u)) (hy:lE t y B) (hm:¬m=0)
 (H:toK h n sz ae e m l k=some r):∃c L n',FK P Dk w0 ⟨d,.call ⟨.builtin .append, #[x,y], #[t1,t1]⟩,ty,pos,af,gd⟩ t h n c L n'/\k c L n'=some r:=by
 obtain⟨i,zv,p2,p3,p4,p5,rfl,rfl,rfl⟩:=c_ (hT.el _ _ he);have a8:∀{ρ:Nm} {e:Act} {w:GE},o8 ρ t e->HR P w0 ρ h.get n w->∃I C us,e.eval y=.slice (some I) m C/\LR (KR ρ) l us/\us.length=m*i.size/\(∀u∈us,u.oneCell'=true)/\∀(j:Nat) u,us[j]? =some u->w.cell? (I.add j)=some u:=λ{ρ e w} J p=>by
  obtain⟨A,C,us,S,U,F,h4,h5⟩:=ax ρ w _ p (hy ρ e J);rcases h5 with h5|⟨I,rfl,h5⟩
  .exact absurd h5 hm
  .exact⟨I,C,us,S,U,F,h4,h5⟩
 cases e with
 |v u=>
  unfold toK at H;split at H
  next a=>cases a;obtain⟨g1,a9⟩:=bj H;obtain⟨X,a7⟩:=bj a9;have g1:m<=1048576:=awd g1;have X:m*i.bytes<=140737488355328:=awd X;obtain⟨L,hg,a3⟩:=Kh (P:=P) (w0:=w0) a7;refine⟨_,L,_,λρ e w J p=>?_,a3⟩;obtain⟨I,C,us,a0,V,G,S,Y⟩:=a8 J p;have O:=azY (P:=P) w t1 ty E i zv p2 p3 p4 I m C us G Y bv bv bv;refine .value (gM (by rw[(hx ρ e J).bS,a0];exact O)) (hg ρ w us (grownCap w m 0 E) _ E p V G (axu w m 0 E) (Ut p5 (by simpa using G) rfl (axu w m 0 E)))
  next a=>cases a
  .cases H
 |sl j o b c=>
  change bB _ _ _=_ at H;obtain⟨g1,a9⟩:=bj H;obtain⟨X,a7⟩:=bj a9;have g1:b+m<=1048576:=awd g1;have X:(b+m)*i.bytes<=140737488355328:=awd X;have ac:∀{ρ:Nm} {e:Act},o8 ρ t e->∃B mm C f,e.eval x=.slice (some ⟨B,f,none⟩) b C/\ρ j=some (B,mm)/\(0<b\/o=0->f=o)/\b<=C/\(∀y,c=some y->C=y)/\(c=none->o=0->C=mm):=λ{ρ e} J=>by
   have hv:=hx ρ e J;generalize e.eval x=u at hv;cases hv with
   |sl Z M S F h4=>exact⟨_,_,_,_,rfl,Z,M,S,F,h4⟩
  cases c with
  |some cp=>
   obtain⟨Q,a3⟩:=bj a7;have Q:cp<b+m:=awd Q;rcases dR a3 with⟨a,a4⟩|⟨a,a4⟩
   .obtain rfl:=eL a
    obtain⟨L,hg,aa⟩:=Kh (P:=P) (w0:=w0) a4;refine⟨_,L,_,λρ e w J p=>?_,aa⟩;obtain⟨I,C,us,a0,V,G,S,Y⟩:=a8 J p;obtain⟨B,mm,g,f,a2,Z,M,q1,q3,q4⟩:=ac J;obtain rfl:=q3 cp rfl;have O:=aym (P:=P) w t1 ty E i zv p2 p3 p4 ⟨B,f,none⟩ 0 g [] d5 d5 I m C us G Y Q bv (ayV Q X);simp only[awB]at O;refine .value (gM (by rw[a2,a0];exact O)) ?_;have:=hg ρ w us (grownCap w m g E) (Builtin.zeroCells zv.cells (grownCap w m g E - m)) E p V G (axu w m g E) (Ut p5 (by simpa using G) rfl (axu w m g E));simpa using this
   .have a:=ks a
    obtain⟨cs,N,ext,wr,hb,aa⟩:=EO a4;obtain⟨ol,ar,au,ai⟩:=Kf aa;rw[fY]at ai;obtain⟨L,hg,ao⟩:=Kh (P:=P) (w0:=w0) ai;refine⟨_,L,_,λρ e w J p=>?_,ao⟩;obtain⟨I,C,us,a0,V,G,S,Y⟩:=a8 J p;obtain⟨B,mm,g,f,a2,Z,M,q1,q3,q4⟩:=ac J;obtain rfl:=q3 cp rfl;obtain rfl:=M (.inl bv);obtain⟨os,u1,u2,u3⟩:=(p.ob _ _ _ _ hb Z).cells ol au;have am:os.length=b*i.size:=by rw[u1.1,ar];rfl
    have O:=aym (P:=P) w t1 ty E i zv p2 p3 p4 ⟨B,f,none⟩ b g os am (λj v K=>by rw[awT];exact u2 j v K) I m C us G Y Q bv (ayV Q X);refine .value (gM (by rw[a2,a0];exact O)) ?_;have a5:(os++us).length=(b+m)*i.size:=by rw[awl,am,G,awK]
    have:=hg ρ w (os++us) (grownCap w (b+m) g E) (Builtin.zeroCells zv.cells (grownCap w (b+m) g E - (b+m))) E p (u1.append V) a5 (axu w _ g E) (Ut p5 (by simpa using a5) rfl (axu w _ g E));simpa using this
  |none=>
   obtain⟨a,a3⟩:=bj a7;obtain rfl:=eL a;obtain⟨L,cs,N,ct,K,S,ah,hN,hh,a4⟩:=ajo a3;refine⟨_,L,_,λρ e w J p=>?_,a4⟩;obtain⟨I,C,us,a0,V,G,aw,Y⟩:=a8 J p;obtain⟨B,mm,g,f,a2,Z,M,q1,q3,q4⟩:=ac J;obtain rfl:=M (.inr rfl);obtain rfl:=q4 rfl rfl;obtain⟨a6,a1,b1,b2,b3,b4⟩:=p.ob _ _ _ _ K Z;have ag:=b4 _ rfl;have a5:l.length=m*i.size:=by rw[<-V.1,G]
   have ay:=p.lth K;by_cases ab:b+m<=g
   .have an:b*i.size+us.length<=a1.size:=by rw[ag,G,<-awK];exact ax_ _ ab
    have O:=ES (P:=P) w t1 ty E a6 i p2 p3 B b g a1 b1 I m C us G Y aw ab an;refine .value (gM (by rw[a2,a0];exact O)) ⟨ρ.new n B g,?_,.sl Nm.tK (λ_=>rfl) ab (λx a=>by cases a) (λ_ _=>rfl)⟩;have ap:=p.lo _ _ _ _ K Z;have aj:=p.le B g;refine p.move _ K Z rfl rfl hh (p.ext.setRow ap _) (by simp[World.setRow]) (λk H=>ayS w B k _ H) ⟨a6,_,azZ w B a1 _ a6 (0,0) b1,?_,λq c hq=>?_,λs a=>?_⟩
    .rw[a5,<-G];simp;omega
    .have e0:(a1.toList.take (b*i.size)).length=b*i.size:=d7
     rcases ah q c hq with⟨U,F⟩|⟨U,F⟩|⟨U,F⟩
     .obtain⟨g5,u,W,H,M⟩:=b3 _ _ F
      refine⟨bv,u,?_,H.mono aj,M⟩;simp only[axD];rw[awx,awY bv,awP,av3 U];simpa using W
     .obtain⟨u,W,H⟩:=V.get F
      have ak:=(av7.1 W).1;have aq:=(av7.1 F).1;refine⟨bv,u,?_,H.mono aj,S c (awg F)⟩;simp only[axD];rw[awx,axl bv,e0,awY ak];exact W
     .have:=(b3 _ _ F).1;omega
    .cases a
     rw[<-ag];simp;omega
   .have Q:g<b+m:=bv
    have av:∀(j:Nat) v,(a1.toList.take (b*i.size))[j]? =some v->w.cell? ((⟨B,0,none⟩:Addr).add j)=some v:=λj v K=>by
     rw[awT,awB,aw8 w B j a1 a6 (0,0) b1];rw[awP]at K;split at K
     .simpa using K
     .cases K
    have e0:(a1.toList.take (b*i.size)).length=b*i.size:=d7
    have O:=aym (P:=P) w t1 ty E i zv p2 p3 p4 ⟨B,0,none⟩ b g _ e0 av I m C us G Y Q bv (ayV Q X);have bx:=p.kill (h':=λk=>if k=j then none else h.get k) K rfl (λk=>rfl);have hd:=KP.drew bx.hr;have al:=axu w (b+m) g E;refine .value (gM (by rw[a2,a0];exact O)) ⟨ρ.new n w.heap.size (grownCap w (b+m) g E),(bx.trans hd).trans (HR.M5 hd.hr E (grownCap w (b+m) g E) (some i.size) (N:=b*i.size+l.length) (ct:=ct) ?_ (λs a=>?_) (λq c hq=>?_) (λk=>hh k)),.sl Nm.tK (λ_=>rfl) al (λx a=>by cases a) (λ_ _=>rfl)⟩
    .simp only[ayk,axX,e0,G,a5,axN];omega
    .cases a
     exact Ut (m:=b+m) p5 (by simp only[ayk,axX,e0,G,awK]) rfl al
    .rcases ah q c hq with⟨U,F⟩|⟨U,F⟩|⟨U,F⟩
     .obtain⟨g5,u,W,H,M⟩:=b3 _ _ F
      refine⟨bv,u,?_,H,M⟩;rw[ayt d7,ayt d7];simp only[axD];rw[awP,av3 U];simpa using W
     .obtain⟨u,W,H⟩:=V.get F
      have ak:=(av7.1 W).1;have aq:=(av7.1 F).1;refine⟨bv,u,?_,H,S c (awg F)⟩;rw[ayt d7,Array.getElem?_append_right d7];simp only[axD,axX,e0];exact W
     .have:=(b3 _ _ F).1;omega
 |_=>cases H
def FK.append(D:hS P T){k:CV->Tr di->Nat->At R}(V:lE t x e)(W:lE t y B)(hk:abl T h n t1 t2 e B k=some r):∃c C n',FK P Dk w0 ⟨d,.call ⟨.builtin .append, #[x,y], #[t1,t2]⟩,ty,pos,af,gd⟩ t h n c C n'/\k c C n'=some r:=by
 obtain⟨⟨E,sz,a5,zz⟩,L,a0⟩:=bG hk;obtain⟨a2,a8⟩:=bj a0;have G:0<sz:=awd a2;clear a2 a0 hk;rcases dR a8 with⟨a,M⟩|⟨a,M⟩
 .obtain rfl:=eL a
  obtain⟨m,l,a3,O⟩:=al2 (P:=P) (w0:=w0) (n:=n) M;rcases dR O with⟨a,b⟩|⟨a,b⟩
  .obtain rfl:=eL a
   obtain⟨X,ae,Q⟩:=Us b;obtain⟨i,I,p2,p3,p4,f,rfl,_,_⟩:=c_ (D.el _ _ L);refine⟨_,h,n,.pure λρ e w o S=>?_,Q⟩;obtain⟨A,a6,us,K,_⟩:=a3 ρ w _ S (W ρ e o);have H:=V ρ e o;refine⟨e.eval x,?_,H⟩;obtain⟨j,g,p,ad⟩:∃j g,e.eval x=.slice j X g/\X<=g:=by
    obtain⟨j,g,p⟩:=ae ρ _ H;refine⟨j,g,p,?_⟩;rw[p]at H;cases H with
    |sl _ _ K=>exact K
    |v=>
     unfold Ur at b;split at b
     next a=>cases a
     next a=>cases a;exact av5 _
     .cases b
   exact gM (by rw[K,p];exact tY w t1 ty E i p2 p3 j A X g a6 ad)
  .exact apz D L G V a3 W (ks a) b
 .obtain⟨kn,ac,O⟩:=bG M
  obtain⟨km,m,rfl,b⟩:=nM O;split at b
  .obtain⟨J,Q⟩:=bj b
   obtain⟨Y,a9⟩:=bj Q;obtain⟨Z,aa⟩:=bj a9;obtain⟨g3,ab⟩:=bj aa;have J:0<m:=awd J;have Y:m<=1048576:=awd Y;have Z:m*a5<=140737488355328:=awd Z;obtain⟨C,a7,hh⟩:=yh ab;obtain⟨i,I,p2,p3,p4,f,rfl,rfl,rfl⟩:=c_ (D.el _ _ L);refine⟨_,C,_,λρ e w o S=>?_,a7⟩;have ag:=Go.Lib.run_append_nil_zeros (P:=P) w t1 t2 ty E i I km kn p2 (D.ik _ _ ac) p3 p4 m J G bv bv;have a4:I.cells.toList.length=i.size:=by simpa using f
   have hd:=KP.drew S;have a1:=axu w m 0 E;refine .value (gM (by rw[(V ρ e o).bS,(W ρ e o).bS];exact ag)) ⟨_,hd.trans (HR.M5 hd.hr E (grownCap w m 0 E) (some i.size) (N:=m*i.size) ?_ (λs a=>?_) (λq c hq=>?_) hh),.sl Nm.tK (λ_=>rfl) a1 (λx a=>by cases a) (λ_ _=>rfl)⟩
   .simp only[ayk,axN,f];omega
   .cases a
    exact Ut (m:=m) f (by rw[axN,f]) rfl a1
   .obtain⟨u,rfl,U,F⟩:=M6 (by rw[a4];exact G) hq
    rw[a4]at U F;refine⟨F,u,?_,.v,hB g3 _ (awe.2 ⟨u,awg U,rfl⟩)⟩;rw[ayt (by rw[axN,f];exact F)];exact tM (m:=m*I.cells.size) (by rw[f];exact G) (by rw[f];exact F) (by rw[f];simpa using U)
  .cases b
def ajp{R:Type}(T:EQ->bz)(h:Tr di)(n:Nat)(t1:EQ)(a:CV)(k:CV->Tr di->Nat->At R):At R:=oB (T t1).el λe=>bB (blt 0 e.2.1) (match a with
 |.v (.slice none 0 0)=>k (.v undef) h n
 |.sl j o m _=>bB (beq m 0) (k (.v undef) h n) (wrK h j o ((List.replicate m (e.2.2.2.map .v)).flatten) λb=>k (.v undef) b n)
 |_=>none) none
def Uu{α β:Type}(f:α->β)(z:Do α):∀m,(List.replicate m (z.map f)).flatten=((List.replicate m z).flatten).map f
 |0=>rfl
 |m+1=>by rw[axG,axG,awI,awI,awQ,Uu f z m]
def Ki{z:ey}(m:Nat)(a:0<z.size):(Builtin.zeroCells z m).toList=(List.replicate m z.toList).flatten:=by
 refine axA λj=>?_;have i:(Builtin.zeroCells z m).toList.length=m*z.size:=by simp[axN]
 have e:((List.replicate m z.toList).flatten).length=m*z.size:=d5
 by_cases f:j<m*z.size
 .obtain⟨c,b⟩:∃c,((List.replicate m z.toList).flatten)[j]? =some c:=⟨_,awf (by rw[e];exact f)⟩
  obtain⟨g,_⟩:=WN z.toList (by simpa using a) m j c b;rw[b];have:=tM (z:=z) (m:=m*z.size) (j:=j) (u:=c) a f (by simpa using g);rw[axq];exact this
 .rw[awO (by rw[i];omega),awO (by rw[e];omega)]
def FK.clear(K:hS P T){a:CV}{k:CV->Tr di->Nat->At R}(D:lE t x a)(F:ajp T h n t1 a k=some r):∃c p J,FK P Dk w0 ⟨d,.call ⟨.builtin .clear, #[x], #[t1]⟩,ty,pos,af,gd⟩ t h n c p J/\k c p J=some r:=by
 obtain⟨⟨E,X,a0,zz⟩,L,G⟩:=bG F;obtain⟨H,q⟩:=bj G;have Q:0<X:=awd H;clear H G F;obtain⟨i,Z,p2,p3,p4,W,rfl,_,rfl⟩:=c_ (K.el _ _ L);have s:∀a:Act,(#[x]:gV).map a.eval= #[a.eval x]:=λa=>by simp only[ayr,awo,axd]
 split at q
 .refine⟨_,h,n,.pure λρ a w g C=>⟨undef,?_,.v⟩,q⟩
  simp[execOp,resolve,s,(D ρ a g).bS,invoke,builtin,Builtin.clear_,aww p2,undef]
 next j o m c=>
  rcases dR q with⟨e,B⟩|⟨e,B⟩
  .obtain rfl:=eL e
   refine⟨_,h,n,.pure λρ a w g C=>⟨undef,?_,.v⟩,B⟩;have l:=D ρ a g;generalize A:a.eval x=u at l;cases l with
   |sl=>simp[execOp,resolve,s,A,invoke,builtin,Builtin.clear_,aww p2,undef]
  .have e:=ks e
   obtain⟨p,U,M⟩:=ajm (P:=P) (w0:=w0) (n:=n) B;refine⟨_,p,n,λρ a w g C=>?_,M⟩;have l:=D ρ a g;generalize A:a.eval x=u at l;cases l with
   | @sl _ _ _ _ b V a1 f S O h1 h3 h4=>
    obtain rfl:=O (.inl bv);obtain⟨Y,I,N⟩:=U ρ w b V ((List.replicate m Z.cells.toList).flatten) C S (by rw[Uu];exact LR.vs _);rw[<-Ki m (by rw[W];exact Q)]at I;refine .value (v:=undef) (w':=Y) ?_ ⟨ρ,N,.v⟩;cases m with
    |zero=>omega
    |succ m=>simp[execOp,resolve,s,A,invoke,builtin,Builtin.clear_,aww p2,undef,zeroValue,typeInfo,p3,p4,I]
 .cases q
end
end
end
variable{F:TypeDesc}
section
open Go Go.RowKit MapKept
section
variable{P:Fd}{Dk:Deferred->Prop}{w0:GE}{T:EQ->bz}
def al3(d:TypeDesc)(v:Id):In:=match d with
 |.int k=>(match v with
  |.int a _=>decide (a=k)
  |_=>false)
 |.tuple _=>(match v with
  |.agg ⟨[.int .i64 _,.int .i64 _]⟩=>true
  |_=>false)
 |_=>false
def al4{d:TypeDesc}(h:al3 d j=true):mg d j:=by
 unfold al3 at h;split at h
 .split at h
  .have e:=awX h
   subst e;exact(rfl:_=_)
  .cases h
 .split at h
  .exact⟨_,_,rfl⟩
  .cases h
 .cases h
def Uv(x y:Id):In:=match x with
 |.int _ a=>(match y with
  |.int _ c=>eqK a c
  |_=>false)
 |.agg ⟨[.int _ a,.int _ c]⟩=>(match y with
  |.agg ⟨[.int _ e,.int _ f]⟩=>bB (eqK a e) (eqK c f) false
  |_=>false)
 |_=>false
def adZ(d:TypeDesc):Prop:=(∃k,d=.int k)\/∃l,d=.tuple l
def apA{d:TypeDesc}(h:al3 d j=true):adZ d:=by
 cases d<;>first|exact .inl ⟨_,rfl⟩|exact .inr ⟨_,rfl⟩|cases h
def Pb{d:TypeDesc}(j:adZ d){x y:Id}(b:mg d x)(g:mg d y):Uv x y=true↔x=y:=by
 rcases j with⟨k,rfl⟩|⟨l,rfl⟩
 .have b:IsKey (.int k) x:=b
  have g:IsKey (.int k) y:=g;cases x<;>simp only[IsKey]at b;cases y<;>simp only[IsKey]at g;subst b g;simp only[Uv,xg,awJ,Value.int.injEq,true_and]
 .obtain⟨a,c,rfl⟩:=b
  obtain⟨e,f,rfl⟩:=g;show bB (eqK a e) (eqK c f) false=true↔_;rw[xg,xg];by_cases i:a=e
  .rw[awu i,i]
   show decide (c=f)=true↔_;simp
  .rw[awz i]
   show false=true↔_;simp[i]
def DB(a:Do (Id×CV))(x:Id):At CV:=List.rec (motive:=λ_=>At CV) none (λp _ b=>bB (Uv p.1 x) (some p.2) b) a
def ajq{R:Type}(a:Do (Id×CV))(x:Id)(c:CV):(Do (Id×CV)->R)->R:=List.rec (motive:=λ_=>(Do (Id×CV)->R)->R) (λk=>k [(x,c)]) (λp l b k=>bB (Uv p.1 x) (k ((p.1,c)::l)) (b λr=>k (p::r))) a
def Kj{d:TypeDesc}(a:adZ d){x:Id}(f:mg d x):∀{es:Do (Id×CV)},(∀p∈es,mg d p.1)->DB es x=fM es x
 |[],_=>rfl
 |(k,c)::es,h=>by
  show bB (Uv k x) (some c) (DB es x)=_;have b:=Pb a (h _ (ayY)) f;have j:=Kj a f (es:=es) λp i=>h p (aw5 _ i);by_cases e:k=x
  .rw[b.2 e,fM,av3 e];rfl
  .have:Uv k x=false:=by
    cases g:Uv k x with
    |false=>rfl
    |true=>exact absurd (b.1 g) e
   rw[this,fM,av2 e];exact j
def abm{R:Type}{d:TypeDesc}(a:adZ d){x:Id}{c:CV}(f:mg d x):∀{es:Do (Id×CV)} {k:Do (Id×CV)->R},(∀p∈es,mg d p.1)->ajq es x c k=k (qu es x c)
 |[],k,_=>rfl
 |(y,e)::es,k,h=>by
  show bB (Uv y x) (k ((y,c)::es)) (ajq es x c λr=>k ((y,e)::r))=_;have b:=Pb a (h _ (ayY)) f;rw[abm a f (es:=es) λp i=>h p (aw5 _ i)];by_cases e:y=x
  .rw[b.2 e,qu,av3 e];rfl
  .have:Uv y x=false:=by
    cases g:Uv y x with
    |false=>rfl
    |true=>exact absurd (b.1 g) e
   rw[this,qu,av2 e];rfl
def KE.keys{R:a->Id->Prop}{d:TypeDesc}{c:Do (Id×a)}{b:AI}(h:KE R d c b A):∀p∈c,mg d p.1:=λp g=>by
 obtain⟨j,e,rfl⟩:=awV g;have f:j<b.size:=by rw[h.len];exact e
 rw[<-(h.key j _ _ (awf e) (awU f)).1];exact h.isk _ d5
section
variable{t:Tr CV}{h:Tr di}{n:Nat}{d:jQ}{ty t1 t2:EQ}{pos:String}{af:dY}{gd:gg}{x y z:If}{R:Type}{r:R}
def apB{R:Type}(c:CV)(k:Id->At R):At R:=match c with
 |.v x=>k x
 |.ag [.v a,.v c]=>k (.agg #[a,c])
 |_=>none
def al5{k:Id->At R}(a:apB e k=some r):∃x,(∀ρ v,KR ρ e v->v=x)/\k x=some r:=by
 unfold apB at a;split at a
 .exact⟨_,λρ v b=>b.bS,a⟩
 .refine⟨_,λρ v b=>?_,a⟩
  obtain⟨f,rfl,c⟩:=b.fI;have:=KR.WK (us:=[_,_]) c;rw[this]
 .cases a
def WQ{R:Type}(T:EQ->bz)(h:Tr di)(t1:EQ)(p q:CV)(k:Nat->Id->Do (Id×CV)->Id->In->At R):At R:=oB (T t1).mp λe=>mpK p λj=>apB q λx=>bB (al3 e.1 x) (blM h j λt2 a wr=>bB (beq t1 t2) (k j e.2 a x wr) none) none
def Pc(H:hS P T){k:Nat->Id->Do (Id×CV)->Id->In->At R}(V:lE t x e)(W:lE t y B)(I:WQ T h t1 e B k=some r):
 ∃j z g o wr f v s i,k j z g o wr=some r/\P.underlying t1=some (.map v s)/\U5 P v f/\P.info? s=some i/\i.zero=some z/\adZ f/\mg f o/\h.get j=some (.ma t1 g wr)/\mapA P t1=some (f,z)/\
  ∀ρ a w N,o8 ρ t a->HR P w0 ρ h.get N w->∃b m p q,a.eval x=.map (some b)/\a.eval y=o/\ρ j=some (b,m)/\w.heap[b]? =some (.map p q)/\KE (KR ρ) f g p q:=by
 obtain⟨⟨f,z⟩,l,J⟩:=bG I;obtain⟨j,rfl,K⟩:=WL J;obtain⟨o,S,L⟩:=al5 K;obtain⟨A,M⟩:=bj L;obtain⟨t2,g,wr,C,O⟩:=WM M;obtain⟨c,Q⟩:=bj O;obtain rfl:=eL c;have l:=H.mp _ _ l;obtain⟨v,s,i,p1,p2,p3,p4⟩:=iS l;refine⟨j,z,g,o,wr,f,v,s,i,Q,p1,p2,p3,p4,apA A,al4 A,C,l,λρ a w N E U=>?_⟩;have F:=V ρ a E;generalize a0:a.eval x=u at F;cases F with
 | @mp _ b m D=>
  obtain⟨Z,z',p,q,G,X,Y⟩:=U.ob _ _ _ _ C D;rw[l]at G;cases G;exact⟨b,m,p,q,rfl,S ρ _ (W ρ a E),D,X,Y⟩
def FK.lookup(X:hS P T){p q:CV}{g:In}{k:CV->At R}(Z:lE t x p)(hy:lE t y q)(Y:(WQ T h t1 p q λj z G J wr=>Option.rec (motive:=λ_=>At R) (bB g (k (.tu [cvK z,.v (.bool false)])) (k (cvK z))) (λc=>bB g (k (.tu [c,.v (.bool true)])) (k c)) (DB G J))=some r):
 ∃c,PK P w0 ⟨d,.lookup t1 x y g,ty,pos,af,gd⟩ t h c/\k c=some r:=by
 obtain⟨j,z,G,J,wr,td,kt,et,i,H,p1,p2,p3,p4,p5,K,p7,p8,L⟩:=Pc (P:=P) (w0:=w0) X Z hy Y;have res:∀{ρ:Nm} {w:GE} {b m:Nat} {o:AI} {s:Nat},w.heap[b]? =some (.map o s)->KE (KR ρ) td G o s->
  ∃u,(∀g,(Instr.lookup t1 (.map (some b)) J g).run P w=.ok (if g then .tuple #[u,.bool (DB G J).isSome]else u) w)/\KR ρ ((DB G J).getD (cvK z)) u:=λ{ρ w b m o s} S U=>by
  rw[Kj p5 K U.keys];rcases U.find (P:=P) K p2 with⟨M,V,O,_⟩|⟨j,m,c,M,V,O,Q,W,_⟩
  .refine⟨z,λg=>?_,by rw[O];exact Kd z⟩
   simp[Instr.lookup,aww p1,aw_ S,p2.Qc _ _ _ K,M,zeroValue,typeInfo,p3,p4,O]
  .refine⟨m.val,λg=>?_,by rw[Q];exact W⟩
   simp[Instr.lookup,aww p1,aw_ S,p2.Qc _ _ _ K,M,Q]
 cases I:DB G J with
 |none=>
  rw[I]at H;change bB g _ _=_ at H;rcases dR H with⟨rfl,D⟩|⟨rfl,D⟩
  .refine⟨_,λρ a w N F E=>?_,D⟩
   obtain⟨b,m,o,s,v,A,_,B,C⟩:=L ρ a w N F E;obtain⟨u,e,f⟩:=res (m:=m) B C;have e:=e true;rw[I]at e f;have l:=LR.cons f (LR.cons (KR.v (ρ:=ρ) (x:=.bool false)) LR.nil);exact⟨.tuple #[u,.bool false],by simp[execOp,v,A,e],.tu _ l.1 l.2⟩
  .refine⟨_,λρ a w N F E=>?_,D⟩
   obtain⟨b,m,o,s,v,A,_,B,C⟩:=L ρ a w N F E;obtain⟨u,e,f⟩:=res (m:=m) B C;have e:=e false;rw[I]at e f;exact⟨u,by simp[execOp,v,A,e],f⟩
 |some c=>
  rw[I]at H;change bB g _ _=_ at H;rcases dR H with⟨rfl,D⟩|⟨rfl,D⟩
  .refine⟨_,λρ a w N F E=>?_,D⟩
   obtain⟨b,m,o,s,v,A,_,B,C⟩:=L ρ a w N F E;obtain⟨u,e,f⟩:=res (m:=m) B C;have e:=e true;rw[I]at e f;have l:=LR.cons f (LR.cons (KR.v (ρ:=ρ) (x:=.bool true)) LR.nil);exact⟨.tuple #[u,.bool true],by simp[execOp,v,A,e],.tu _ l.1 l.2⟩
  .refine⟨_,λρ a w N F E=>?_,D⟩
   obtain⟨b,m,o,s,v,A,_,B,C⟩:=L ρ a w N F E;obtain⟨u,e,f⟩:=res (m:=m) B C;have e:=e false;rw[I]at e f;exact⟨u,by simp[execOp,v,A,e],f⟩
def HR.WS{ρ:Nm}{h o:KH}{n:Nat}(a:HR P w0 ρ h n i){j b m u e:Nat}{s c:AI}{v l:Do (Id×CV)}{z:Id}(p:h j=some (.ma t1 v true))(q:ρ j=some (b,m))(B:mapA P t1=some (F,z))(w:i.heap[b]? =some (.map s u))
 (C:KE (KR ρ) F l c e) (A:∀k,o k=if k=j then some (.ma t1 l true)else h k):KP P w0 ρ h n i ρ o n {i with heap:=i.heap.setIfInBounds b (.map c e)}:=by
 have g:=ay8 (o':=.map c e) w;have D:=a.lo _ _ _ _ p q;exact a.set _ p q rfl rfl A ⟨⟨a.ext.os,a.ext.tape,a.ext.output,by simp;exact a.ext.size,λk f=>by rw[g.2 k bv];exact a.ext.ca k f⟩,a.ext.drawn⟩ d5 (λk f=>g.2 k f) ⟨F,z,c,e,B,g.1,C⟩
def FK.ajr(O:hS P T)(Z:V=.mapUpdate t1 x y z\/V=.insert t1 x y z){p q c:CV}{k:CV->Tr di->Nat->At R}(hx:lE t x p)(hy:lE t y q)(hz:lE t z c)(U:(WQ T h t1 p q λj _ g E wr=>bB wr (ajq g E c λo=>Tr.put (.ma t1 o true) h j λe=>k (.v undef) e n) none)=some r):
 ∃c e v,FK P Dk w0 ⟨d,V,ty,pos,af,gd⟩ t h n c e v/\k c e v=some r:=by
 obtain⟨j,zv,g,E,wr,td,kt,et,i,W,p1,p2,p3,p4,p5,K,p7,p8,L⟩:=Pc (P:=P) (w0:=w0) O hx hy U;obtain⟨rfl,C⟩:=bj W;by_cases J:∀p∈g,mg td p.1
 .rw[abm p5 K J]at C
  obtain⟨e,D,_,I⟩:=Tr.oM C;refine⟨_,e,n,λρ a w u s=>?_,D⟩;obtain⟨b,m,M,N,F,G,H,A,B⟩:=L ρ a w n u s;obtain⟨a1,a2,a0,Y⟩:=KE.put (P:=P) B (λ_ _ h=>h) K p1 p2 (hz ρ a u) A;refine .skip ?_ ⟨ρ,s.WS p7 H p8 A Y I,.v⟩;rcases Z with rfl|rfl<;>simp[execOp,F,G,a0]
 .have Q:∀{c:CV} {e:Tr di} {v:Nat},FK P Dk w0 ⟨d,V,ty,pos,af,gd⟩ t h n c e v:=λρ a w u s=>by
   obtain⟨b,m,M,N,F,G,H,A,B⟩:=L ρ a w n u s;exact absurd B.keys J
  have:∀{g:Do (Id×CV)} {f:Do (Id×CV)->At R},ajq g E c f=some r->∃o,f o=some r:=by
   intro g
   induction g with
   |nil=>intro f l;exact⟨_,l⟩
   |cons p g ih=>
    intro f l;rcases dR l with⟨_,l⟩|⟨_,l⟩
    .exact⟨_,l⟩
    .obtain⟨o,S⟩:=ih l
     exact⟨_,S⟩
  obtain⟨o,D⟩:=this C;obtain⟨e,X,_,I⟩:=Tr.oM D;exact⟨_,e,n,Q,X⟩
def tP(a:Do (Id×CV))(x:Id):cn:=List.rec (motive:=λ_=>cn) none (λp _ b=>bB (Uv p.1 x) (some 0) (Option.rec (motive:=λ_=>cn) none (λi=>some (Nat.succ i)) b)) a
def M7{d:TypeDesc}(f:adZ d){x:Id}(j:mg d x):∀{es:Do (Id×CV)} {i:Nat},(∀p∈es,mg d p.1)->tP es x=some i->∃c,es[i]? =some (x,c)/\fM es x=some c
 |[],i,_,h=>by cases h
 |(k,c)::es,i,h,a=>by
  change bB (Uv k x) (some 0) (Option.rec (motive:=λ_=>cn) none (λi=>some (Nat.succ i)) (tP es x))=some i at a;have g:=Pb f (h _ (ayY)) j;by_cases e:k=x
  .rw[g.2 e]at a
   cases a;exact⟨c,by rw[e];rfl,by rw[fM,av3 e]⟩
  .have:Uv k x=false:=by
    cases q:Uv k x with
    |false=>rfl
    |true=>exact absurd (g.1 q) e
   rw[this]at a;cases b:tP es x with
   |none=>rw[b]at a;cases a
   |some s=>
    rw[b]at a;cases a;obtain⟨l,m,o⟩:=M7 f j (es:=es) (λp a=>h p (aw5 _ a)) b;exact⟨l,m,by rw[fM,av2 e];exact o⟩
def WT{o:Obj}(h:i.heap[A]? =some o):({i with heap:=i.heap.setIfInBounds A o}:GE)=i:=by
 have:i.heap.setIfInBounds A o=i.heap:=by
  apply Array.ext d5;intro a b c;rw[Array.getElem_setIfInBounds (by simpa using b)];split
  next e=>subst e;exact(awS.1 h).2.symm
  .rfl
 rw[this]
def FK.mapEntry(hT:hS P T){p q:CV}{k:CV->Tr di->Nat->At R}(hx:lE t x p)(hy:lE t y q)(hk:(WQ T h t1 p q λj z f g wr=>Option.rec (motive:=λ_=>At R)
 (bB wr (Tr.put (.ma t1 (f++[(g,cvK z)]) true) h j λG=>kN f.length λm=>k (.tu [cvK z,.v (.int .i64 (Int.ofNat m))]) G n) none)
 (λi=>oB (f[i]?) λe=>k (.tu [e.2,.v (.int .i64 (Int.ofNat i))]) h n) (tP f g))=some r):
 ∃c G n',FK P Dk w0 ⟨d,.mapEntry t1 x y,ty,pos,af,gd⟩ t h n c G n'/\k c G n'=some r:=by
 obtain⟨j,z,f,g,wr,td,kt,et,i,L,p1,p2,p3,p4,p5,B,p7,p8,p9⟩:=Pc (P:=P) (w0:=w0) hT hx hy hk;cases M:tP f g with
 |none=>
  rw[M]at L;obtain⟨rfl,V⟩:=bj L;obtain⟨G,a2,_,hh⟩:=Tr.oM V;rw[fY]at a2;refine⟨_,G,n,λρ a w X O=>?_,a2⟩;obtain⟨b,m,C,D,S,U,e3,s,o⟩:=p9 ρ a w n X O;rcases o.find (P:=P) B p2 with⟨E,A,F,I⟩|⟨u,Q,c,E,A,F,I,f5,J,_⟩
  .obtain⟨Y,Z,a5,a3⟩:=KE.put (P:=P) o (λ_ _ h=>h) B p1 p2 (Kd (ρ:=ρ) z) s
   rw[I]at a3;have ab:(Instr.mapUpdate t1 (.map (some b)) g z).run P w=.ok () {w with heap:=w.heap.setIfInBounds b (.map (C.push {key:=g,val:=z,born:=D}) (D+1))}:=by
    simp[Instr.mapUpdate,aww p1,aw_ s,p2.Qc _ _ _ B,E,axI _ s,Result.andThen]
   rw[ab]at a5;have hw:({w with heap:=w.heap.setIfInBounds b (.map (C.push {key:=g,val:=z,born:=D}) (D+1))}:GE)={w with heap:=w.heap.setIfInBounds b (.map Y Z)}:=by
    injection a5
   have ae:=ay8 (o':=.map Y Z) s;have l:=LR.cons (Kd (ρ:=ρ) z) (LR.cons (KR.v (ρ:=ρ) (x:=.int .i64 (Int.ofNat f.length))) LR.nil);refine .value (v:=.tuple #[z,.int .i64 (Int.ofNat f.length)]) ?_ ⟨ρ,O.WS p7 e3 p8 s a3 hh,.tu _ l.1 l.2⟩;rw[<-hw];have a7:D=f.length:=by rw[o.clk,o.len]
   simp[execOp,S,U,Instr.mapEntry,aww p1,aw_ s,p2.Qc _ _ _ B,E,axI _ s,zeroValue,typeInfo,p3,p4,goInt,a7]
  .exfalso
   have hl:=Kj p5 B o.keys;have:∀{f:Do (Id×CV)},tP f g=none->DB f g=none:=by
    intro f
    induction f with
    |nil=>intro _;rfl
    |cons p f ih=>
     intro H;change bB (Uv p.1 g) (some 0) (Option.rec (motive:=λ_=>cn) none (λi=>some (Nat.succ i)) (tP f g))=none at H;change bB (Uv p.1 g) (some p.2) (DB f g)=none;cases hb:Uv p.1 g with
     |true=>rw[hb]at H;cases H
     |false=>
      rw[hb]at H;cases N:tP f g with
      |none=>exact ih N
      |some i=>rw[N]at H;cases H
   rw[this M,I]at hl;cases hl
 |some q=>
  rw[M]at L;obtain⟨⟨ag,c⟩,K,V⟩:=bG L;refine⟨_,h,n,.pure λρ a w X O=>?_,V⟩;obtain⟨b,m,C,D,S,U,e3,s,o⟩:=p9 ρ a w n X O;obtain⟨c',g1,g2⟩:=M7 p5 B o.keys M;rw[K]at g1;cases g1;rcases o.find (P:=P) B p2 with⟨E,A,F,I⟩|⟨u,Q,c2,E,A,F,I,f5,J,_⟩
  .rw[F]at g2;cases g2
  .have N:u=q:=by
    have k1:=(o.key u _ Q J A).1;have W:q<C.size:=by rw[o.len];exact(av7.1 K).1
    have k2:=(o.key q _ _ K (awU W)).1;have ad:=((aAc C D).1 o.lG).2.2;have a4:=ay6.1 ad;have a0:=(awS.1 A).1;have a1:=(awS.1 A).2;rcases axH u q with a9|heq|a8
    .have:=a4 u q (by simpa using a0) (by simpa using W) a9
     simp only[ay7]at this;rw[a1,k1,k2]at this;exact absurd rfl this
    .exact heq
    .have:=a4 q u (by simpa using W) (by simpa using a0) a8
     simp only[ay7]at this;rw[a1,k1,k2]at this;exact absurd rfl this
   subst N;rw[K]at J;cases J;have l:=LR.cons f5 (LR.cons (KR.v (ρ:=ρ) (x:=.int .i64 (Int.ofNat u))) LR.nil);refine⟨.tuple #[Q.val,.int .i64 (Int.ofNat u)],?_,.tu _ l.1 l.2⟩;have a6:=o.UP _ _ A;have aa:(C.modify u λe=>{e with key:=g})=C:=by
    apply Array.ext d5;intro i h1 h2;rw[azq];split
    next e=>subst e;have:C[u]=Q:=(awS.1 A).2;rw[this,<-F]
    .rfl
   have ac:=WT s;simp[execOp,S,U,Instr.mapEntry,aww p1,aw_ s,p2.Qc _ _ _ B,E,A,F,p2.stay _ _ B,axI _ s,goInt,a6,aa,ac]
def FK.entryStore(S:hS P T){p q c:CV}{k:CV->Tr di->Nat->At R}(hx:lE t x p)(hy:lE t y q)(hz:lE t z c)(X:(oB (T t1).mp λ_=>mpK p λj=>yq q λi=>blM h j λt2 s wr=>bB wr (bB (beq t1 t2) (oB (s[i]?) λe=>Tr.put (.ma t1 (s.set i (e.1,c)) true) h j λo=>k (.v undef) o n) none) none)=some r):
 ∃c o N,FK P Dk w0 ⟨d,.entryStore t1 x y z,ty,pos,af,gd⟩ t h n c o N/\k c o N=some r:=by
 obtain⟨⟨td,zv⟩,H,Y⟩:=bG X;obtain⟨j,rfl,Z⟩:=WL Y;obtain⟨ki,i,rfl,a0⟩:=nM Z;obtain⟨t2,s,wr,G,a1⟩:=WM a0;obtain⟨rfl,a2⟩:=bj a1;obtain⟨e,a3⟩:=bj a2;obtain rfl:=eL e;obtain⟨⟨kv,c0⟩,C,a4⟩:=bG a3;obtain⟨o,a5,_,W⟩:=Tr.oM a4;have H:=S.mp _ _ H;refine⟨_,o,n,λρ a w E K=>?_,a5⟩;have L:=hx ρ a E;have M:=(hy ρ a E).bS;have a9:=hz ρ a E;generalize U:a.eval x=u at L;cases L with
 | @mp _ b m J=>
  obtain⟨Q,z',l,O,m1,F,g⟩:=K.ob _ _ _ _ G J;have v:i<l.size:=by rw[g.len];exact(av7.1 C).1
  have V:l.findIdx? (λe=>(e.born:Int)==(i:Int))=some i:=by
   rw[aAW];refine⟨v,?_,λq I=>?_⟩
   .rw[g.UP i _ (awU v)];simp
   .rw[g.UP q _ (awU bv)];simp;omega
  have a8:KE (KR ρ) Q (s.set i (kv,c)) (l.modify i λe=>{e with val:=a.eval z}) O:=by
   refine⟨by simp[g.len],λq x' B A f=>?_,λB f=>?_,aAd g.lG _ _ (λ_ _=>rfl) (λ_ _ _=>rfl),λq B f=>?_,by rw[g.clk];simp⟩
   .rw[axS]at f
    by_cases D:i=q
    .subst D
     rw[av3 rfl,awU v]at f;have a6:i<s.length:=(av7.1 C).1;simp[a6]at A f;subst A f;exact⟨(g.key i _ _ C (awU v)).1,a9⟩
    .rw[av2 D]at f
     rw[azr D]at A;exact g.key q x' B A f
   .obtain⟨q,I,rfl⟩:=awV f
    have aa:q<l.size:=by simpa using I
    rw[ay7,azq];split
    .exact g.isk l[q] d5
    .exact g.isk l[q] d5
   .rw[axS]at f
    split at f
    .obtain⟨m0,a7,rfl⟩:=awC.1 f
     exact g.UP q m0 a7
    .exact g.UP q B f
  refine .skip ?_ ⟨ρ,K.WS G J m1 F a8 W,.v⟩;simp only[azP]at M;simp[execOp,U,M,Instr.entryStore,aw_ F,asInt,asIntOf,V,axI _ F]
end
end
end
section
open Go Go.RowKit MapKept
abbrev KK(R:Type):=Tr CV->Tr di->Nat->At R
abbrev KO(R:Type):=Tr CV->Tr di->Nat->(CV->Tr di->Nat->At R)->At R
abbrev KC(R:Type):=FuncId->Do CV->Tr di->Nat->(CV->Tr di->Nat->At R)->At R
section
variable(T:EQ->bz){R:Type}
def Gg(x:If):KO R:=λt h n k=>er t x λc=>k c h n
def abn(z x y:If):KO R:=λt h n k=>er t z λa=>er t x λc=>er t y λd=>asB a λb=>bB b (k c h n) (k d h n)
def apC(c:EQ):KO R:=λ_ h n k=>oB (T c).ze λz=>bB (oN (z.map .v)) (DA h n (.ce (trL (z.map .v)) z.length none true) λa b=>k (.pt n 0) a b) none
def al6(d:EQ)(x:If):KO R:=λt h n k=>er t x λa=>xj a λl=>ajl h n l λi b c=>k (.pt i 0) b c
def Pd(d:EQ)(b:HL):KO R:=λt h n k=>oB (T d).pl λp=>lX t b.toList λc=>oB (hQ (λi=>p.2[i]?) (p.1.map .v) c) λa=>k (.ag a) h n
def pH(j:EQ)(a:Nat)(f:HL):KO R:=λt h n k=>oB (T j).el λe=>bB (ble (Nat.mul a e.2.1) 16777216) (lX t f.toList λg=>oB (hQ (λi=>some (i*e.2.1,e.2.1)) (List.replicate (Nat.mul a e.2.1) (.v undef)) g) λb=>ajl h n b λi c d=>k (.sl i 0 a (some a)) c d) none
def Uw(a:EQ)(x y z:If):KO R:=λt h n k=>er t x λp=>er t y λq=>er t z λc=>WQ T h a p q λj _ b f wr=>bB wr (ajq b f c λd=>Tr.put (.ma a d true) h j λe=>k (.v undef) e n) none
def abo(a:EQ)(x:If):KO R:=λt h n k=>er t x λp=>ajc T h a p λc=>k c h n
def Pe(b:EQ)(x y:If):KO R:=λt h n k=>er t x λp=>er t y λq=>oB (T b).ty λe=>ptA p λj o=>xj q λl=>bB (beq l.length e.2) (wrK h j o l λa=>k (.v undef) a n) none
def al7(x:If):KO R:=λt h n k=>er t x λc=>bB (nnK c) (k c h n) none
def al8(d:BinOp)(e:EQ)(x y:If):KO R:=λt h n k=>er t x λa=>er t y λb=>aji T d e (isC y) a b λc=>k c h n
def oUn(b:UnOp)(d:EQ)(x:If):KO R:=λt h n k=>er t x λa=>unK b a λc=>k c h n
def abp(c d:EQ)(x:If):KO R:=λt h n k=>er t x λa=>oB (T c).ik λ_=>oB (T d).ik λb=>asI a λ_ m=>wrI b m λz=>k (.v (.int b z)) h n
def abq(b:Fn)(c a:gV):KO R:=λt h n k=>tH t c.toList λd=>tH t a.toList λe=>k (.cl b d e) h n
def auL(a:EQ)(r:jO):KO R:=λ_ h n k=>bB r.isNone (oB (T a).mp λ_=>DA h n (.ma a [] true) λb c=>k (.mp n) b c) none
def abr(d:EQ)(x y:If):KO R:=λt h n k=>er t x λp=>er t y λq=>oB (T d).el λe=>yq p λm=>yq q λb=>bB (beq m b) (bB (ble (Nat.mul e.2.2.1 m) 140737488355328) (bB (ble m 1048576) (bB (blt 0 e.2.1) (bB (oN (e.2.2.2.map .v)) (DA h n (.ce (Kg e.2.2.2 m) (Nat.mul m e.2.1) none true) λa c=>k (.sl n 0 m (some m)) a c) none) none) none) none) none
def Pf(f:EQ)(x:If)(d b e:jO):KO R:=λt h n k=>er t x λa=>xk T t f a d b e λc=>k c h n
def oFA(a:EQ)(x:If)(f:Nat):KO R:=λt h n k=>er t x λp=>oB (T a).fd[f]? λq=>bB (beq q.2.2 0) none (ptK p q.1 λc=>k c h n)
def oF(b:EQ)(x:If)(f:Nat):KO R:=λt h n k=>er t x λp=>agK p λa=>oB (T b).fd[f]? λq=>bB (ble (Nat.add q.1 q.2.2) a.length) (bB q.2.1 (k (.ag ((a.drop q.1).take q.2.2)) h n) (oB (a[q.1]?) λc=>k c h n)) none
def oIA(a:EQ)(x y:If):KO R:=λt h n k=>er t x λp=>er t y λq=>yq q λi=>WJ T a p i λc=>k c h n
def oI(a:EQ)(x y:If):KO R:=λt h n k=>er t x λp=>er t y λq=>bB (T a).sg (yq q λi=>alV p λs=>oB (s.data.toList[i]?) λb=>kN b.toNat λm=>k (.v (.int .u8 (Int.ofNat m))) h n) none
def abt(e:EQ)(x y:If)(a:In):KO R:=λt h n k=>er t x λp=>er t y λq=>WQ T h e p q λj z b d wr=>Option.rec (motive:=λ_=>At R) (bB a (k (.tu [cvK z,.v (.bool false)]) h n) (k (cvK z) h n)) (λc=>bB a (k (.tu [c,.v (.bool true)]) h n) (k c h n)) (DB b d)
def Pg(c:EQ)(x y:If):KO R:=λt h n k=>er t x λp=>er t y λq=>WQ T h c p q λj z a b wr=>Option.rec (motive:=λ_=>At R)
 (bB wr (Tr.put (.ma c (a++[(b,cvK z)]) true) h j λd=>kN a.length λm=>k (.tu [cvK z,.v (.int .i64 (Int.ofNat m))]) d n) none)
 (λi=>oB (a[i]?) λe=>k (.tu [e.2,.v (.int .i64 (Int.ofNat i))]) h n) (tP a b)
def DC(a:EQ)(x y z:If):KO R:=λt h n k=>er t x λp=>er t y λq=>er t z λc=>oB (T a).mp λ_=>mpK p λj=>yq q λi=>blM h j λf b wr=>bB wr (bB (beq a f) (oB (b[i]?) λe=>Tr.put (.ma a (b.set i (e.1,c)) true) h j λd=>k (.v undef) d n) none) none
def oTA(a:EQ)(x:If)(b:In):KO R:=λt h n k=>er t x λc=>match c with
 |.v .nilIface=>bB b (oB (T a).fd[0]? λ_=>oB (T a).zv λz=>k (.tu [cvK z,.v (.bool false)]) h n) none
 |_=>none
def al9(x:If)(i:Nat):KO R:=λt h n k=>er t x λp=>tuK p λa=>oB (a[i]?) λc=>k c h n
def clK{R:Type}(c:CV)(k:FuncId->Do CV->Do CV->At R):At R:=match c with
 |.v (.func (.func f) ⟨[]⟩ ⟨[]⟩)=>k f [] []
 |.cl (.func f) b a=>k f b a
 |_=>none
def K4{R:Type}(t:Tr CV)(l:o_)(k:CV->At R):At R:=match l with
 |[x]=>er t x k
 |_=>none
def K5{R:Type}(t:Tr CV)(l:o_)(k:CV->CV->At R):At R:=match l with
 |[x,y]=>er t x λa=>er t y λb=>k a b
 |_=>none
def oO(b:Builtin)(d:o_)(f:Do EQ):KO R:=λt h n k=>match b with
 |.len=>K4 t d λc=>asA T h f c λc=>k c h n
 |.cap=>K4 t d λc=>asC T f c λc=>k c h n
 |.append=>(match f with
  |[g,i]=>K5 t d λa b=>abl T h n g i a b k
  |_=>none)
 |.min=>K5 t d λa c=>asI a λe m=>asI c λ_ q=>bB (ltK q m) (k (.v (.int e q)) h n) (k (.v (.int e m)) h n)
 |.max=>K5 t d λa c=>asI a λe m=>asI c λ_ q=>bB (ltK m q) (k (.v (.int e q)) h n) (k (.v (.int e m)) h n)
 |.clear=>(match f with
  |[g]=>K4 t d λc=>ajp T h n g c k
  |_=>none)
 |_=>none
def al_(call:KC R)(c:Callee)(a:o_)(d:Do EQ):KO R:=λt h n k=>match c with
 |.value x=>er t x λf=>tH t a λcs=>clK f λg e xs=>call g (e++cs++xs) h n k
 |.builtin b=>oO T b a d t h n k
 |_=>none
def asG(call:KC R)(c:Call):KO R:=al_ T call c.callee c.args.toList c.argTypes.toList
def Kk(ID:FuncId->In)(c:Call):KO R:=λt h n k=>bB c.args.isEmpty (match c.callee with
 |.value x=>er t x λf=>clK f λg a b=>bB (ID g) (bB a.isEmpty (k (.v undef) h n) none) none
 |_=>none) none
def oNo:KO R:=λ_ _ _ _=>none
def opK(ID:FuncId->In)(call:KC R)(o:Op):KO R:=Op.rec (motive:=λ_=>KO R) (Gg) (Gg) (abn) (apC T) (al6) (Pd T) (pH T) (Uw T) (abo T) (Pe T) (λ_=>oNo) (λ_=>oNo) (al7)
 (λb c x y _=>al8 T b c x y) (oUn) (abp T) (λ_ _=>oNo) (λ_ _=>oNo) (abq) (auL T) (λ_ _=>oNo) (abr T) (Pf T) (oFA T) (oF T) (oIA T) (oI T) (abt T) (Uw T) (Pg T) (DC T)
 (λ_ _=>oNo) (λ_ _=>oNo) (λ_=>oNo) (λx _ d a=>oTA T d x a) (al9) (asG T call) (λ_=>oNo) (Kk ID) (λ_=>oNo) (λ_ _=>oNo) (λ_ _ _=>oNo) (λ_ _=>oNo) o
def rP(a:bq)(j:Nat):jQ:=(a[j]?).bind (·.dst)
def apE(d:jQ)(c:CV)(t:Tr CV)(k:Tr CV->At R):At R:=Option.rec (motive:=λ_=>At R) (k t) (λi=>Tr.put c t i k) d
def M8(a:bq)(g:gg)(t:Tr CV)(y n:At R):At R:=Option.rec (motive:=λ_=>At R) y (λp=>oB (rP a p.1) λs=>oB (t.get s) λc=>match c with
 |.v (.bool b)=>bB (bB b p.2 (!p.2)) y n
 |.v (.tuple ⟨[]⟩)=>n
 |_=>none) g
variable(ID:FuncId->In)(call:KC R)
def abu(e:bq)(o:Oper)(k:KK R):KK R:=λt h n=>M8 e o.guard t (opK T ID call o.op t h n λc b d=>apE o.dst c t λa=>k a b d) (apE o.dst (.v undef) t λa=>k a h n)
def ad1(b l:bq):KK R->KK R:=List.rec (motive:=λ_=>KK R->KK R) (λk=>k) (λo _ a k=>abu T ID call b o (a k)) l
def fD:Op->Nat
 |.move _|.assign _|.pick .. |.alloc _|.box .. |.build .. |.buildSlice .. |.nilCheck _|.binOp .. |.unOp .. |.convert .. |.makeFunc .. |.makeMap .. |.makeSlice .. |.slice .. |.fieldAddr .. |.field .. |.indexAddr .. |.index .. |.extract .. =>0
 |.load .. |.lookup .. =>1
 |.call {callee:=.builtin .len,.. }=>1
 |.call {callee:=.builtin .cap,.. }=>0
 |.call {callee:=.builtin .min,.. }=>0
 |.call {callee:=.builtin .max,.. }=>0
 |_=>2
def tmpsOf(o:Oper):Do Tmp:=o.op.operands.toList.filterMap λ|.tmp t=>some t|_=>none
def qU(l:bq)(i j:Nat):In:=eF l j i||eF l i j
def Kl(l:bq):bu:=(List.range l.length).flatMap λi=>(List.range l.length).filterMap λj=>match l[i]?,l[j]? with
 |some o,some p=>if beq (fD o.op) 1 && beq (fD p.op) 2 && !qU l i j then some (i,j)else none
 |_,_=>none
def apF(l:bq):In:=
 let I:=List.range l.length
 P9 0 l && Fe l &&
 (I.all λj=>match l[j]? with
  |some o=>(tmpsOf o).all (λx=>I.all λi=>match l[i]? with
   |some p=> !(p.dst==some x)||beq i j||qU l i j
   |none=>true) && (match o.guard with|some g=>eF l j g.1 && !beq g.1 j|none=>true)
  |none=>true) &&
 (I.all λj=>I.all λi=>match l[i]?,l[j]? with
  |some o,some p=> !(beq (fD o.op) 2 && beq (fD p.op) 2)||beq i j||qU l i j
  |_,_=>true) &&
 ((Kl l).all λq=>match l[q.1]? with
  |some o=>(tmpsOf o).all (λx=>I.all λi=>match l[i]? with
   |some p=> !(p.dst==some x)||(eF l q.1 i && !beq i q.1)
   |none=>true)
  |none=>true)
def vEq(x y:Id):In:=match x,y with
 |.int j a,.int k c=>decide (j=k) && eqK a c
 |.bool a,.bool c=>a==c
 |.pointer none,.pointer none=>true
 |.slice none 0 0,.slice none 0 0=>true
 |.map none,.map none=>true
 |.nilFunc,.nilFunc=>true
 |.nilIface,.nilIface=>true
 |.func (.func f) ⟨[]⟩ ⟨[]⟩,.func (.func g) ⟨[]⟩ ⟨[]⟩=>beq f g
 |_,_=>false
def ajs(a b:CV):In:=match a,b with
 |.v x,.v y=>vEq x y
 |.pt i o,.pt j p=>beq i j && beq o p
 |.sl i o m c,.sl j p q d=>beq i j && beq o p && beq m q && decide (c=d)
 |.mp i,.mp j=>beq i j
 |_,_=>false
def WU:Do CV->Do CV->In
 |[],[]=>true
 |a::l,b::m=>ajs a b && WU l m
 |_,_=>false
def cEq(a b:CV):In:=match a,b with
 |.ag l,.ag m=>WU l m
 |.tu l,.tu m=>WU l m
 |.cl (.func f) l k,.cl (.func g) m j=>beq f g && WU l m && WU k j
 |a,b=>ajs a b
abbrev Acc:=Do (Nat×(Nat×Tr di)×(Nat×Tr di))
def ajt:Tr CV->Tr CV->In
 |.lf,.lf=>true
 |.nd l x r,.nd c e d=>ajt l c && (match x,e with
  |none,none=>true
  |some a,some b=>ajs a b
  |_,_=>false) && ajt r d
 |_,_=>false
def ama:At di->At di->In
 |some (.ce b m e w),some (.ce c f d a)=>ajt b c && beq m f && decide (e=d) && (w==a)
 |some (.ma t [] w),some (.ma g [] a)=>beq t g && (w==a)
 |_,_=>false
def aju(l:bq):bu:=(List.range l.length).flatMap λi=>(List.range l.length).filterMap λj=>match l[i]?,l[j]? with
 |some o,some p=>if beq (fD o.op) 0 && beq (fD p.op) 2 && blt i j && !eF l j i then some (i,j)else none
 |_,_=>none
def sameAt(b:bq)(o:Oper)(t:Tr CV)(n:Nat)(h:Tr di)(k:At R):At R:=M8 b o.guard t (oB o.dst λd=>oB (t.get d) λa=>opK T ID call o.op t h n λc _ _=>bB (cEq c a) k none) k
def asM(a:bq)(c:Acc)(t:Tr CV)(n:Nat)(f:bu)(k:At R):At R:=List.rec (motive:=λ_=>At R) k (λp _ d=>oB (a[p.1]?) λo=>List.rec (motive:=λ_=>At R) d (λe _ b=>bB (beq e.1 p.2) (sameAt T ID call a o t n e.2.1.2 (sameAt T ID call a o t n e.2.2.2 b)) b) c) f
def M9(n:Nat):CV->In
 |.v _=>true
 |.gl .. =>true
 |.pt k _=>blt k n
 |.sl k .. =>blt k n
 |.mp k=>blt k n
 |_=>false
def apG(n:Nat):CV->In
 |.ag l=>l.all (M9 n)
 |.tu l=>l.all (M9 n)
 |.cl _ l k=>l.all (M9 n) && k.all (M9 n)
 |c=>M9 n c
def auN(b:bq)(a:Acc)(t:Tr CV)(f:bu):In:=a.all λe=>ble e.2.1.1 e.2.2.1 && f.all λp=> !(beq e.1 p.1)||match rP b p.1 with
 |some d=>(match t.get d with
  |some c=>apG e.2.1.1 c
  |none=>false)
 |none=>true
def auO(a:Acc)(b:bu):In:=b.all λp=>a.all λe=> !(beq e.1 p.1)||beq e.2.1.1 e.2.2.1||a.all λf=> !(beq f.1 p.2)||ama (e.2.2.2.get e.2.1.1) (f.2.2.2.get e.2.1.1)
def asN(e l:bq):Nat->Acc->(Acc->KK R)->KK R:=List.rec (motive:=λ_=>Nat->Acc->(Acc->KK R)->KK R) (λ_ a k=>k a)
 (λo _ d i a k=>λt h n=>abu T ID call e o (λf b c=>d (Nat.succ i) ((i,(n,h),(c,b))::a) k f b c) t h n) l
def abv(a:bq)(k:KK R):KK R:=λt h n=>bB (apF a) (asN T ID call a a 0 [] (λb c e d=>bB (auO b (aju a) && auN a b c (Kl a)) (asM T ID call a b c d (Kl a) (k c e d)) none) t h n) none
def ajv(N:Nat)(b:KK R->(Nat->KK R)->KK R->KK R)(d:Nat->KK R)(c:KK R):KK R:=Nat.rec (motive:=λ_=>KK R) (λ_ _ _=>none) (λ_ a=>b a d c) N
def Ux(N:Nat)(c:Code):KK R->(Nat->KK R)->KK R->KK R:=Code.rec (motive:=λ_=>KK R->(Nat->KK R)->KK R->KK R)
 (λa _ _=>a)
 (λ_ g j a _ _=>bB j (abv T ID call g.toList a) (ad1 T ID call g.toList g.toList a))
 (λ_ _ f e a d b=>f (e a d b) d b)
 (λc _ _ f e a d b=>λt h n=>er t c λv=>asB v λx=>bB x (f a d b t h n) (e a d b t h n))
 (λid _ e a d b=>e a (λi=>bB (beq i id) a (d i)) b)
 (λ_ e _ d b=>ajv N e d b)
 (λ_ _ _ _ _ _ _ _ _=>λ_ _ _=>none)
 (λid _ d _=>d id)
 (λ_ e=>e)
 (λ_ a _ _=>a)
 (λ_ _ _ _=>λ_ _ _=>none)
 (λ_ _ b=>b)
 (λ_ _ _ _=>λ_ _ _=>none) c
end
def asP{R:Type}(l:Do CV):Nat->Tr CV->(Tr CV->At R)->At R:=List.rec (motive:=λ_=>Nat->Tr CV->(Tr CV->At R)->At R) (λ_ t k=>k t) (λc _ a i t k=>Tr.put c t i λb=>a (Nat.succ i) b k) l
def apH{R:Type}(T:EQ->bz)(h:Tr di)(t:Tr CV)(e:Do ResultVar):(Do CV->At R)->At R:=List.rec (motive:=λ_=>(Do CV->At R)->At R) (λk=>k [])
 (λv _ d k=>ResultVar.rec (motive:=λ_=>At R) (λi=>oB (t.get i) λc=>d λb=>k (c::b)) (λa f=>oB (t.get a) λp=>ajc T h f p λc=>d λb=>k (c::b)) v) e
def ad2:Do CV->CV
 |[c]=>c
 |a=>.tu a
def atL(l:Do a):Nat->At a:=List.rec (motive:=λ_=>Nat->At a) (λ_=>none) (λx _ b i=>Nat.rec (motive:=λ_=>At a) (some x) (λj _=>b j) i) l
abbrev WW(R α:Type):=α->Tr di->Nat->Tr Nat->Tr Nat->At R
def snL{R:Type}(f:CV->Tr di->Nat->Tr Nat->Tr Nat->WW R CV->At R)(l:Do CV):Tr di->Nat->Tr Nat->Tr Nat->WW R (Do CV)->At R:=
 List.rec (motive:=λ_=>Tr di->Nat->Tr Nat->Tr Nat->WW R (Do CV)->At R) (λd n m b k=>k [] d n m b) (λc _ e d n m b k=>f c d n m b λa d n m b=>e d n m b λl d n m b=>k (a::l) d n m b) l
def snT{R:Type}(f:CV->Tr di->Nat->Tr Nat->Tr Nat->WW R CV->At R)(l:Tr CV):Tr di->Nat->Tr Nat->Tr Nat->WW R (Tr CV)->At R:=
 Tr.rec (motive:=λ_=>Tr di->Nat->Tr Nat->Tr Nat->WW R (Tr CV)->At R) (λd n m b k=>k .lf d n m b)
  (λ_ x _ i e d n m b k=>i d n m b λg d n m b=>Option.rec (motive:=λ_=>At R) (e d n m b λa d n m b=>k (.nd g none a) d n m b) (λc=>f c d n m b λh d n m b=>e d n m b λa d n m b=>k (.nd g (some h) a) d n m b) x) l
def amb{R:Type}(q:Tr di)(l:In)(f:CV->Tr di->Nat->Tr Nat->Tr Nat->WW R CV->At R)(j:Nat):Tr di->Nat->Tr Nat->Tr Nat->WW R Nat->At R:=λd n m b k=>
 Option.rec (motive:=λ_=>At R) (blC q j λc N e wr=>snT f c d n m b λg d n m b=>bB (m.get j).isNone (Tr.new (some (.ce g N e (bB l false wr))) 64 d n λh=>Tr.new (some n) 64 m j λo=>Tr.new (some j) 64 b n λa=>kN (Nat.succ n) λp=>k n h p o a) none) (λi=>k i d n m b) (m.get j)
def snC{R:Type}(l:Tr di)(h:In)(N:Nat):CV->Tr di->Nat->Tr Nat->Tr Nat->WW R CV->At R:=Nat.rec (motive:=λ_=>CV->Tr di->Nat->Tr Nat->Tr Nat->WW R CV->At R) (λ_ _ _ _ _ _=>none)
 (λ_ a c d n m b k=>match c with
  |.v (.int t z)=>kI z λz=>k (.v (.int t z)) d n m b
  |.v x=>k (.v x) d n m b
  |.gl g o=>k (.gl g o) d n m b
  |.pt j o=>amb l h a j d n m b λi d n m b=>kN o λo=>k (.pt i o) d n m b
  |.sl j o q c=>amb l h a j d n m b λi d n m b=>kN o λo=>kN q λq=>Option.rec (motive:=λ_=>At R) (k (.sl i o q none) d n m b) (λc=>kN c λc=>k (.sl i o q (some c)) d n m b) c
  |.ag e=>snL a e d n m b λf d n m b=>k (.ag f) d n m b
  |.tu e=>snL a e d n m b λf d n m b=>k (.tu f) d n m b
  |.cl p r e=>snL a r d n m b λs d n m b=>snL a e d n m b λf d n m b=>k (.cl p s f) d n m b
  |.mp _=>none) N
structure Uy where
 fs:List Func
 may:Nat
 pic:Nat
 idle:Nat
abbrev Mem:=FuncId->Do CV->Tr di->Nat->At (CV×Tr di×Nat)
def Uz{R:Type}(T:EQ->bz)(E:Uy)(N:Nat)(call:KC R):KC R:=λf e h n k=>bB (Nat.testBit E.may f) (oB (atL E.fs f) λa=>oB a.body λc=>asP e 0 (Tr.fill (.v undef) 64 a.ntmps) λt=>
 let b:KK R:=λj d g=>apH T d j a.results.toList λi=>k (ad2 i) d g
 Ux T (λf=>Nat.testBit E.idle f) call N c b (λ_ _ _ _=>none) b t h n) none
def apI{R:Type}(M:Mem)(call:KC (CV×Tr di×Nat)):KC R:=λf g h n k=>snL (snC h true 64) g .lf 0 .lf .lf λc d m i e=>oB (Option.rec (motive:=λ_=>At (CV×Tr di×Nat)) (call f c d m λr a b=>some (r,a,b)) (λx=>some x) (M f c d m)) λp=>snC p.2.1 false 64 p.1 h n e .lf λr a b _ _=>k r a b
def im(T:EQ->bz)(E:Uy)(M:Mem)(N:Nat):{R:Type}->KC R:=Nat.rec (motive:=λ_=>{R:Type}->KC R) (λ_ _ _ _ _=>none)
 (λN b {R} f a h n k=>bB (Nat.testBit E.pic f) (apI M (Uz T E N b) f a h n k) (Uz T E N b f a h n k)) N
end
variable{X:gV}
section
open Go Go.RowKit MapKept
section
variable{P:Fd}{Dk:Deferred->Prop}{w0:GE}{T:EQ->bz}
def FC(P:Fd)(w0:GE)(f:FuncId)(g:Do CV)(h:Tr di)(n:Nat)(c:CV)(i:Tr di)(j:Nat):Prop:=
 Enters P f/\∀ρ w a,HR P w0 ρ h.get n w->LR (KR ρ) g a->Calls P f a.toArray w λe l=>∃v b,e=.returned v/\KP P w0 ρ h.get n w b i.get j l/\KR b c v
def h_(P:Fd)(w0:GE){R:Type}(call:KC R):Prop:=∀f a h n k r,call f a h n k=some r->∃c b e,FC P w0 f a h n c b e/\k c b e=some r
def ln(Dk:Deferred->Prop)(ID:FuncId->In):Prop:=∀f,ID f=true->∀a,Dk {target:=.fn (.func f) a,args:= #[]}
section
variable{t:Tr CV}{h:Tr di}{n:Nat}{d:jQ}{ty t1 t2:EQ}{pos:String}{af:dY}{gd:gg}{x y z:If}{R:Type}{r:R}
def ad3{x:If}{f:FuncId}{args:gV}{a xs:bI}(h:Enters P f)(c:C.eval x=.func (.func f) a.toArray xs.toArray):
 (execOp C.eval ⟨d,.call ⟨.value x,args,H⟩,ty,pos,af,gd⟩).run P i=.ok (.enter f (a++args.toList.map C.eval++xs).toArray) i:=by
 have:=hX h (a.toArray++args.map C.eval++xs.toArray) i;have b:(a++args.toList.map C.eval++xs).toArray=a.toArray++args.map C.eval++xs.toArray:=by
  rw[<-azk];simp
 rw[b];simpa[execOp,resolve,c,Deferred.ofValue,invoke]using this
def ajw{k:FuncId->Do CV->Do CV->At R}(a:clK e k=some r):∃f c g,(∀ρ v,KR ρ e v->∃u y,v=.func (.func f) u.toArray y.toArray/\LR (KR ρ) c u/\LR (KR ρ) g y)/\k f c g=some r:=by
 unfold clK at a;split at a
 .refine⟨_,[],[],λρ v b=>⟨[],[],?_,LR.nil,LR.nil⟩,a⟩
  rw[b.bS]
 .refine⟨_,_,_,λρ v b=>?_,a⟩
  cases b with
  |cl u y l m i j=>exact⟨u,y,rfl,⟨l,i⟩,⟨m,j⟩⟩
 .cases a
def FK.asQ{call:KC R}(p:h_ P w0 call){k:CV->Tr di->Nat->At R}(C:(er t x λf=>tH t X.toList λcs=>clK f λg m xs=>call g (m++cs++xs) h n k)=some r):
 ∃c b i,FK P Dk w0 ⟨d,.call ⟨.value x,X,H⟩,ty,pos,af,gd⟩ t h n c b i/\k c b i=some r:=by
 obtain⟨U,A,D⟩:=cD C;obtain⟨cs,s,E⟩:=HI D;obtain⟨f,m,xs,q,F⟩:=ajw E;obtain⟨c,b,i,⟨j,B⟩,G⟩:=p _ _ _ _ _ _ F;refine⟨c,b,i,λρ a w l K next Q J=>?_,G⟩;obtain⟨u,y,e,M,N⟩:=q ρ _ (A ρ a l);unfold Oper.wp;rw[ad3 j e];exact(B ρ w _ K ((M.append (s ρ a l)).append N)).mono λe O ⟨v,S,j,I,L⟩=>by
  subst j;exact J v O [] ⟨S,I,L⟩ d5
def FK.apJ{ID:FuncId->In}(l:ln Dk ID){c:Call}{k:CV->Tr di->Nat->At R}(B:Kk ID c t h n k=some r):∃v b i,FK P Dk w0 ⟨d,.defer c,ty,pos,af,gd⟩ t h n v b i/\k v b i=some r:=by
 obtain⟨j,args,N⟩:=c;obtain⟨m,g⟩:=bj B;cases j with
 |value x=>
  obtain⟨O,A,C⟩:=cD g;obtain⟨f,U,V,q,D⟩:=ajw C;obtain⟨hid,E⟩:=bj D;obtain⟨L,F⟩:=bj E;refine⟨_,h,n,λρ a w J I next Q G=>?_,F⟩;obtain⟨u,y,e,M,S⟩:=q ρ _ (A ρ a J);have K:u=[]:=aw6 (by rw[M.1];simpa using L);subst K;have p:args= #[]:=by simpa using m
  subst p;have H:(execOp a.eval ⟨d,.defer ⟨.value x, #[],N⟩,ty,pos,af,gd⟩).run P w=.ok (.defer {target:=.fn (.func f) y.toArray,args:= #[]}) w:=by
   simp[execOp,resolve,e,Deferred.ofValue]
  unfold Oper.wp;rw[H];exact G undef w [_] ⟨ρ,.refl I,.v⟩ (λd s=>by rw[awq.1 s];exact l f hid _)
 |_=>cases g
def Ph{l:o_}{k:CV->At R}(a:K4 t l k=some r):∃x c,l=[x]/\lE t x c/\k c=some r:=by
 unfold K4 at a;split at a
 .obtain⟨c,b,e⟩:=cD a
  exact⟨_,c,rfl,b,e⟩
 .cases a
def Pj{l:o_}{k:CV->CV->At R}(b:K5 t l k=some r):∃x y a c,l=[x,y]/\lE t x a/\lE t y c/\k a c=some r:=by
 unfold K5 at b;split at b
 .obtain⟨a,e,g⟩:=cD b
  obtain⟨c,f,i⟩:=cD g;exact⟨_,_,a,c,rfl,e,f,i⟩
 .cases b
def amc{b:Array a}{x:a}(h:b.toList=[x]):b= #[x]:=by rw[<-azk];exact h
def amd{b:Array a}{x y:a}(h:b.toList=[x,y]):b= #[x,y]:=by rw[<-azk];exact h
def kQ(P:Fd)(Dk:Deferred->Prop)(w0:GE)(o:Oper)(t:Tr CV)(h:Tr di)(n:Nat)(c:CV)(a:Tr di)(b:Nat):Prop:=match fD o.op with
 |0=>∃f e,c=f n/\b=Dz n e/\(∀j,a.get j=yp h.get n e j)/\ZK P Dk w0 o t f e
 |1=>a=h/\b=n/\PK P w0 o t h c
 |_=>FK P Dk w0 o t h n c a b
def kQ.fk{o:Oper}{c:CV}{f:Tr di}{g:Nat}(b:kQ P Dk w0 o t h n c f g):FK P Dk w0 o t h n c f g:=by
 unfold kQ at b;split at b
 .obtain⟨u,s,rfl,rfl,i,q⟩:=b
  intro ρ a w p m;have:=q ρ a w h.get n p m;have e:yp h.get n s=f.get:=funext λj=>(i j).symm;rw[e]at this;exact this
 .obtain⟨rfl,rfl,l⟩:=b
  exact l.fk
 .exact b
section
variable{o:Oper}{k:CV->Tr di->Nat->At R}
def kQ.q(i:fD o.op=0)(e:∃c,QK P o t c/\k c h n=some r):∃c a b,kQ P Dk w0 o t h n c a b/\k c a b=some r:=by
 obtain⟨c,f,g⟩:=e;refine⟨c,h,n,?_,g⟩;unfold kQ;rw[i];exact⟨λ_=>c,none,rfl,rfl,λ_=>rfl,f.z⟩
def kQ.p(i:fD o.op=1)(e:∃c,PK P w0 o t h c/\k c h n=some r):∃c a b,kQ P Dk w0 o t h n c a b/\k c a b=some r:=by
 obtain⟨c,f,g⟩:=e;refine⟨c,h,n,?_,g⟩;unfold kQ;rw[i];exact⟨rfl,rfl,f⟩
def kQ.zz(p:fD o.op=0)(g:∃e b a,ZK P Dk w0 o t e b/\(∀j,a.get j=yp h.get n b j)/\k (e n) a (Dz n b)=some r):∃c a f,kQ P Dk w0 o t h n c a f/\k c a f=some r:=by
 obtain⟨e,b,a,i,l,m⟩:=g;refine⟨_,a,_,?_,m⟩;unfold kQ;rw[p];exact⟨e,b,rfl,rfl,l,i⟩
def kQ.f(i:fD o.op=2)(e:∃c a b,FK P Dk w0 o t h n c a b/\k c a b=some r):∃c a b,kQ P Dk w0 o t h n c a b/\k c a b=some r:=by
 obtain⟨c,a,b,f,g⟩:=e;refine⟨c,a,b,?_,g⟩;unfold kQ;rw[i];exact f
end
def kQ.builtin(m:hS P T){b:Builtin}{k:CV->Tr di->Nat->At R}(g:oO T b X.toList H.toList t h n k=some r):∃c p q,kQ P Dk w0 ⟨d,.call ⟨.builtin b,X,H⟩,ty,pos,af,gd⟩ t h n c p q/\k c p q=some r:=by
 cases b with
 |len=>
  obtain⟨x,c,e,i,j⟩:=Ph g;obtain rfl:=amc e;exact kQ.p rfl (FK.len (f:=λc=>k c h n) m i j)
 |cap=>
  obtain⟨x,c,e,i,j⟩:=Ph g;obtain rfl:=amc e;exact kQ.q rfl (FK.cap (f:=λc=>k c h n) m i j)
 |append=>
  unfold oO at g;simp only at g;split at g
  next e0=>obtain⟨x,y,a,c,e,l,i,j⟩:=Pj g;obtain rfl:=amd e;obtain rfl:=amd e0;exact kQ.f rfl (FK.append m l i j)
  .cases g
 |min=>
  obtain⟨x,y,a,c,e,l,i,j⟩:=Pj g;obtain rfl:=amd e;exact kQ.q rfl (FK.ajj (b:=.min) (ts:=H) (f:=λc=>k c h n) l i j)
 |max=>
  obtain⟨x,y,a,c,e,l,i,j⟩:=Pj g;obtain rfl:=amd e;exact kQ.q rfl (FK.ajj (b:=.max) (ts:=H) (f:=λc=>k c h n) l i j)
 |clear=>
  unfold oO at g;simp only at g;split at g
  next e0=>obtain⟨x,c,e,i,j⟩:=Ph g;obtain rfl:=amc e;obtain rfl:=amc e0;exact kQ.f rfl (FK.clear m i j)
  .cases g
 |_=>cases g
variable{ID:FuncId->In}{call:KC R}
def ajx(v:hS P T)(S:∀b o u,GT b o u->w0.cell? ⟨b,o,none⟩=some u)(U:ln Dk ID)(E:h_ P w0 call){o:Op}{k:CV->Tr di->Nat->At R}(m:opK T ID call o t h n k=some r):
 ∃c M O,kQ P Dk w0 ⟨d,o,ty,pos,af,gd⟩ t h n c M O/\k c M O=some r:=by
 cases o with
 |move x=>
  obtain⟨c,K,g⟩:=cD m;exact kQ.q rfl ⟨c,FK.ev (.inl rfl) K,g⟩
 |assign x=>
  obtain⟨c,K,g⟩:=cD m;exact kQ.q rfl ⟨c,FK.ev (.inr rfl) K,g⟩
 |pick z x y=>
  obtain⟨A,l,g⟩:=cD m;obtain⟨B,s,p⟩:=cD g;obtain⟨I,D,C⟩:=cD p;exact kQ.q rfl (FK.pick (k:=λc=>k c h n) l s D C)
 |alloc t1=>exact kQ.zz rfl (FK.alloc v m)
 |box t1 x=>
  obtain⟨A,l,g⟩:=cD m;exact kQ.zz rfl (FK.box l g)
 |build t1 a0=>exact kQ.q rfl (FK.build (k:=λc=>k c h n) v m)
 |buildSlice t1 a2 a0=>exact kQ.zz rfl (FK.buildSlice v m)
 |insert t1 x y z=>
  obtain⟨A,l,g⟩:=cD m;obtain⟨B,s,p⟩:=cD g;obtain⟨I,D,C⟩:=cD p;exact kQ.f rfl (FK.ajr v (.inr rfl) l s D C)
 |load t1 x=>
  obtain⟨A,l,g⟩:=cD m;exact kQ.p rfl (FK.load (k:=λc=>k c h n) v S l g)
 |store t1 x y=>
  obtain⟨A,l,g⟩:=cD m;obtain⟨B,s,p⟩:=cD g;exact kQ.f rfl (FK.store v l s p)
 |nilCheck x=>
  obtain⟨A,l,g⟩:=cD m;obtain⟨s,p⟩:=bj g;exact kQ.q rfl ⟨A,FK.nilCheck l s,p⟩
 |binOp op t1 x y t2=>
  obtain⟨A,l,g⟩:=cD m;obtain⟨B,s,p⟩:=cD g;exact kQ.q rfl (FK.aji (f:=λc=>k c h n) v l s p)
 |unOp op t1 x=>
  obtain⟨A,l,g⟩:=cD m;exact kQ.q rfl (FK.un (f:=λc=>k c h n) l g)
 |convert t1 t2 x=>
  obtain⟨A,l,g⟩:=cD m;exact kQ.q rfl (FK.conv (f:=λc=>k c h n) v l g)
 |makeFunc fn F cs=>exact kQ.q rfl (FK.makeFunc (k:=λc=>k c h n) m)
 |makeMap t1 r0=>
  obtain⟨l,g⟩:=bj m;cases r0 with
  |none=>exact kQ.zz rfl (FK.makeMap v g)
  |some _=>cases l
 |makeSlice t1 x y=>
  obtain⟨A,l,g⟩:=cD m;obtain⟨B,s,p⟩:=cD g;exact kQ.zz rfl (FK.makeSlice v l s p)
 |slice t1 x lo N mx=>
  obtain⟨A,l,g⟩:=cD m;exact kQ.q rfl (FK.slice (k:=λc=>k c h n) v l g)
 |fieldAddr t1 x f=>
  obtain⟨A,l,g⟩:=cD m;exact kQ.q rfl (FK.fieldAddr (k:=λc=>k c h n) v l g)
 |field t1 x f=>
  obtain⟨A,l,g⟩:=cD m;exact kQ.q rfl (FK.field (k:=λc=>k c h n) v l g)
 |indexAddr t1 x y=>
  obtain⟨A,l,g⟩:=cD m;obtain⟨B,s,p⟩:=cD g;exact kQ.q rfl (FK.indexAddr (k:=λc=>k c h n) v l s p)
 |index t1 x y=>
  obtain⟨A,l,g⟩:=cD m;obtain⟨B,s,p⟩:=cD g;exact kQ.q rfl (FK.Ic (k:=λc=>k c h n) v l s p)
 |lookup t1 x y Z=>
  obtain⟨A,l,g⟩:=cD m;obtain⟨B,s,p⟩:=cD g;exact kQ.p rfl (FK.lookup (k:=λc=>k c h n) v l s p)
 |mapUpdate t1 x y z=>
  obtain⟨A,l,g⟩:=cD m;obtain⟨B,s,p⟩:=cD g;obtain⟨I,D,C⟩:=cD p;exact kQ.f rfl (FK.ajr v (.inl rfl) l s D C)
 |mapEntry t1 x y=>
  obtain⟨A,l,g⟩:=cD m;obtain⟨B,s,p⟩:=cD g;exact kQ.f rfl (FK.mapEntry v l s p)
 |entryStore t1 x y z=>
  obtain⟨A,l,g⟩:=cD m;obtain⟨B,s,p⟩:=cD g;obtain⟨I,D,C⟩:=cD p;exact kQ.f rfl (FK.entryStore v l s D C)
 |typeAssert x t1 t2 Z=>
  obtain⟨A,l,g⟩:=cD m;split at g
  .obtain⟨V,p⟩:=bj g
   subst V;obtain⟨q,W,p⟩:=bG p;have J:∃F,P.underlying t2=some (.struct F):=by
    have G:=v.fd _ _ _ W;unfold fdA at G;split at G
    next F l=>exact⟨F,l⟩
    .cases G
   obtain⟨F,J⟩:=J;obtain⟨z,L,C⟩:=bG p;have L:=v.zv _ _ L;refine kQ.f rfl ⟨_,h,n,FK.pure λρ a w G hs=>?_,C⟩;obtain⟨i,N,Y⟩:=ayp.1 L;have X:∀w,(zeroValue t2).run P w=.ok z w:=λw=>by simp[zeroValue,typeInfo,N,Y]
   refine⟨.tuple #[z,.bool false],?_,?_⟩
   .have e:=(l ρ a G).bS
    simp[execOp,e,Instr.typeAssert,aww J,X]
   .exact .tu [z,.bool false] rfl λj c u E H=>by
     match j with
     |0=>simp at E H;subst E;subst H;exact Kd z
     |1=>simp at E H;subst E;subst H;exact .v
     |j+2=>simp at E
  .cases g
 |extract x i=>
  obtain⟨A,l,g⟩:=cD m;exact kQ.q rfl (FK.extract (k:=λc=>k c h n) l g)
 |call c=>
  obtain⟨Q,a1,ts⟩:=c;cases Q with
  |value x=>exact kQ.f rfl (FK.asQ E m)
  |builtin b=>exact kQ.builtin v m
  |invoke _ _=>cases m
 |defer c=>exact kQ.f rfl (FK.apJ U m)
 |_=>cases m
end
end
end
variable{y:Nm}{S:EQ}
section
open Go Go.RowKit MapKept
section
variable{P:Fd}{Dk:Deferred->Prop}{w0:GE}{T:EQ->bz}
def Df(Dk:Deferred->Prop)(a b:Act):Prop:=∃D,(∀d∈D,Dk d)/\b.defers=D++a.defers
def Df.refl(a:Act):Df Dk a a:=⟨[],d5,rfl⟩
def Df.trans{a b c:Act}(h:Df Dk a b)(k:Df Dk b c):Df Dk a c:=by
 obtain⟨D,f,g⟩:=h;obtain⟨e,j,l⟩:=k;exact⟨e++D,λd i=>(awc.1 i).elim (j d) (f d),by rw[l,g,awx]⟩
section
variable{t t':Tr CV}{h h':Tr di}{n n':Nat}{R:Type}{r:R}
def GC(d:jQ)(c:CV)(t t':Tr CV):Prop:=(d=none->t'=t)/\∀i,d=some i->(∃x,t.get i=some x)/\rO (some c) i t t'
def abw{d:jQ}{k:Tr CV->At R}(b:apE d e t k=some r):∃t',GC d e t t'/\k t'=some r:=by
 cases d with
 |none=>exact⟨t,⟨λ_=>rfl,λi a=>(by cases a)⟩,b⟩
 |some i=>
  obtain⟨t',c,f,g⟩:=Tr.oM b;exact⟨t',⟨λa=>(by cases a),λj a=>(by cases a;exact⟨f,g⟩)⟩,c⟩
def GC.tr{d:jQ}(g:GC d e t t')(f:o8 y t C)(v:KR y e j){D:AJ}:o8 y t' (({C with defers:=D}:Act).put d j):=by
 cases d with
 |none=>rw[g.1 rfl];exact f
 |some i=>
  obtain⟨⟨x,w⟩,p⟩:=g.2 i rfl;obtain⟨u,s,_⟩:=f i x w;have q:=(awS.1 s).1;intro b k c;rw[p b]at c;by_cases a:b=i
  .subst a
   rw[av3 rfl]at c;cases c;exact⟨j,by simp[Act.put,q],v⟩
  .rw[av2 a]at c
   obtain⟨z,m,o⟩:=f b k c;exact⟨z,by simp only[Act.put];rw[azj (λl=>a l.symm)];exact m,o⟩
def ajy:Id->At In
 |.bool b=>some b
 |_=>none
def WX{a:yy}(b:(a[d]?).bind (·.dst)=some A)(h:L[A]? =some j):yielded a L d=ajy j:=by
 unfold yielded;rw[b,aAk,h];cases j<;>rfl
def Gh(c:bq)(g:gg)(t:Tr CV)(b:In):Prop:=∀ρ a,o8 ρ t a->∀o:Oper,o.guard=g->Region.wanted o (yielded c.toArray a.tmps)=b
def UA{i:bq}{g:gg}{y z:At R}(w:M8 i g t y z=some r):(y=some r/\Gh i g t true)\/(z=some r/\Gh i g t false):=by
 cases g with
 |none=>exact .inl ⟨w,λρ a f o d=>by simp[Region.wanted,d]⟩
 |some p=>
  obtain⟨j,l⟩:=p;obtain⟨s,F,E⟩:=bG w;obtain⟨c,C,k⟩:=bG E;have q:∀{v:Id},c=.v v->∀ρ a,o8 ρ t a->∀o:Oper,o.guard=some (j,l)->Region.wanted o (yielded i.toArray a.tmps)=(ajy v==some l):=λ{v} e ρ a f o d=>by
   subst e;obtain⟨u,A,B⟩:=f s _ C;obtain rfl:=B.bS;have D:((i.toArray)[j]?).bind (·.dst)=some s:=by simpa[rP]using F
   simp only[Region.wanted,d,WX D A]
  split at k
  next b=>
   rcases dR k with⟨e,m⟩|⟨e,m⟩
   .refine .inl ⟨m,λρ a f o d=>?_⟩
    rw[q rfl ρ a f o d];cases b<;>cases l<;>first|rfl|(cases e)
   .refine .inr ⟨m,λρ a f o d=>?_⟩
    rw[q rfl ρ a f o d];cases b<;>cases l<;>first|rfl|(cases e)
  .exact .inr ⟨k,λρ a f o d=>by rw[q rfl ρ a f o d];rfl⟩
  .cases k
def Tr.res{α:Type}:Tr α->(Nat->In)->Tr α
 |.lf,_=>.lf
 |.nd l x a,p=>.nd (Tr.res l λi=>p (2*i+1)) (if p 0 then x else none) (Tr.res a λi=>p (2*i+2))
def Tr.pI{α:Type}:∀(t:Tr α) (p:Nat->In) (i:Nat),(t.res p).get i=if p i then t.get i else none
 |.lf,p,i=>by simp[Tr.res,Tr.WH]
 |.nd l x c,p,i=>by
  rw[Tr.res,Tr.jM,Tr.jM];by_cases b:i=0
  .subst b;simp
  .rw[av2 b,av2 b]
   by_cases a:i % 2=1
   .rw[av3 a,av3 a,Tr.pI l,show 2*(i/2)+1=i by omega]
   .rw[av2 a,av2 a,Tr.pI c,show 2*(i/2 - 1)+2=i by omega]
def GD(t t':Tr CV)(x:If):Prop:=∀i,x=.tmp i->t.get i=t'.get i
section
variable{x:If}{xs:o_}
def bA(h:GD t t' x)(k:CV->At R):er t x k=er t' x k:=by
 cases x with
 |tmp i=>show oB (t.get i) k=oB (t'.get i) k;rw[h i rfl]
 |_=>rfl
def yi:∀{xs:o_} (h:∀x∈xs,GD t t' x) (k:Do CV->At R),tH t xs k=tH t' xs k
 |[],_,k=>rfl
 |x::xs,h,k=>by
  show er t x (λc=>tH t xs λa=>k (c::a))=er t' x (λc=>tH t' xs λa=>k (c::a));rw[bA (h x d5)];congr 1;funext c;exact yi (λy b=>h y (by simp[b])) _
def xl:∀{a:AH} (h:∀p∈a,GD t t' p.2) (k:Do (Nat×Do CV)->At R),lX t a k=lX t' a k
 |[],_,k=>rfl
 |(i,x)::a,h,k=>by
  show er t x (λc=>xj c λl=>lX t a λb=>k ((i,l)::b))=er t' x (λc=>xj c λl=>lX t' a λb=>k ((i,l)::b));rw[bA (h (i,x) d5)];congr 1;funext c;congr 1;funext l;exact xl (λy d=>h y (by simp[d])) _
def ET(h:∀x∈Y.toList,GD t t' x)(d:Nat)(k:Nat->At R):yr t Y d k=yr t' Y d k:=by
 cases Y with
 |none=>rfl
 |some x=>exact bA (h x d5) _
def UB{T:EQ->bz}{c b a:jO}(o:∀x∈c.toList,GD t t' x)(p:∀x∈b.toList,GD t t' x)(g:∀x∈a.toList,GD t t' x)(k:CV->At R):xk T t S e c b a k=xk T t' S e c b a k:=by
 have i:∀(d:Nat) (k:Nat->At R),yr t c d k=yr t' c d k:=ET o;have j:∀(d:Nat) (k:Nat->At R),yr t b d k=yr t' b d k:=ET p;have l:∀(d:Nat) (k:Nat->At R),yr t a d k=yr t' a d k:=ET g;unfold xk;simp only[i,j,l];cases a with
 |none=>rfl
 |some f=>
  have m:∀(k:CV->At R),er t f k=er t' f k:=bA (g f d5);simp only[m]
def ad4(h:∀x∈xs,GD t t' x)(k:CV->At R):K4 t xs k=K4 t' xs k:=by
 unfold K4;split
 .exact bA (h _ d5) _
 .rfl
def ad5(h:∀x∈xs,GD t t' x)(k:CV->CV->At R):K5 t xs k=K5 t' xs k:=by
 unfold K5;split
 .rw[bA (h _ d5)]
  congr 1;funext c;exact bA (h _ d5) _
 .rfl
end
def UC{T:EQ->bz}{ID:FuncId->In}{call:KC R}(h:∀x∈V.operands.toList,GD t t' x)(e:Tr di)(j:Nat)(k:CV->Tr di->Nat->At R):opK T ID call V t e j k=opK T ID call V t' e j k:=by
 cases V with
 |move x=>
  have e0:∀k:CV->At R,er t x k=er t' x k:=bA (h x f0);show Gg x t e j k=Gg x t' e j k;simp only[Gg,e0]
 |assign x=>
  have e0:∀k:CV->At R,er t x k=er t' x k:=bA (h x f0);show Gg x t e j k=Gg x t' e j k;simp only[Gg,e0]
 |pick z x y=>
  have e0:∀k:CV->At R,er t z k=er t' z k:=bA (h z f0);have l:∀k:CV->At R,er t x k=er t' x k:=bA (h x f0);have o:∀k:CV->At R,er t y k=er t' y k:=bA (h y f0);show abn z x y t e j k=abn z x y t' e j k;simp only[abn,e0,l,o]
 |alloc d=>rfl
 |box d x=>
  have e0:∀k:CV->At R,er t x k=er t' x k:=bA (h x f0);show al6 d x t e j k=al6 d x t' e j k;simp only[al6,e0]
 |build d q=>
  have e0:∀k:Do (Nat×Do CV)->At R,lX t q.toList k=lX t' q.toList k:=xl λp I=>h p.2 (by simp only[Op.operands];exact awe.2 ⟨p,I,rfl⟩);show Pd T d q t e j k=Pd T d q t' e j k;simp only[Pd,e0]
 |buildSlice d L q=>
  have e0:∀k:Do (Nat×Do CV)->At R,lX t q.toList k=lX t' q.toList k:=xl λp I=>h p.2 (by simp only[Op.operands];exact awe.2 ⟨p,I,rfl⟩);show pH T d L q t e j k=pH T d L q t' e j k;simp only[pH,e0]
 |insert d x y z=>
  have e0:∀k:CV->At R,er t x k=er t' x k:=bA (h x f0);have l:∀k:CV->At R,er t y k=er t' y k:=bA (h y f0);have o:∀k:CV->At R,er t z k=er t' z k:=bA (h z f0);show Uw T d x y z t e j k=Uw T d x y z t' e j k;simp only[Uw,e0,l,o]
 |load d x=>
  have e0:∀k:CV->At R,er t x k=er t' x k:=bA (h x f0);show abo T d x t e j k=abo T d x t' e j k;simp only[abo,e0]
 |store d x y=>
  have e0:∀k:CV->At R,er t x k=er t' x k:=bA (h x f0);have l:∀k:CV->At R,er t y k=er t' y k:=bA (h y f0);show Pe T d x y t e j k=Pe T d x y t' e j k;simp only[Pe,e0,l]
 |nilCheck x=>
  have e0:∀k:CV->At R,er t x k=er t' x k:=bA (h x f0);show al7 x t e j k=al7 x t' e j k;simp only[al7,e0]
 |binOp A d x y u=>
  have e0:∀k:CV->At R,er t x k=er t' x k:=bA (h x f0);have l:∀k:CV->At R,er t y k=er t' y k:=bA (h y f0);show al8 T A d x y t e j k=al8 T A d x y t' e j k;simp only[al8,e0,l]
 |unOp A d x=>
  have e0:∀k:CV->At R,er t x k=er t' x k:=bA (h x f0);show oUn A d x t e j k=oUn A d x t' e j k;simp only[oUn,e0]
 |convert d u x=>
  have e0:∀k:CV->At R,er t x k=er t' x k:=bA (h x f0);show abp T d u x t e j k=abp T d u x t' e j k;simp only[abp,e0]
 |makeFunc K C cs=>
  have e0:∀k:Do CV->At R,tH t C.toList k=tH t' C.toList k:=yi λx v=>h x (by simp only[Op.operands,ayl,awc];exact .inl v);have l:∀k:Do CV->At R,tH t cs.toList k=tH t' cs.toList k:=yi λx v=>h x (by simp only[Op.operands,ayl,awc];exact .inr v);show abq K C cs t e j k=abq K C cs t' e j k;simp only[abq,e0,l]
 |makeMap d r=>rfl
 |makeSlice d x y=>
  have e0:∀k:CV->At R,er t x k=er t' x k:=bA (h x f0);have l:∀k:CV->At R,er t y k=er t' y k:=bA (h y f0);show abr T d x y t e j k=abr T d x y t' e j k;simp only[abr,e0,l]
 |slice d x E D F=>
  have e0:∀k:CV->At R,er t x k=er t' x k:=bA (h x f0);have l:∀(a:CV) (k:CV->At R),xk T t d a E D F k=xk T t' d a E D F k:=λa k=>UB (λy s=>h y (by simp[Op.operands]at s⊢;exact .inr (.inl s))) (λy s=>h y (by simp[Op.operands]at s⊢;exact .inr (.inr (.inl s)))) (λy s=>h y (by simp[Op.operands]at s⊢;exact .inr (.inr (.inr s)))) k;show Pf T d x E D F t e j k=Pf T d x E D F t' e j k;simp only[Pf,e0,l]
 |fieldAddr d x f=>
  have e0:∀k:CV->At R,er t x k=er t' x k:=bA (h x f0);show oFA T d x f t e j k=oFA T d x f t' e j k;simp only[oFA,e0]
 |field d x f=>
  have e0:∀k:CV->At R,er t x k=er t' x k:=bA (h x f0);show oF T d x f t e j k=oF T d x f t' e j k;simp only[oF,e0]
 |indexAddr d x y=>
  have e0:∀k:CV->At R,er t x k=er t' x k:=bA (h x f0);have l:∀k:CV->At R,er t y k=er t' y k:=bA (h y f0);show oIA T d x y t e j k=oIA T d x y t' e j k;simp only[oIA,e0,l]
 |index d x y=>
  have e0:∀k:CV->At R,er t x k=er t' x k:=bA (h x f0);have l:∀k:CV->At R,er t y k=er t' y k:=bA (h y f0);show oI T d x y t e j k=oI T d x y t' e j k;simp only[oI,e0,l]
 |lookup d x y w=>
  have e0:∀k:CV->At R,er t x k=er t' x k:=bA (h x f0);have l:∀k:CV->At R,er t y k=er t' y k:=bA (h y f0);show abt T d x y w t e j k=abt T d x y w t' e j k;simp only[abt,e0,l]
 |mapUpdate d x y z=>
  have e0:∀k:CV->At R,er t x k=er t' x k:=bA (h x f0);have l:∀k:CV->At R,er t y k=er t' y k:=bA (h y f0);have o:∀k:CV->At R,er t z k=er t' z k:=bA (h z f0);show Uw T d x y z t e j k=Uw T d x y z t' e j k;simp only[Uw,e0,l,o]
 |mapEntry d x y=>
  have e0:∀k:CV->At R,er t x k=er t' x k:=bA (h x f0);have l:∀k:CV->At R,er t y k=er t' y k:=bA (h y f0);show Pg T d x y t e j k=Pg T d x y t' e j k;simp only[Pg,e0,l]
 |entryStore d x y z=>
  have e0:∀k:CV->At R,er t x k=er t' x k:=bA (h x f0);have l:∀k:CV->At R,er t y k=er t' y k:=bA (h y f0);have o:∀k:CV->At R,er t z k=er t' z k:=bA (h z f0);show DC T d x y z t e j k=DC T d x y z t' e j k;simp only[DC,e0,l,o]
 |typeAssert x d u w=>
  have e0:∀k:CV->At R,er t x k=er t' x k:=bA (h x f0);show oTA T u x w t e j k=oTA T u x w t' e j k;simp only[oTA,e0]
 |extract x i=>
  have e0:∀k:CV->At R,er t x k=er t' x k:=bA (h x f0);show al9 x i t e j k=al9 x i t' e j k;simp only[al9,e0]
 |call c=>
  obtain⟨G,m,B⟩:=c;have H:∀x∈m.toList,GD t t' x:=λx v=>h x (by simp only[Op.operands,Call.operands,ayl,awc];exact .inr v);cases G with
  |value x=>
   have e0:∀k:CV->At R,er t x k=er t' x k:=bA (h x (by simp[Op.operands,Call.operands]));have l:∀k:Do CV->At R,tH t m.toList k=tH t' m.toList k:=yi H;show(er t x λf=>tH t m.toList λcs=>clK f λg J xs=>call g (J++cs++xs) e j k)=(er t' x λf=>tH t' m.toList λcs=>clK f λg J xs=>call g (J++cs++xs) e j k);simp only[e0,l]
  |builtin b=>
   have l:∀k:CV->At R,K4 t m.toList k=K4 t' m.toList k:=ad4 H;have o:∀k:CV->CV->At R,K5 t m.toList k=K5 t' m.toList k:=ad5 H;show oO T b m.toList B.toList t e j k=oO T b m.toList B.toList t' e j k;unfold oO;cases b<;>simp only[l,o]
  |invoke _ _=>rfl
 |defer c=>
  obtain⟨G,m,B⟩:=c;cases G with
  |value x=>
   have e0:∀k:CV->At R,er t x k=er t' x k:=bA (h x (by simp[Op.operands,Call.operands]));show Kk ID ⟨.value x,m,B⟩ t e j k=Kk ID ⟨.value x,m,B⟩ t' e j k;simp only[Kk,e0]
  |_=>rfl
 |_=>rfl
def Km{a:bq}{g:gg}{y b:At R}(h:∀p,g=some p->∀s,rP a p.1=some s->t.get s=t'.get s):M8 a g t y b=M8 a g t' y b:=by
 cases g with
 |none=>rfl
 |some p=>
  unfold M8;show(oB (rP a p.1) λs=>oB (t.get s) _)=(oB (rP a p.1) λs=>oB (t'.get s) _);cases c:rP a p.1 with
  |none=>rfl
  |some s=>
   show oB (t.get s) _=oB (t'.get s) _;rw[h p rfl s c]
def o9(a:bq)(o:Oper)(x:Nat):In:=(tmpsOf o).contains x||(match o.guard with
 |some g=>rP a g.1==some x
 |none=>false)
def abx{ops:bq}{o:Oper}:∀x∈o.op.operands.toList,GD t (t.res (o9 ops o)) x:=λx a i e=>by
 subst e;rw[Tr.pI,av3];unfold o9;have:(tmpsOf o).contains i=true:=by
  rw[aAG];exact azQ.2 ⟨_,a,rfl⟩
 rw[this];rfl
def aby{ops:bq}{o:Oper}:∀p,o.guard=some p->∀s,rP ops p.1=some s->t.get s=(t.res (o9 ops o)).get s:=λp a s b=>by
 rw[Tr.pI,av3];unfold o9;rw[a];simp[b]
inductive WY(P:Program)(Dk:Deferred->Prop)(w0:World)(ops:bq)(o:Oper)(t:Tr CV)(h:Tr di)(n:Nat):Tr CV->Tr di->Nat->Prop
 |run (c:CV) (h2:Tr di) (n2:Nat) (t2:Tr CV) (hw:Gh ops o.guard (t.res (o9 ops o)) true) (hf:kQ P Dk w0 o (t.res (o9 ops o)) h n c h2 n2) (hp:GC o.dst c t t2):WY P Dk w0 ops o t h n t2 h2 n2
 |skip (t2:Tr CV) (hw:Gh ops o.guard (t.res (o9 ops o)) false) (hp:GC o.dst (.v undef) t t2):WY P Dk w0 ops o t h n t2 h n
variable{ID:FuncId->In}{call:KC R}
def Ko(s:hS P T)(p:∀b u a,GT b u a->w0.cell? ⟨b,u,none⟩=some a)(q:ln Dk ID)(v:h_ P w0 call){f:bq}{k:KK R}(g:abu T ID call f u k t h n=some r):
 ∃t' h' n',WY P Dk w0 f u t h n t' h' n'/\k t' h' n'=some r:=by
 unfold abu at g;rw[Km (aby (ops:=f) (o:=u))]at g;rcases UA g with⟨e,l⟩|⟨e,l⟩
 .rw[UC (abx (ops:=f) (o:=u))]at e
  obtain⟨d,B,A,z,m,o⟩:=u;obtain⟨c,h',n',w,y⟩:=ajx (d:=d) (ty:=A) (pos:=z) (af:=m) (gd:=o) s p q v e;obtain⟨t',j,i⟩:=abw y;exact⟨t',h',n',.run _ _ _ _ l w j,i⟩
 .obtain⟨t',j,i⟩:=abw e
  exact⟨t',h,n,.skip _ l j,i⟩
def o8.res(b:o8 y t C)(p:Nat->In):o8 y (t.res p) C:=λi c a=>by
 rw[Tr.pI]at a;split at a
 .exact b i c a
 .cases a
def put_defers(a:Act)(d:jQ)(v:Id):(a.put d v).defers=a.defers:=by cases d<;>rfl
def WY.wp{m:bq}(q:WY P Dk w0 m u t h n t' h' n')(a:o8 y t C)(g:HR P w0 y h.get n i){next:Act->GE->Prop}{Q:IR->Act->GE->Prop}
 (l:∀d e b,o8 d t' e->KP P w0 y h.get n i d h'.get n' b->Df Dk C e->next e b):if Region.wanted u (yielded m.toArray C.tmps)then u.wp P C i next Q else next (C.put u.dst undef) i:=by
 cases q with
 |run c z A w j p f=>
  rw[j y C (a.res _) u rfl,av3 rfl];refine p.fk y C i (a.res _) g next Q λv b D ⟨d,k,s⟩ o=>?_
  exact l d _ b (f.tr (a.mono (k.le g)) s) k ⟨D,o,by rw[put_defers]⟩
 |skip w j f=>
  rw[j y C (a.res _) u rfl,av2 d5];have:=f.tr (D:=C.defers) a (KR.v (ρ:=y) (x:=undef));exact l y _ i this (.refl g) ⟨[],d5,by rw[put_defers];rfl⟩
def abz(z:hS P T)(v:∀b o u,GT b o u->w0.cell? ⟨b,o,none⟩=some u)(y:ln Dk ID)(A:h_ P w0 call){c:bq}{k:KK R}:∀(l:bq) (i:Nat) {t:Tr CV} {h:Tr di} {n:Nat},c.drop i=l->ad1 T ID call c l k t h n=some r->
 ∃t' h' n',k t' h' n'=some r/\∀ρ a w Q,o8 ρ t a->HR P w0 ρ h.get n w->(∀f d e,o8 f t' d->KP P w0 ρ h.get n w f h'.get n' e->Df Dk a d->Q .normal d e)->wpOps P c.toArray Q (List.range' i l.length) a w
 |[],i,t,h,n,g,j=>⟨t,h,n,j,λρ a w Q q p m=>m ρ a w q (.refl p) (Df.refl a)⟩
 |o::l,i,t,h,n,g,j=>by
  obtain⟨t1,Y,Z,N,H⟩:=Ko z v y A j;have E:c.drop (i+1)=l:=by rw[<-ayb,g];rfl
  have K:c[i]? =some o:=by
   have:=awh (·[0]?) g;simpa using this
  obtain⟨V,D,U,I,M⟩:=abz z v y A l (i+1) E H;refine⟨V,D,U,I,λρ a w Q q p m=>?_⟩;rw[aws,azD];unfold wpOps;have L:c.toArray[i]? =some o:=by simpa using K
  simp only[L];have:=N.wp (P:=P) q p (next:=wpOps P c.toArray Q (List.range' (i+1) l.length)) (Q:=Q) λf d e O B F=>M f d e Q O B.hr λX C W S J G=>m X C W S (B.trans J) (F.trans G);split
  next s=>rw[av3 s]at this;exact .inl this
  next s=>rw[av2 s]at this;exact this
end
end
end
section
open Go Go.RowKit MapKept
section
variable{P:Fd}{Dk:Deferred->Prop}{w0:GE}
def Nm.cut(ρ:Nm)(n:Nat):Nm:=λk=>if k<n then ρ k else none
section
variable{ρ:Nm}{n m k:Nat}{p:Nat×Nat}
def Nm.jN(h:k<n):Nm.cut ρ n k=ρ k:=av3 h
def Nm.WZ(h:n<=k):Nm.cut ρ n k=none:=av2 bv
def Nm.rQ(h:Nm.cut ρ n k=some p):k<n/\ρ k=some p:=by
 by_cases a:k<n
 .rw[Nm.jN a]at h;exact⟨a,h⟩
 .rw[Nm.WZ bv]at h;cases h
def Nm.Pk(ρ:Nm)(h:n<=m):EN (Nm.cut ρ n) (Nm.cut ρ m):=λk p b=>by
 obtain⟨c,a⟩:=Nm.rQ b;rw[Nm.jN bv];exact a
def Nm.Pm(ρ:Nm)(n:Nat):EN (Nm.cut ρ n) ρ:=λk p a=>(Nm.rQ a).2
def EN.cut{ρ a:Nm}(h:EN ρ a)(n:Nat):EN (Nm.cut ρ n) (Nm.cut a n):=λk p d=>by
 obtain⟨b,c⟩:=Nm.rQ d;rw[Nm.jN b];exact h _ _ c
end
def Bel(n:Nat)(c:CV):Prop:=∀ρ u,KR ρ c u->KR (Nm.cut ρ n) c u
def KR.KS{ρ1:Nm}{n:Nat}(H:∀k,n<=k->ρ1 k=none)(h:KR ρ1 e j):Bel n e:=by
 have s:∀{k p},ρ1 k=some p->k<n:=λ{k p} x=>by
  by_cases h:k<n
  .exact h
  .rw[H k bv]at x;cases x
 induction h with
 |v=>intro ρ u b;cases b;exact .v
 |pt h=>intro ρ u b;cases b with|pt g=>exact .pt (by rw[Nm.jN (s h)];exact g)
 |sl h Q K L M=>intro ρ u b;cases b with|sl g G z A B=>exact .sl (by rw[Nm.jN (s h)];exact g) G z A B
 |mp h=>intro ρ u b;cases b with|mp g=>exact .mp (by rw[Nm.jN (s h)];exact g)
 |gl=>intro ρ u b;cases b;exact .gl
 |ag d l t q=>
  intro ρ u b;cases b with
  |ag r o i=>
   refine .ag r o λa e u c b=>?_;have f:a<d.length:=by rw[l];exact(av7.1 c).1
   exact q a e d[a] c (awf f) ρ u (i a e u c b)
 |tu d l t q=>
  intro ρ u b;cases b with
  |tu r o i=>
   refine .tu r o λa e u c b=>?_;have f:a<d.length:=by rw[l];exact(av7.1 c).1
   exact q a e d[a] c (awf f) ρ u (i a e u c b)
 |cl d y l E t O q I=>
  intro ρ u b;cases b with
  |cl r J o F i D=>
   refine .cl r J o F (λa e u c b=>?_) (λa e u c b=>?_)
   .have f:a<d.length:=by rw[l];exact(av7.1 c).1
    exact q a e d[a] c (awf f) ρ u (i a e u c b)
   .have f:a<y.length:=by rw[E];exact(av7.1 c).1
    exact I a e y[a] c (awf f) ρ u (D a e u c b)
def Kq(P:Fd)(n:Nat)(y:di):Prop:=∀ρ w b m,BR P ρ w b m y->BR P (Nm.cut ρ n) w b m y
def Kq.mono{n m:Nat}(h:n<=m){y:di}(a:Kq P n y):Kq P m y:=λρ w b q c=>(a ρ w b q c).mono (Nm.Pk ρ h) rfl
def BR.KS{ρ1:Nm}{n:Nat}(s:∀k,n<=k->ρ1 k=none){w1:GE}{B Q:Nat}{y:di}(h:BR P ρ1 w1 B Q y):Kq P n y:=by
 intro ρ w b m o;cases y with
 |ce W N ext wr=>
  obtain⟨t,us,F,G,e,Y⟩:=h;obtain⟨R,S,g,i,a,H⟩:=o;refine⟨R,S,g,i,λj c q=>?_,H⟩;obtain⟨K,u,O,I,M⟩:=a j c q;obtain⟨_,Z,_,J,_⟩:=e j c q;exact⟨K,u,O,J.KS s ρ u I,M⟩
 |ma t X wr=>
  obtain⟨d,z,l,V,F,G,e⟩:=h;obtain⟨E,U,A,D,g,i,a⟩:=o;refine⟨E,U,A,D,g,i,⟨a.len,λj x v f r=>⟨(a.key j x v f r).1,?_⟩,a.isk,a.lG,a.UP,a.clk⟩⟩;have L:j<l.size:=by rw[e.len];exact(av7.1 f).1
  exact(e.key j x l[j] f (awU L)).2.KS s ρ _ (a.key j x v f r).2
section
variable{ρ ρ0 ρ1:Nm}{C h0 Hj H1:KH}{n0 N nj n1:Nat}{ws w w1:GE}
def HR.sub(g:HR P w0 ρ C N w)(l:∀k,k<nj->ρ k≠none->Hj k=C k)(o:∀k y,k<nj->ρ k≠none->Hj k=some y->Kq P nj y)(s:∀k,nj<=k->Hj k=none):HR P w0 (Nm.cut ρ nj) Hj nj w:=by
 have h:∀{k x p},Hj k=some x->Nm.cut ρ nj k=some p->k<nj/\C k=some x/\ρ k=some p:=λ{k x p} c r=>by
  obtain⟨e,a⟩:=Nm.rQ r;exact⟨e,by rw[<-l k e (by rw[a];simp)];exact c,a⟩
 refine⟨g.ext,λk x b m c d=>?_,λk x b m c d=>?_,λk v x A b m z c u d q t=>?_,λk d=>Nm.WZ d,s⟩
 .obtain⟨e,a,f⟩:=h c d
  exact o k x e (by rw[f];simp) c _ _ _ _ (g.ob k x b m a f)
 .obtain⟨e,a,f⟩:=h c d
  exact g.lo k x b m a f
 .obtain⟨e,a,f⟩:=h c d
  obtain⟨B,i,j⟩:=h u q;exact g.inj k v x A b m z a i f j t
def HR.empty(b:Ext w0 w):HR P w0 (Nm.cut ρ nj) (λ_=>none) nj w:=
 ⟨b,λ_ _ _ _ h=>(by cases h),λ_ _ _ _ h=>(by cases h),λ_ _ _ _ _ _ _ h=>(by cases h),λk a=>Nm.WZ a,λ_ _=>rfl⟩
def HR.same(c:HR P w0 ρ C N w)(e:∀k y,ρ k≠none->Hj k=some y->C k=some y)(i:∀k,nj<=k->Hj k=none)(q:nj<=N):HR P w0 ρ Hj N w:=
 ⟨c.ext,λk x b m d a=>c.ob k x b m (e k x (by rw[a];simp) d) a,λk x b m d a=>c.lo k x b m (e k x (by rw[a];simp) d) a,
  λk g x h b m o d l a f j=>c.inj k g x h b m o (e k x (by rw[a];simp) d) (e g h (by rw[f];simp) l) a f j,c.top,λk a=>i k bv⟩
def KP.agree(c:KP P w0 ρ0 h0 n0 ws ρ C N w)(e:∀k,(k<n0\/ρ k≠none)->Hj k=C k)(i:∀k,N<=k->Hj k=none):KP P w0 ρ0 h0 n0 ws ρ Hj N w:=
 ⟨c.hr.same (λk y a l=>by rw[<-e k (.inr a)];exact l) i (av5 _),c.nn,c.ro,c.sz,λb f g=>⟨(c.fr b f g).1,λk x m a d h=>(c.fr b f g).2 k x m a (by rw[<-e k (.inr (by rw[h];simp))];exact d) h⟩,
  λk x a d=>c.ol k x a (by rw[<-e k (.inl a)];exact d),λk x a d j=>by rw[e k (.inl a)];exact c.fz k x a d j⟩
def KP.wide(a:HR P w0 ρ C n0 w)(b:n0<=N):KP P w0 ρ C n0 w ρ C N w:=by
 have k:=KP.refl a;exact⟨⟨a.ext,a.ob,a.lo,a.inj,λx c=>a.top x bv,λx c=>a.HH x bv⟩,b,k.ro,k.sz,k.fr,k.ol,k.fz⟩
def Aq(n1:Nat)(c b:Nat->At a):Nat->At a:=λk=>if k<n1 then c k else b k
def eR{n1 k:Nat}{c b:Nat->At a}(h:k<n1):Aq n1 c b k=c k:=av3 h
def iJ{n1 k:Nat}{c b:Nat->At a}(h:n1<=k):Aq n1 c b k=b k:=av2 bv
def KP.merge(A:KP P w0 ρ0 h0 n0 ws ρ C N w)(B:KP P w0 (Nm.cut ρ nj) Hj nj w ρ1 H1 n1 w1)(Z:n0<=nj)(a0:n1<=N)(v:∀k,k<nj->(k<n0\/ρ k≠none)->Hj k=C k)(W:∀k,nj<=k->k<n1->ρ k=none):
 KP P w0 ρ0 h0 n0 ws (Aq n1 ρ1 ρ) (Aq n1 H1 C) N w1/\EN ρ1 (Aq n1 ρ1 ρ)/\EN ρ (Aq n1 ρ1 ρ):=by
 have a3:=B.nn;have L:EN ρ1 (Aq n1 ρ1 ρ):=λk p a=>by rw[eR (B.hr.lt a)];exact a
 have H:∀k,k<nj->ρ1 k=ρ k:=λk a=>by rw[B.ro k a,Nm.jN a]
 have M:EN ρ (Aq n1 ρ1 ρ):=λk p a=>by
  by_cases h:k<n1
  .rw[eR h]
   by_cases u:k<nj
   .rw[H k u];exact a
   .rw[W k bv h]at a;cases a
  .rw[iJ bv];exact a
 have G:∀{k x b m},k<nj->H1 k=some x->ρ1 k=some (b,m)->∃f,C k=some f/\ρ k=some (b,m)/\f.wr=x.wr:=λ{k x b m} a c l=>by
  obtain⟨f,r,g⟩:=B.ol k x a c;rw[H k a]at l;exact⟨f,by rw[<-v k a (.inr (by rw[l];simp))];exact r,l,g⟩
 have E:∀{k x b m},n1<=k->C k=some x->ρ k=some (b,m)->ai_ (Nm.cut ρ nj) Hj b:=λ{k x b m} a c l d i q e o F=>by
  obtain⟨r,g⟩:=Nm.rQ F;have:=A.hr.inj d k i x b q m (by rw[<-v d r (.inr (by rw[g];simp))];exact e) c g l o;omega
 refine⟨⟨⟨B.hr.ext,λk x b m c a=>?_,λk x b m c a=>?_,λk d x i b m q c e a j o=>?_,λk a=>?_,λk a=>?_⟩,A.nn,λk a=>?_,awH A.sz B.sz,λb z K=>?_,λk i a c=>?_,λk x a c o=>?_⟩,L,M⟩
 .by_cases h:k<n1
  .rw[eR h]at c a
   exact(B.hr.ob k x b m c a).mono L rfl
  .rw[iJ bv]at c a
   have z:=A.hr.ob k x b m c a;exact z.mono M (B.fr b z.lt (E bv c a)).1
 .by_cases h:k<n1
  .rw[eR h]at c a
   exact B.hr.lo k x b m c a
  .rw[iJ bv]at c a
   exact A.hr.lo k x b m c a
 .by_cases h:k<n1
  .rw[eR h]at c a
   by_cases u:d<n1
   .rw[eR u]at e j
    exact B.hr.inj k d x i b m q c e a j o
   .rw[iJ bv]at e j
    by_cases y:k<nj
    .obtain⟨f,r,g,I⟩:=G y c a
     exact A.hr.inj k d f i b m q r e g j (I.trans o)
    .exact absurd a ((B.fr b (A.hr.ob d i b q e j).lt (E bv e j)).2 k x m bv c)
  .rw[iJ bv]at c a
   by_cases u:d<n1
   .rw[eR u]at e j
    by_cases y:d<nj
    .obtain⟨f,r,g,I⟩:=G y e j
     exact A.hr.inj k d x f b m q c r a g o
    .exact absurd j ((B.fr b (A.hr.ob k x b m c a).lt (E bv c a)).2 d i q bv e)
   .rw[iJ bv]at e j
    exact A.hr.inj k d x i b m q c e a j o
 .rw[iJ bv];exact A.hr.top k a
 .rw[iJ bv];exact A.hr.HH k a
 .rw[eR bv,H k bv];exact A.ro k a
 .obtain⟨O,D⟩:=A.fr b z K
  have V:ai_ (Nm.cut ρ nj) Hj b:=λd i q e o F=>by
   obtain⟨r,g⟩:=Nm.rQ F;have J:C d=some i:=by rw[<-v d r (.inr (by rw[g];simp))];exact e
   by_cases h:d<n0
   .obtain⟨f,s,t⟩:=A.ol d i h J
    rw[A.ro d h]at g;exact K d f q s (t.trans o) g
   .exact D d i q bv J g
  obtain⟨Q,R⟩:=B.fr b (by have:=A.sz;omega) V;refine⟨Q.trans O,λk x m a c l=>?_⟩;by_cases h:k<n1
  .rw[eR h]at c l
   by_cases y:k<nj
   .obtain⟨f,s,t,Y⟩:=G y c l
    exact D k f m a s t
   .exact R k x m bv c l
  .rw[iJ bv]at c l
   exact D k x m a c l
 .rw[eR bv]at c
  obtain⟨f,s,t⟩:=B.ol k i bv c;rw[v k bv (.inl a)]at s;obtain⟨X,S,U⟩:=A.ol k f a s;exact⟨X,S,U.trans t⟩
 .rw[eR bv]
  have:=A.fz k x a c o;exact B.fz k x bv (by rw[v k bv (.inl a)];exact this) o
def KP.add(A:KP P w0 ρ0 h0 n0 ws ρ C N w)(B:KP P w0 (Nm.cut ρ nj) (λ_=>none) nj w ρ1 H1 n1 w1)(H:n0<=nj)(I:n1<=N)(F:∀k,nj<=k->k<n1->ρ k=none):
 KP P w0 ρ0 h0 n0 ws (Aq n1 ρ1 ρ) (λk=>if nj<=k/\k<n1 then H1 k else C k) N w1/\EN ρ1 (Aq n1 ρ1 ρ)/\EN ρ (Aq n1 ρ1 ρ):=by
 have J:=B.nn;have t:EN ρ1 (Aq n1 ρ1 ρ):=λk p a=>by rw[eR (B.hr.lt a)];exact a
 have G:∀k,k<nj->ρ1 k=ρ k:=λk a=>by rw[B.ro k a,Nm.jN a]
 have f:∀k,¬(nj<=k/\k<n1)->Aq n1 ρ1 ρ k=ρ k:=λk a=>by
  by_cases h:k<n1
  .rw[eR h,G k bv]
  .rw[iJ bv]
 have u:EN ρ (Aq n1 ρ1 ρ):=λk p a=>by
  by_cases h:nj<=k/\k<n1
  .rw[F k h.1 h.2]at a;cases a
  .rw[f k h];exact a
 have o:∀b,b<w.heap.size->w1.heap[b]? =w.heap[b]? /\∀k x m,nj<=k->H1 k=some x->ρ1 k≠some (b,m):=λb j=>B.fr b j λ_ _ _ h=>(by cases h);refine⟨⟨⟨B.hr.ext,λk x b m c a=>?_,λk x b m c a=>?_,λk e x l b m s c i a g r=>?_,λk a=>?_,λk a=>?_⟩,A.nn,λk a=>?_,awH A.sz B.sz,λb j E=>?_,λk l a c=>?_,λk x a c r=>?_⟩,t,u⟩
 .by_cases h:nj<=k/\k<n1
  .rw[eR h.2]at a
   simp only[av3 h]at c;exact(B.hr.ob k x b m c a).mono t rfl
  .rw[f k h]at a
   simp only[av2 h]at c;have j:=A.hr.ob k x b m c a;exact j.mono u (o b j.lt).1
 .by_cases h:nj<=k/\k<n1
  .rw[eR h.2]at a
   simp only[av3 h]at c;exact B.hr.lo k x b m c a
  .rw[f k h]at a
   simp only[av2 h]at c;exact A.hr.lo k x b m c a
 .by_cases h:nj<=k/\k<n1
  .rw[eR h.2]at a
   simp only[av3 h]at c;by_cases d:nj<=e/\e<n1
   .rw[eR d.2]at g
    simp only[av3 d]at i;exact B.hr.inj k e x l b m s c i a g r
   .rw[f e d]at g
    simp only[av2 d]at i;exact absurd a ((o b (A.hr.ob e l b s i g).lt).2 k x m h.1 c)
  .rw[f k h]at a
   simp only[av2 h]at c;by_cases d:nj<=e/\e<n1
   .rw[eR d.2]at g
    simp only[av3 d]at i;exact absurd g ((o b (A.hr.ob k x b m c a).lt).2 e l s d.1 i)
   .rw[f e d]at g
    simp only[av2 d]at i;exact A.hr.inj k e x l b m s c i a g r
 .rw[f k bv];exact A.hr.top k a
 .rw[av2 bv];exact A.hr.HH k a
 .rw[f k bv];exact A.ro k a
 .obtain⟨v,y⟩:=A.fr b j E
  obtain⟨z,D⟩:=o b (by have:=A.sz;omega);refine⟨z.trans v,λk x m a c q=>?_⟩;by_cases h:nj<=k/\k<n1
  .rw[eR h.2]at q
   simp only[av3 h]at c;exact D k x m h.1 c q
  .rw[f k h]at q
   simp only[av2 h]at c;exact y k x m a c q
 .rw[av2 bv]at c
  exact A.ol k l a c
 .rw[av2 bv]
  exact A.fz k x a c r
end
def W0(a:blt d h=true):d<h:=awd a
def xn{n:Nat}(h:M9 n e=true):Bel n e:=by
 intro ρ u b;cases e with
 |v x=>cases b;exact .v
 |gl=>cases b;exact .gl
 |pt k o=>cases b with|pt a=>exact .pt (by rw[Nm.jN (W0 h)];exact a)
 |sl k o m e=>cases b with|sl a g c d f=>exact .sl (by rw[Nm.jN (W0 h)];exact a) g c d f
 |mp k=>cases b with|mp a=>exact .mp (by rw[Nm.jN (W0 h)];exact a)
 |_=>cases h
def ame{n:Nat}(h:apG n e=true):Bel n e:=by
 unfold apG at h;split at h
 next l=>
  intro ρ u a;cases a with
  |ag f d c=>exact .ag f d λj e u b a=>xn (awt.1 h e (awg b)) ρ u (c j e u b a)
 next l=>
  intro ρ u a;cases a with
  |tu f d c=>exact .tu f d λj e u b a=>xn (awt.1 h e (awg b)) ρ u (c j e u b a)
 next l k=>
  intro ρ u a;obtain⟨g,i⟩:=aA0.1 h;cases a with
  |cl f r d q c o=>exact .cl f r d q (λj e u b a=>xn (awt.1 g e (awg b)) ρ u (c j e u b a)) λj e u b a=>xn (awt.1 i e (awg b)) ρ u (o j e u b a)
 .exact xn h
def apK{x y:Id}(h:vEq x y=true):x=y:=by
 unfold vEq at h;split at h
 .simp only[av4,awJ,xg]at h
  obtain⟨rfl,rfl⟩:=h;rfl
 .simp at h;rw[h]
 .rfl
 .rfl
 .rfl
 .rfl
 .rfl
 .rw[eL h]
 .cases h
def Pn(h:ajs e B=true):e=B:=by
 unfold ajs at h;split at h
 .rw[apK h]
 .simp at h;rw[h.1,h.2]
 .simp at h;rw[h.1.1.1,h.1.1.2,h.1.2,h.2]
 .simp at h;rw[h]
 .cases h
def DD:∀{l m:Do CV},WU l m=true->l=m
 |[],[],_=>rfl
 |a::l,b::m,h=>by
  simp only[WU,av4]at h;rw[Pn h.1,DD h.2]
 |[],_::_,h=>by cases h
 |_::_,[],h=>by cases h
def ajz(h:cEq e B=true):e=B:=by
 unfold cEq at h;split at h
 .rw[DD h]
 .rw[DD h]
 .simp only[av4]at h
  rw[eL h.1.1,DD h.1.2,DD h.2]
 .exact Pn h
def Po:∀{l m:Tr CV},ajt l m=true->l=m
 |.lf,.lf,_=>rfl
 |.nd l x r,.nd f b g,h=>by
  simp only[ajt,av4]at h;obtain⟨⟨c,a⟩,d⟩:=h;have e:x=b:=by
   cases x<;>cases b<;>simp at a
   .rfl
   .rw[Pn a]
  rw[Po c,Po d,e]
 |.lf,.nd ..,h=>by cases h
 |.nd ..,.lf,h=>by cases h
def abA{x y:At di}(h:ama x y=true):x=y:=by
 unfold ama at h;split at h
 .simp at h
  obtain⟨⟨⟨a,b⟩,c⟩,d⟩:=h;rw[Po a,b,c,d]
 .simp at h
  rw[h.1,h.2]
 .cases h
end
end
section
open Go Go.RowKit MapKept
section
variable{P:Fd}{Dk:Deferred->Prop}{w0:GE}{T:EQ->bz}
structure TX(l:bq):Prop where
 back:∀(j:Nat) o,l[j]? =some o->∀e∈o.after,Region.binds .any e=true->e.on<j
 inj:Fe l=true
 see:∀(i j:Nat) p o x,l[i]? =some p->l[j]? =some o->x∈tmpsOf o->p.dst=some x->i=j\/qU l i j=true
 gd:∀(j:Nat) o g,l[j]? =some o->o.guard=some g->eF l j g.1=true/\g.1≠j
 row:∀(i j:Nat) p o,l[i]? =some p->l[j]? =some o->fD p.op=2->fD o.op=2->i=j\/qU l i j=true
 rd:∀(i j:Nat) o p,l[i]? =some o->l[j]? =some p->fD o.op=1->fD p.op=2->qU l i j=false->∀(i':Nat) q x,l[i']? =some q->x∈tmpsOf o->q.dst=some x->eF l i i'=true/\i'≠i
def Ar{l:bq}{o p:Oper}(a:l[d]? =some o)(b:l[A]? =some p)(c:fD o.op=1)(e:fD p.op=2)(h:qU l d A=false):(d,A)∈Kl l:=by
 refine axo.2 ⟨d,awE.2 (av7.1 a).1,azQ.2 ⟨A,awE.2 (av7.1 b).1,?_⟩⟩;simp[a,b,c,e,h]
def W1{l:bq}{o p:Oper}(a:l[d]? =some o)(b:l[A]? =some p)(c:fD o.op=0)(e:fD p.op=2)(f:d<A)(h:eF l A d=false):(d,A)∈aju l:=by
 refine axo.2 ⟨d,awE.2 (av7.1 a).1,azQ.2 ⟨A,awE.2 (av7.1 b).1,?_⟩⟩;have:blt d A=true:=aAi f;simp[a,b,c,e,h,this]
def amf{l:bq}(h:apF l=true):TX l:=by
 unfold apF at h;simp only[av4]at h;obtain⟨⟨⟨⟨v,w⟩,s⟩,y⟩,z⟩:=h;have c:∀{j:Nat} {o},l[j]? =some o->j∈List.range l.length:=λ{j o} a=>awE.2 (av7.1 a).1;refine⟨λj o a e C A=>by have:=D2 v j o a e C A;omega,w,λi j p o x b a m k=>?_,λj o g a D=>?_,λi j p o b a d f=>?_,λi j o p a b d f B E q x u m k=>?_⟩
 .have:=awt.1 s j (c a)
  simp only[a,av4]at this;have:=awt.1 (awt.1 this.1 x m) i (c b);simp only[b,k]at this;simpa using this
 .have:=awt.1 s j (c a)
  simp only[a,D,av4]at this;exact⟨this.2.1,ks (by simpa using this.2.2)⟩
 .have:=awt.1 (awt.1 y j (c a)) i (c b)
  simp only[a,b,d,f]at this;simpa using this
 .have:=awt.1 z _ (Ar a b d f B)
  simp only[a]at this;have:=awt.1 (awt.1 this x m) E (c u);simp only[u,k,aw2,av4]at this;rcases this with h|h
  .simp at h
  .exact⟨h.1,ks (by simpa using h.2)⟩
def TX.le{l:bq}(i:TX l)(h:eF l A d=true):d<=A:=by
 have a:sn l (λk=>decide (k<=A)):=λk o g f e c b=>by
  have j:=i.back k o g e c b;have m:k<=A:=by simpa using f
  simp only[awJ];omega
 have:=fL a A d h d5;simpa using this
def zn(a:bq)(i:Nat):Prop:=∃o,a[i]? =some o/\fD o.op=2
def Gi(P:Fd)(w0:GE)(a:bq)(o:Oper)(t:Tr CV)(h:Tr di):Prop:=Gh a o.guard (t.res (o9 a o)) false\/∃d c,o.dst=some d/\t.get d=some c/\PK P w0 o (t.res (o9 a o)) h c
structure M_(P:Program)(Dk:Deferred->Prop)(w0:World)(ops:bq)(ts:Nat->Tr CV)(hs:Nat->Tr di)(ns:Nat->Nat):Prop where
 lG:∀(i:Nat) o,ops[i]? =some o->WY P Dk w0 ops o (ts i) (hs i) (ns i) (ts (i+1)) (hs (i+1)) (ns (i+1))
 mono:∀(i:Nat),i<ops.length->ns i<=ns (i+1)
 made:∀(i j:Nat) p o,ops[i]? =some p->ops[j]? =some o->fD p.op=0->fD o.op=2->i<j->eF ops j i=false->ns i=ns (i+1)\/(hs (i+1)).get (ns i)=(hs (j+1)).get (ns i)
 rd:∀(i j:Nat) o p,ops[i]? =some o->ops[j]? =some p->fD o.op=1->fD p.op=2->qU ops i j=false->Gi P w0 ops o (ts ops.length) (hs j)/\Gi P w0 ops o (ts ops.length) (hs (j+1))
 bl:∀(i j:Nat) o p d c,ops[i]? =some o->ops[j]? =some p->fD o.op=1->fD p.op=2->qU ops i j=false->o.dst=some d->(ts ops.length).get d=some c->Bel (ns i) c
section
variable{t:Tr CV}{h:Tr di}{n:Nat}{R:Type}{r:R}{ID:FuncId->In}{call:KC R}
def Na(w:hS P T)(s:∀b u a,GT b u a->w0.cell? ⟨b,u,none⟩=some a)(v:ln Dk ID)(x:h_ P w0 call){e:bq}(j:fD u.op=1){k:At R}(g:sameAt T ID call e u t n h k=some r):k=some r/\Gi P w0 e u t h:=by
 unfold sameAt at g;rw[Km (aby (ops:=e) (o:=u))]at g;rcases UA g with⟨i,m⟩|⟨i,m⟩
 .obtain⟨d,z,B⟩:=bG i
  obtain⟨G,y,l⟩:=bG B;rw[UC (abx (ops:=e) (o:=u))]at l;obtain⟨p,J,F,E,o,q⟩:=u;obtain⟨c,H,I,f,C⟩:=ajx (d:=p) (ty:=F) (pos:=E) (af:=o) (gd:=q) w s v x l;obtain⟨A,D⟩:=bj C;obtain rfl:=ajz A;unfold kQ at f;simp only at j;rw[j]at f;exact⟨D,.inr ⟨d,c,z,y,f.2.2⟩⟩
 .exact⟨i,.inl m⟩
def abB(w:hS P T)(s:∀b o u,GT b o u->w0.cell? ⟨b,o,none⟩=some u)(v:ln Dk ID)(y:h_ P w0 call){a:bq}{c:Acc}{k:At R}:∀{l:bu},(∀p∈l,∀o,a[p.1]? =some o->fD o.op=1)->asM T ID call a c t n l k=some r->
 k=some r/\∀p∈l,∀o,a[p.1]? =some o->∀e∈c,e.1=p.2->Gi P w0 a o t e.2.1.2/\Gi P w0 a o t e.2.2.2
 |[],_,f=>⟨f,λp O=>by cases O⟩
 |p::l,G,f=>by
  obtain⟨o,I,g⟩:=bG f;have H:=G p d5 o I;have Q:∀{c:Acc} {j:At R},(List.rec (motive:=λ_=>At R) j (λe _ M=>bB (beq e.1 p.2) (sameAt T ID call a o t n e.2.1.2 (sameAt T ID call a o t n e.2.2.2 M)) M) c:At R)=some r->
   j=some r/\∀e∈c,e.1=p.2->Gi P w0 a o t e.2.1.2/\Gi P w0 a o t e.2.2.2:=by
   intro c
   induction c with
   |nil=>intro j f;exact⟨f,λe i=>by cases i⟩
   |cons e c L=>
    intro j f;rcases dR f with⟨x,g⟩|⟨x,g⟩
    .obtain⟨A,D⟩:=Na w s v y H g
     obtain⟨B,E⟩:=Na w s v y H A;obtain⟨C,F⟩:=L B;exact⟨C,λm z d=>(awr.1 z).elim (λq=>by subst q;exact⟨D,E⟩) (λq=>F m q d)⟩
    .obtain⟨C,F⟩:=L g
     refine⟨C,λm z d=>(awr.1 z).elim (λq=>?_) (λq=>F m q d)⟩;subst q;rw[d]at x;simp at x
  obtain⟨A,D⟩:=Q g;obtain⟨B,E⟩:=abB w s v y (λq d=>G q (by simp[d])) A;refine⟨B,λq d S J e i K=>(awr.1 d).elim (λN=>?_) (λU=>E q U S J e i K)⟩;subst N;obtain rfl:=av_ (I.symm.trans J);exact D e i K
def abC(E:hS P T)(C:∀b o u,GT b o u->w0.cell? ⟨b,o,none⟩=some u)(D:ln Dk ID)(F:h_ P w0 call){c:bq}{k:Acc->KK R}:∀(l:bq) (i:Nat) {t:Tr CV} {h:Tr di} {n:Nat} {m:Acc},c.drop i=l->asN T ID call c l i m k t h n=some r->
 ∃(g:Nat->Tr CV) (d:Nat->Tr di) (f:Nat->Nat) (p:Acc),g i=t/\d i=h/\f i=n/\(∀(j:Nat) o,i<=j->c[j]? =some o->WY P Dk w0 c o (g j) (d j) (f j) (g (j+1)) (d (j+1)) (f (j+1)))/\
  (∀(j:Nat),i<=j->j<c.length->(j,(f j,d j),(f (j+1),d (j+1)))∈p)/\(∀e∈m,e∈p)/\k p (g c.length) (d c.length) (f c.length)=some r
 |[],i,t,h,n,m,q,y=>by
  have z:c.length<=i:=List.drop_eq_nil_iff.1 q;exact⟨λ_=>t,λ_=>h,λ_=>n,m,rfl,rfl,rfl,λj o w s=>by have:=(av7.1 s).1;omega,λj w z=>by omega,λe v=>v,y⟩
 |o::l,i,t,h,n,m,q,y=>by
  obtain⟨W,S,V,d,L⟩:=Ko E C D F y;have K:c.drop (i+1)=l:=by rw[<-ayb,q];rfl
  have s:c[i]? =some o:=by
   have:=awh (·[0]?) q;simpa using this
  have U:=(av7.1 s).1;obtain⟨g,N,f,p,I,A,B,O,J,H,M⟩:=abC E C D F l (i+1) K L;refine⟨λj=>if j<=i then t else g j,λj=>if j<=i then h else N j,λj=>if j<=i then n else f j,p,d5,d5,d5,λj Q w G=>?_,λj w z=>?_,λe v=>H e (by simp[v]),?_⟩
  .by_cases x:j=i
   .subst x
    obtain rfl:=av_ (s.symm.trans G);have a:¬j+1<=j:=bv
    simp only[av5,awG,av2 a,I,A,B];exact d
   .have a:¬j<=i:=bv
    have b:¬j+1<=i:=bv
    simp only[av2 a,av2 b];exact O j Q bv G
  .by_cases x:j=i
   .subst x
    have a:¬j+1<=j:=bv
    simp only[av5,awG,av2 a,A,B];exact H _ d5
   .have a:¬j<=i:=bv
    have b:¬j+1<=i:=bv
    simp only[av2 a,av2 b];exact J j bv z
  .have a:¬c.length<=i:=bv
   simp only[av2 a];exact M
def ad6(C:hS P T)(A:∀b o u,GT b o u->w0.cell? ⟨b,o,none⟩=some u)(B:ln Dk ID)(g:h_ P w0 call){f:bq}{k:KK R}(O:abv T ID call f k t h n=some r):
 TX f/\∃(x:Nat->Tr CV) (v:Nat->Tr di) (w:Nat->Nat),x 0=t/\v 0=h/\w 0=n/\M_ P Dk w0 f x v w/\k (x f.length) (v f.length) (w f.length)=some r:=by
 obtain⟨W,Q⟩:=bj O;have Z:=amf W;obtain⟨x,v,w,a0,F,G,H,Y,s,_,S⟩:=abC C A B g f 0 rfl Q;obtain⟨y,U⟩:=bj S;simp only[av4]at y;have K:∀p∈Kl f,∀o,f[p.1]? =some o->fD o.op=1:=λp a o e=>by
  obtain⟨i,E,a⟩:=axo.1 a;obtain⟨j,hj,a⟩:=azQ.1 a;split at a
  next o1 p1 q h2=>
   split at a
   next D=>cases a;obtain rfl:=av_ (q.symm.trans e);simp only[av4]at D;exact eL D.1.1
   .cases a
  .cases a
 obtain⟨V,X⟩:=abB C A B g K U;have z:∀{i:Nat} {o},f[i]? =some o->i<f.length:=λe=>(av7.1 e).1;refine⟨Z,x,v,w,F,G,H,⟨λi o e=>Y i o (awy _) e,λi E=>?_,λi j p o a e l m N I=>?_,λi j o p e a l m g=>?_,λi j o p d c e a l m g L J=>?_⟩,V⟩
 .have:=awt.1 y.2 _ (s i (awy _) E)
  simp only[av4]at this;exact awd this.1
 .have:=awt.1 y.1 _ (W1 a e l m N I)
  have:=awt.1 this _ (s i (awy _) (z a));simp only[aw2,awD,awj,axE,false_or]at this;rcases this with q|q
  .exact .inl (eL q)
  .have:=awt.1 q _ (s j (awy _) (z e))
   simp only[aw2,awD,awj,axE,false_or]at this;exact .inr (abA this)
 .exact X _ (Ar e a l m g) o e _ (s j (awy _) (z a)) rfl
 .have:=awt.1 y.2 _ (s i (awy _) (z e))
  simp only[av4]at this;have:=awt.1 this.2 _ (Ar e a l m g);have M:rP f i=some d:=by simp[rP,e,L]
  simp only[awD,awj,M,J,az2]at this;exact ame this
end
end
end
variable{Q:KH}{E U:Tr di}
section
open Go Go.RowKit MapKept
section
variable{P:Fd}{Dk:Deferred->Prop}{w0:GE}{T:EQ->bz}
def WY.non{ops:bq}{o:Oper}{h g:Tr di}(hs:WY P Dk w0 ops o v h d O g A)(n:fD o.op≠2):∃b,A=Dz d b/\(∀k,g.get k=yp h.get d b k)/\(b≠none->fD o.op=0):=by
 cases hs with
 |run c i t r q e p=>
  unfold kQ at e;split at e
  next f=>obtain⟨s,b,_,i,m,_⟩:=e;exact⟨b,i,m,λ_=>f⟩
  .obtain⟨rfl,rfl,_⟩:=e
   exact⟨none,rfl,λ_=>rfl,λh=>absurd rfl h⟩
  next f l=>
   exfalso;have:fD o.op=0\/fD o.op=1\/fD o.op=2:=by
    unfold fD;split<;>simp
   rcases this with h|h|h
   .exact f h
   .exact l h
   .exact n h
 |skip r q p=>exact⟨none,rfl,λ_=>rfl,λh=>absurd rfl h⟩
def WY.keep{ops:bq}{o:Oper}(hs:WY P Dk w0 ops o v E d O U h)(e:fD o.op≠2)(g:A<d):U.get A=E.get A:=by
 obtain⟨f,_,c,_⟩:=hs.non e;rw[c];cases f with
 |none=>rfl
 |some b=>exact av2 bv
def WY.put{ops:bq}{o:Oper}(hs:WY P Dk w0 ops o v E d O U h):∃c,GC o.dst c v O:=by
 cases hs with
 |run c g k f e i b=>exact⟨c,b⟩
 |skip f e b=>exact⟨_,b⟩
section
variable{ops:bq}{ts:Nat->Tr CV}{hs:Nat->Tr di}{ns:Nat->Nat}
def M_.le(c:M_ P Dk w0 ops ts hs ns){a b:Nat}(h:a<=b)(f:b<=ops.length):ns a<=ns b:=by
 induction b with
 |zero=>obtain rfl:a=0:=by omega
        exact av5 _
 |succ b d=>
  by_cases e:a=b+1
  .subst e;exact av5 _
  .exact awH (d bv bv) (c.mono b bv)
def M_.yB(q:M_ P Dk w0 ops ts hs ns){x a b:Nat}(h:a<=b)(t:b<=ops.length)(g:∀i,a<=i->i<b->∀o,ops[i]? =some o->o.dst≠some x):(ts b).get x=(ts a).get x:=by
 induction b with
 |zero=>obtain rfl:a=0:=by omega
        rfl
 |succ b r=>
  by_cases e:a=b+1
  .subst e;rfl
  .have n:b<ops.length:=bv
   have k:ops[b]? =some ops[b]:=awf n;rw[<-r bv bv λi m s=>g i m bv];obtain⟨c,l⟩:=(q.lG b _ k).put;have p:=g b bv bv _ k;cases f:(ops[b]).dst with
   |none=>rw[l.1 f]
   |some d=>
    rw[(l.2 d f).2 x,av2];intro e;subst e;exact p f
def M_.Xe(f:M_ P Dk w0 ops ts hs ns){k a b:Nat}(h:a<=b)(r:b<=ops.length)(c:∀i,a<=i->i<b->¬zn ops i)(m:k<ns a):(hs b).get k=(hs a).get k:=by
 induction b with
 |zero=>obtain rfl:a=0:=by omega
        rfl
 |succ b p=>
  by_cases e:a=b+1
  .subst e;rfl
  .have n:b<ops.length:=bv
   have d:ops[b]? =some ops[b]:=awf n;rw[<-p bv bv λi g q=>c i g bv];exact(f.lG b _ d).keep (λl=>c b bv bv ⟨_,d,l⟩) (ax9 m (f.le bv bv))
def M_.ang(t:M_ P Dk w0 ops ts hs ns){a b:Nat}(h:a<=b)(y:b<=ops.length)(f:∀i,a<=i->i<b->¬zn ops i)(d:∀k,ns a<=k->(hs a).get k=none):∀k,ns b<=k->(hs b).get k=none:=by
 induction b with
 |zero=>obtain rfl:a=0:=by omega
        exact d
 |succ b u=>
  by_cases e:a=b+1
  .subst e;exact d
  .have s:b<ops.length:=bv
   have g:ops[b]? =some ops[b]:=awf s;have l:=u bv bv λi q x=>f i q bv;obtain⟨v,n,p,_⟩:=(t.lG b _ g).non (λr=>f b bv bv ⟨_,g,r⟩);intro k c;rw[p];rw[n]at c;cases v with
   |none=>exact l k c
   |some m=>
    have:ns b+1<=k:=c;show(if k=ns b then some m else(hs b).get k)=none;rw[av2 bv];exact l k bv
def Gd(ops:bq)(ns:Nat->Nat)(S:Nat->In)(k x:Nat):Prop:=x<=ops.length/\k<ns x/\(∀i,zn ops i->S i=true->i<x)/\∀i,zn ops i->i<x->S i=false->ns i<=k
structure lF(P:Program)(Dk:Deferred->Prop)(w0:World)(ops:bq)(ts:Nat->Tr CV)(hs:Nat->Tr di)(ns:Nat->Nat)(ρ0:Nm)(a0:Act)(ws:World)(S:Nat->Bool)(ρ:Nm)(C:KH)(a:Act)(w:World):Prop where
 kp:KP P w0 ρ0 (hs 0).get (ns 0) ws ρ C (ns ops.length) w
 t1:∀(i:Nat) o x c,ops[i]? =some o->o.dst=some x->S i=true->(ts ops.length).get x=some c->∃v,a.tmps[x]? =some v/\KR (Nm.cut ρ (ns (i+1))) c v
 t0:∀x c,(∀(i:Nat) o,ops[i]? =some o->o.dst=some x->S i=false)->(ts 0).get x=some c->∃v,a.tmps[x]? =some v/\KR (Nm.cut ρ (ns 0)) c v
 hg:∀k x,(k<ns 0\/ρ k≠none)->Gd ops ns S k x->C k=(hs x).get k
 hb:∀k x y,ρ k≠none->Gd ops ns S k x->(hs x).get k=some y->Kq P (ns x) y
 HH:∀x,x<=ops.length->(∀i,i<x->zn ops i->S i=true)->∀k,ns x<=k->(hs x).get k=none
 own:∀k,ρ k≠none->k<ns 0\/∃i,i<ops.length/\S i=true/\ns i<=k/\k<ns (i+1)
 df:Df Dk a0 a
variable{ρ0 ρ:Nm}{a0 a:Act}{ws w:GE}{S:Nat->In}{C:KH}
def lF.at(r:M_ P Dk w0 ops ts hs ns)(d:lF P Dk w0 ops ts hs ns ρ0 a0 ws S ρ C a w){x:Nat}(g:x<=ops.length)(p:∀i,zn ops i->S i=true->i<x)(l:∀i,i<x->zn ops i->S i=true):
 (∀k,k<ns x->(k<ns 0\/ρ k≠none)->(hs x).get k=C k)/\HR P w0 (Nm.cut ρ (ns x)) (hs x).get (ns x) w/\HR P w0 ρ (hs x).get (ns ops.length) w:=by
 have m:∀k,k<ns x->Gd ops ns S k x:=λk b=>⟨g,b,p,λi q c n=>by rw[l i c q]at n;cases n⟩;have f:∀k,k<ns x->(k<ns 0\/ρ k≠none)->(hs x).get k=C k:=λk b c=>(d.hg k x c (m k b)).symm;have h:=d.HH x g l;refine⟨f,d.kp.hr.sub (λk b c=>f k b (.inr c)) (λk y b c e=>d.hb k x y c (m k b) e) h,d.kp.hr.same (λk y c e=>?_) h (r.le g (av5 _))⟩;by_cases b:k<ns x
 .rw[<-f k b (.inr c)];exact e
 .rw[h k bv]at e;cases e
section
variable{j:Nat}{o:Oper}
structure Rdy(ops:bq)(S:Nat->Bool)(j:Nat):Prop where
 no:S j=false
 ah:∀i,eF ops j i=true->i≠j->S i=true
 be:∀i,S i=true->eF ops i j=false
 cl:∀i i',S i'=true->eF ops i' i=true->S i=true
def Rdy.of(q:ops[j]? =some o)(d:sn ops S)(f:S j=false)(r:∀e∈o.after,Region.binds .any e=true->S e.on=true):Rdy ops S j:=by
 have p:sn ops (λi=>S i||i==j):=λi t l g e k b=>by
  by_cases c:i=j
  .subst c
   obtain rfl:=av_ (q.symm.trans l);simp[r e k b]
  .have:S i=true:=by simpa[c]using g
   simp[d i t l this e k b]
 refine⟨f,λi b c=>?_,λi g=>?_,λi s m n=>fL d s i n m⟩
 .have:=fL p j i b d5
  simpa[c]using this
 .cases h:eF ops i j with
  |false=>rfl
  |true=>rw[fL d i j h g]at f;cases f
def lF.free(c:M_ P Dk w0 ops ts hs ns)(g:lF P Dk w0 ops ts hs ns ρ0 a0 ws S ρ C a w)(f:Rdy ops S j)(t:j<ops.length):∀k,ns j<=k->k<ns (j+1)->ρ k=none:=λk m n=>by
 cases l:ρ k with
 |none=>rfl
 |some p=>
  exfalso;rcases g.own k (by rw[l];simp)with h|⟨i,s,d,q,r⟩
  .have:=c.le (awy j) bv
   omega
  .rcases axH i j with e|e|e
   .have:=c.le (a:=i+1) (b:=j) bv bv
    omega
   .subst e;rw[f.no]at d;cases d
   .have:=c.le (a:=j+1) (b:=i) bv bv
    omega
def lF.asR(t:TX ops)(s:M_ P Dk w0 ops ts hs ns)(D:lF P Dk w0 ops ts hs ns ρ0 a0 ws S ρ C a w)(z:Rdy ops S j)(E:ops[j]? =some o):o8 (Nm.cut ρ (ns j)) ((ts j).res (o9 ops o)) a:=by
 have O:=(av7.1 E).1;intro x c n;rw[Tr.pI]at n;have A:o9 ops o x=true:=by
  cases h:o9 ops o x with
  |true=>rfl
  |false=>rw[h]at n;cases n
 rw[av3 A]at n;have M:∀(i:Nat) p,ops[i]? =some p->p.dst=some x->i=j\/qU ops i j=true:=λi p q r=>by
  unfold o9 at A;rw[aw2]at A;rcases A with h|h
  .exact t.see i j p o x q E (aAG.1 h) r
  .split at h
   next g K=>obtain⟨b,f,k⟩:=ayp.1 (by simpa using h:rP ops g.1=some x);have J:=t.gd j o g E K;obtain rfl:i=g.1:=iv t.inj i g.1 p b x q f r k;exact .inr (by simp[qU,J.1])
   .cases h
 by_cases B:∃(i:Nat) (p:Oper),ops[i]? =some p/\p.dst=some x
 .obtain⟨i,p,q,r⟩:=B
  have N:=(av7.1 q).1;have G:∀d b,ops[d]? =some b->b.dst=some x->d=i:=λd b f k=>iv t.inj d i b p x f q k r;have F:S i=false->j<=i->∃u,a.tmps[x]? =some u/\KR (Nm.cut ρ (ns j)) c u:=λy L=>by
   rw[s.yB (awy j) bv λd f k b l m=>by have:=G d b l m;omega]at n;obtain⟨v,f,k⟩:=D.t0 x c (λd b l m=>by rw[G d b l m];exact y) n;exact⟨v,f,k.mono (Nm.Pk ρ (s.le (awy j) bv))⟩
  rcases M i p q r with e|e
  .subst e;exact F z.no (av5 _)
  .simp only[qU,aw2]at e
   by_cases H:i=j
   .subst H;exact F z.no (av5 _)
   rcases e with e|e
   .have y:=z.ah i e H
    have L:=t.le e;have I:(ts ops.length).get x=some c:=by
     rw[s.yB (a:=j) bv (av5 _) λd f k b l m=>by have:=G d b l m;omega];exact n
    obtain⟨v,f,k⟩:=D.t1 i p x c q r y I;exact⟨v,f,k.mono (Nm.Pk ρ (s.le bv bv))⟩
   .have y:S i=false:=by
     cases h:S i with
     |false=>rfl
     |true=>rw[z.be i h]at e;cases e
    exact F y (t.le e)
 .rw[s.yB (awy j) bv λd f k b l m=>B ⟨d,b,l,m⟩]at n
  obtain⟨v,f,k⟩:=D.t0 x c (λd b l m=>absurd ⟨d,b,l,m⟩ B) n;exact⟨v,f,k.mono (Nm.Pk ρ (s.le (awy j) bv))⟩
def lF.next(z:TX ops)(I:M_ P Dk w0 ops ts hs ns)(t:lF P Dk w0 ops ts hs ns ρ0 a0 ws S ρ C a w)(U:Rdy ops S j)(h:ops[j]? =some o)(Y:GC o.dst e (ts j) (ts (j+1))){D:AJ}
 (G:EN ρ y) (hv:KR (Nm.cut y (ns (j+1))) e N) (L:∀d∈D,Dk d)
 (kp:KP P w0 ρ0 (hs 0).get (ns 0) ws y Q (ns ops.length) M)
 (W:∀k x,(k<ns 0\/y k≠none)->Gd ops ns (λi=>S i||i==j) k x->Q k=(hs x).get k)
 (R:∀k x c,y k≠none->Gd ops ns (λi=>S i||i==j) k x->(hs x).get k=some c->Kq P (ns x) c)
 (a2:∀x,x<=ops.length->(∀i,i<x->zn ops i->(S i||i==j)=true)->∀k,ns x<=k->(hs x).get k=none)
 (own:∀k,y k≠none->k<ns 0\/∃i,i<ops.length/\(S i||i==j)=true/\ns i<=k/\k<ns (i+1)):
 lF P Dk w0 ops ts hs ns ρ0 a0 ws (λi=>S i||i==j) y Q (({a with defers:=D++a.defers}:Act).put o.dst N) M:=by
 have a3:=(av7.1 h).1;have J:∀{x},o.dst≠some x->(({a with defers:=D++a.defers}:Act).put o.dst N).tmps[x]? =a.tmps[x]? :=λ{x} v=>by
  cases V:o.dst with
  |none=>rfl
  |some d=>
   rw[V]at v;simp only[Act.put];rw[azj (λb=>v (by rw[b]))]
 refine⟨kp,λi p x A E l Z q=>?_,λx A H q=>?_,W,R,a2,own,t.df.trans ⟨D,L,by rw[put_defers]⟩⟩
 .by_cases B:i=j
  .subst B
   obtain rfl:=av_ (h.symm.trans E);obtain⟨⟨K,F⟩,O⟩:=Y.2 x l;rw[I.yB (a:=i+1) bv (av5 _) λr m n s f g=>by have:=iv z.inj r i s o x f h g l;omega,O x,av3 rfl]at q;cases q;rw[I.yB (a:=0) (awy _) bv λr m n s f g=>by have:=iv z.inj r i s o x f h g l;omega]at F;obtain⟨u,hu,_⟩:=t.t0 x K (λr s f g=>by rw[iv z.inj r i s o x f h g l];exact U.no) F;have X:=(awS.1 hu).1;exact⟨N,by rw[l];simp[Act.put,X],hv⟩
  .have a1:S i=true:=by simpa[B]using Z
   rw[J λb=>B (iv z.inj i j p o x E h l b)];obtain⟨u,m,n⟩:=t.t1 i p x A E l a1 q;exact⟨u,m,n.mono (G.cut _)⟩
 .have v:o.dst≠some x:=λb=>by have:=H j o h b;simp at this
  rw[J v];obtain⟨u,m,n⟩:=t.t0 x A (λi p f g=>by have:=H i p f g;simp at this;exact this.1) q;exact⟨u,m,n.mono (G.cut _)⟩
