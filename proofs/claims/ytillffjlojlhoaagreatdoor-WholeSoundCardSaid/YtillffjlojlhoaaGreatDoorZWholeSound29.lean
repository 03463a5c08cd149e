/- WholeSound holds as it is stated, at every input. No condition. -/
import Derived.Test.YtillffjlojlhoaaGreatDoorZWholeSound28
set_option linter.all false
noncomputable section
open Go Go.RowKit
set_option maxRecDepth 100000
section
namespace Go.Proofs.YtillffjlojlhoaaGreatDoor.lawWholeSound
open Go Go.ChangeShapes Go.WideShapes Go.ChangeAt Go.RowKit
theorem own:ownKnob Tryz.prog.godebug=none:=ci
theorem as9:laidOutB Tryz.prog=true:=ci
theorem as_:∀t∈Tryz.f3.params.toList,Tryz.prog.readableRec t=true/\t<Tryz.prog.types.size:=by
 intro t a;rw[azS]at a;simp at a;rcases a with rfl|rfl|rfl
 all_goals exact⟨by kernel_rfl,awX ci⟩
theorem ata:tyC Tryz.prog 9 5 (.i .u8)=true:=ci
theorem atb:tyC Tryz.prog 9 22 (.sl (.i .u8))=true:=ci
theorem atc:tyC Tryz.prog 9 27 (.pr (.i .i64) (.pr (.i .i64) (.pr (.i .i64) (.pr (.i .i64) (.sl (.pr (.i .i64) (.i .i64)))))))=true:=ci
theorem au5:VP Tryz.prog 5=false:=ci
theorem au6:VP Tryz.prog 22=false:=ci
theorem au7:VP Tryz.prog 27=true:=ci
theorem res N:(lZ.c N).el true EV (λe _=>some e)=some (.sc .b true):=ci
set_option maxRecDepth 100000 in
theorem ajU(H:Type)(enc:EQ×Id->H)(W:GE)(D:Nat)(a:ey)(g gs:Do (DataW H))(E:Do MemPlace)
 (d:∀(j:Nat) t v,Tryz.f3.params[j]? =some t->a[j]? =some v->Value.okWide Tryz.prog W .any D t v)
 (u:DataW.Whole enc Tryz.prog Tryz.f3.params.toList Rows.wholeSoundSpec.vars false W a.toList g gs E) (J:laidMetH Tryz.prog Rows.wholeSoundRow.laid W)
 (O:(DataW.weightsEach Tryz.prog (Tryz.f3.params.toList++(OpenSpec.ofChange Rows.wholeSoundSpec).bare.plain.varTypes Tryz.prog) (g++gs)).all (·<=reachBytes)=true):
 Calls Tryz.prog 3 a W λe A=>∃v,e=.returned v/\Rows.wholeSoundSpec.post enc Tryz.prog Tryz.f3 false true false false W a v A:=by
 have w:=u;obtain⟨p,q,s,K,rfl,a7,a8⟩:=u;have r:DataW.TrodAll enc Tryz.prog W 0 (λ_=>true) true Tryz.f3.params.toList a.toList g p:=s;have M:=d;rw[azS]at r d;obtain⟨k,a9,Z,a3,p0,q0,a6,rfl,rfl,F,P⟩:=aAI r;obtain⟨l,aa,d1,a4,p1,q1,rfl,rfl,rfl,G,Q⟩:=aAI P;obtain⟨m,ab,d2,a5,p2,q2,rfl,rfl,rfl,I,R⟩:=aAI Q;obtain⟨rfl,rfl,rfl⟩:=trodAll_nil R;obtain rfl:a= #[k,l,m]:=by cases a;simp_all
 obtain⟨rfl,rfl⟩:=trodVars_none K;refine afC as9 rfl as_ rfl Tryz.underlying4 w rfl ?_;clear w s M;have f:=O;rw[azS]at f;obtain⟨S,o,x,V,b0⟩:=Ef ata (d 0 5 k rfl rfl) F;replace x:=x λn c=>awX (awt.1 f n (aAJ (j:=0) rfl rfl n c));obtain⟨U,f1,y,X,C⟩:=Ef atb (d 1 22 l rfl rfl) G;replace y:=y λn c=>awX (awt.1 f n (aAJ (j:=1) rfl rfl n c));obtain⟨b,f2,z,B,Y⟩:=Ef atc (d 2 27 m rfl rfl) I;replace z:=z λn c=>awX (awt.1 f n (aAJ (j:=2) rfl rfl n c));obtain⟨N,hN⟩:∃N,Fu+100<=N:=⟨_,av5 _⟩;have L:js N (S,U,b.1,b.2.1,b.2.2.1,b.2.2.2.1,b.2.2.2.2)=some true:=Ld bv _ _ b (XM o).1 (XM o).2;have h:=lZ.ok N;have i:=res N;unfold lZ cF at h i;dsimp only at h i;refine NR h L (NS J) (vs:=[k,l,m]) ?_ i rfl
 .exact LR.cons (b0 au5) (LR.cons (C au6) (LR.cons (B au7) (LR.nil)))
theorem ajV(a:Os):laidMet Tryz.prog Rows.wholeSoundRow.laid ((Eg a).forCall (λ_ _=>0) ⟨#[], #[.int .u8 0,.slice none 0 0,.agg #[.int .i64 0,.int .i64 0,.int .i64 0,.int .i64 0,.slice none 0 0]],[]⟩).memory:=
 laidMet_of_run' 8 ci ci
theorem reads(a:Os){H:Type}(enc:EQ×Id->H):∃b,DataW.whole enc Tryz.prog ((Eg a).forCall (λ_ _=>0) ⟨#[], #[.int .u8 0,.slice none 0 0,.agg #[.int .i64 0,.int .i64 0,.int .i64 0,.int .i64 0,.slice none 0 0]],[]⟩).memory Tryz.f3.params.toList Rows.wholeSoundSpec.vars false (#[.int .u8 0,.slice none 0 0,.agg #[.int .i64 0,.int .i64 0,.int .i64 0,.int .i64 0,.slice none 0 0]]:ey).toList 8=some ([.lit (.int .u8 0),.nil,.agg [.lit (.int .i64 0),.lit (.int .i64 0),.agg [.lit (.int .i64 0),.lit (.int .i64 0),.nil]]],[],b):=
 ⟨[],by kernel_rfl⟩
set_option maxRecDepth 100000 in
theorem lifted(a:Os)(m:a.Started)(H:Type)(enc:EQ×Id->H)(F:Stop.Interp):
 ReturnsInHanded {} Tryz.checked a 3 .any ((OpenSpec.ofChange Rows.wholeSoundSpec).preRow enc Tryz.prog Tryz.f3 Rows.wholeSoundRow.domain false Rows.wholeSoundRow.laid) (((OpenSpec.ofChange Rows.wholeSoundSpec).at F).post enc Tryz.prog Tryz.f3 false true false false):=by
 obtain⟨o,j⟩:=reads a enc;refine returnsInHanded_of_row (C:=Tryz.checked) (s:=(OpenSpec.ofChange Rows.wholeSoundSpec)) own m ci azR
  (witness_row_at (enc:=enc) (C:=Tryz.checked) false (Eg a) #[.int .u8 0,.slice none 0 0,.agg #[.int .i64 0,.int .i64 0,.int .i64 0,.int .i64 0,.slice none 0 0]] rfl ci ci ci
   (OpenSpec.preRow_of_cond 8 j ci (λk h=>by cases h) ci (ajV a))) ?_
 intro W c b e gs d i g _ n l f _ _;exact ajU H enc W c b e gs d i g f l
theorem atd:Tryz.pinned.checked.prog.funcNamed Rows.wholeSoundRow.func=some 3:=ci
theorem au8:(Rows.wholeSoundRow.inPlace==Tryz.pinned.checked.prog.inPlace 3)=true:=ci
theorem au9:(Rows.wholeSoundRow.unfollowed==Tryz.pinned.checked.prog.unfollowed 3)=true:=ci
theorem au_:(Rows.wholeSoundRow.recurses==Tryz.pinned.checked.prog.recurses 3)=true:=ci
theorem ava:(Rows.wholeSoundRow.named==Tryz.pinned.checked.prog.varsNamed 3)=true:=ci
theorem avb:laidOutB Tryz.pinned.checked.prog=true:=as9
theorem apU:joinedFacts Tryz.pinned.checked.prog 3 Tryz.f3 (OpenSpec.ofChange Rows.wholeSoundSpec).bare Rows.wholeSoundRow=true:=by
 unfold joinedFacts;rw[avb,au8,au9,au_,ava]
 kernel_rfl
theorem ate:Tryz.f3.isInstance Tryz.pinned.checked.prog Rows.wholeSoundRow.origin Rows.wholeSoundRow.targs:=awX ci
theorem atf:Tryz.f3.isWrapper Tryz.pinned.checked.prog Rows.wholeSoundRow.wrapper Rows.wholeSoundRow.mainSum:=by
 unfold Func.isWrapper
 first|(rw[av3 (by decide+kernel)];kernel_rfl)|(rw[av2 (by decide+kernel)];exact⟨rfl,rfl⟩)
theorem said:Rows.WholeSoundSaid:=
 OpenClaim.holds_of_cond 3 Tryz.f3 rfl rfl rfl rfl rfl rfl rfl ⟨rfl,rfl,rfl,rfl,rfl⟩ rfl rfl rfl rfl rfl atd azR apU ate atf
  (λa b H enc _ F=>by rw[OpenClaim.pre_eq_preRow];exact lifted a b H enc F)
theorem plain(f:FuncId)(a:Func)(d:Tryz.pinned.checked.prog.funcNamed Tryz.f3.name=some f)(e:Tryz.pinned.checked.prog.funcs[f]? =some a):
 true=Tryz.pinned.checked.prog.looks []/\∀(j:Nat) t,a.params[j]? =some t->Tryz.pinned.checked.prog.wantsStandIn t=false:=by
 obtain rfl:f=3:=av_ ((show Tryz.prog.funcNamed Tryz.f3.name=some 3 by kernel_rfl).symm.trans d)|>.symm
 obtain rfl:a=Tryz.f3:=(av_ (azR.symm.trans e)).symm;refine⟨by kernel_rfl,λj t c=>?_⟩;rw[azS]at c;have b:=aAP c;simp at b;rcases b with rfl|rfl|rfl
 all_goals exact(show Tryz.prog.wantsStandIn _=false by kernel_rfl)
theorem card:Rows.WholeSoundCardSaid:=
 Claim7.holds_tied_plain_at .later [] _ _ _ _ said (λ_ h=>by cases h) ci (λ_ h=>by cases h) wholeSound_row_tie rfl ⟨rfl,rfl⟩ ci rfl plain ci
