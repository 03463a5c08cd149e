/- WholeRefused holds as it is stated, at every input. No condition. -/
import Derived.Test.YtpndmjnaljjbaaaGreatDoorZWholeRefused28
set_option linter.all false
noncomputable section
open Go Go.RowKit
set_option maxRecDepth 100000
section
namespace Go.Proofs.YtpndmjnaljjbaaaGreatDoor.lawWholeRefused
open Go Go.ChangeShapes Go.WideShapes Go.ChangeAt Go.RowKit
theorem own:ownKnob Tryz.prog.godebug=none:=ci
theorem auE:laidOutB Tryz.prog=true:=ci
theorem auF:∀t∈Tryz.f3.params.toList,Tryz.prog.readableRec t=true/\t<Tryz.prog.types.size:=by
 intro t a;rw[aA7]at a;simp at a;rcases a with rfl|rfl|rfl
 all_goals exact⟨by kernel_rfl,ayh ci⟩
theorem auG:tyC Tryz.prog 9 26 (.pr (.pr (.i .i64) (.sl (.pr (.i .i64) (.pr (.i .i64) (.pr (.i .i64) (.b)))))) (.pr (.i .i64) (.i .i64)))=true:=ci
theorem auH:tyC Tryz.prog 9 30 (.pr (.i .i64) (.pr (.sl (.pr (.i .i64) (.i .i64))) (.sl (.pr (.i .i64) (.pr (.i .i64) (.i .i64))))))=true:=ci
theorem auI:tyC Tryz.prog 9 35 (.pr (.i .i64) (.pr (.i .i64) (.pr (.i .i64) (.pr (.i .i64) (.sl (.pr (.i .i64) (.i .i64)))))))=true:=ci
theorem awo:W4 Tryz.prog 26=true:=ci
theorem awp:W4 Tryz.prog 30=true:=ci
theorem awq:W4 Tryz.prog 35=true:=ci
theorem res N:(jL.c N).el true EV (λe _=>some e)=some (.sc .b true):=ci
set_option maxRecDepth 100000 in
theorem alg(H:Type)(enc:EQ×Id->H)(W:GE)(F:Nat)(a:ea)(i gs:Do (DataW H))(G:Do MemPlace)
 (d:∀(j:Nat) t v,Tryz.f3.params[j]? =some t->a[j]? =some v->Value.okWide Tryz.prog W .any F t v)
 (x:DataW.Whole enc Tryz.prog Tryz.f3.params.toList Rows.wholeRefusedSpec.vars false W a.toList i gs G) (L:laidMetH Tryz.prog Rows.wholeRefusedRow.laid W)
 (Q:(DataW.weightsEach Tryz.prog (Tryz.f3.params.toList++(OpenSpec.ofChange Rows.wholeRefusedSpec).bare.plain.varTypes Tryz.prog) (i++gs)).all (·<=reachBytes)=true):
 Calls Tryz.prog 3 a W λe B=>∃v,e=.returned v/\Rows.wholeRefusedSpec.post enc Tryz.prog Tryz.f3 false true false false W a v B:=by
 have y:=x;obtain⟨p,q,w,M,rfl,a7,a8⟩:=x;have u:DataW.TrodAll enc Tryz.prog W 0 (λ_=>true) true Tryz.f3.params.toList a.toList i p:=w;have P:=d;rw[aA7]at u d;obtain⟨m,a9,Y,a3,p0,q0,a6,rfl,rfl,I,R⟩:=aBZ u;obtain⟨o,aa,Z,a4,p1,q1,rfl,rfl,rfl,J,S⟩:=aBZ R;obtain⟨r,ab,d2,a5,p2,q2,rfl,rfl,rfl,K,U⟩:=aBZ S;obtain⟨rfl,rfl,rfl⟩:=trodAll_nil U;obtain rfl:a= #[m,o,r]:=by cases a;simp_all
 obtain⟨rfl,rfl⟩:=trodVars_none M;refine agV auE rfl auF rfl Tryz.underlying4 y rfl ?_;clear y w P;have f:=Q;rw[aA7]at f;obtain⟨g,f0,z,C,b0⟩:=EE auG (d 0 26 m rfl rfl) I;replace z:=z λn c=>ayh (axO.1 f n (aB0 (j:=0) rfl rfl n c));obtain⟨s,f1,h,D,V⟩:=EE auH (d 1 30 o rfl rfl) J;replace h:=h λn c=>ayh (axO.1 f n (aB0 (j:=1) rfl rfl n c));obtain⟨b,f2,A,E,X⟩:=EE auI (d 2 35 r rfl rfl) K;replace A:=A λn c=>ayh (axO.1 f n (aB0 (j:=2) rfl rfl n c));obtain⟨N,hN⟩:∃N,Fu+100<=N:=⟨_,axp _⟩;have O:gU N (g.1.1,g.1.2,g.2.1,g.2.2,s.1,s.2.1,s.2.2,b.1,b.2.1,b.2.2.1,b.2.2.2.1,b.2.2.2.2)=some true:=Hw bv _ _ _ _ _ _ _ b h.2.1.1 h.2.2.1;have k:=jL.ok N;have l:=res N;unfold jL cF at k l;dsimp only at k l;refine OZ k O (O0 L) (vs:=[m,o,r]) ?_ l rfl
 .exact LR.cons (C awo) (LR.cons (D awp) (LR.cons (E awq) (LR.nil)))
theorem alh(a:Os):laidMet Tryz.prog Rows.wholeRefusedRow.laid ((EF a).forCall (λ_ _=>0) ⟨#[], #[.agg #[.int .i64 0,.slice none 0 0,.int .i64 0,.int .i64 0],.agg #[.int .i64 0,.slice none 0 0,.slice none 0 0],.agg #[.int .i64 0,.int .i64 0,.int .i64 0,.int .i64 0,.slice none 0 0]],[]⟩).memory:=
 laidMet_of_run' 8 ci ci
theorem reads(a:Os){H:Type}(enc:EQ×Id->H):∃b,DataW.whole enc Tryz.prog ((EF a).forCall (λ_ _=>0) ⟨#[], #[.agg #[.int .i64 0,.slice none 0 0,.int .i64 0,.int .i64 0],.agg #[.int .i64 0,.slice none 0 0,.slice none 0 0],.agg #[.int .i64 0,.int .i64 0,.int .i64 0,.int .i64 0,.slice none 0 0]],[]⟩).memory Tryz.f3.params.toList Rows.wholeRefusedSpec.vars false (#[.agg #[.int .i64 0,.slice none 0 0,.int .i64 0,.int .i64 0],.agg #[.int .i64 0,.slice none 0 0,.slice none 0 0],.agg #[.int .i64 0,.int .i64 0,.int .i64 0,.int .i64 0,.slice none 0 0]]:ea).toList 8=some ([.agg [.agg [.lit (.int .i64 0),.nil],.lit (.int .i64 0),.lit (.int .i64 0)],.agg [.lit (.int .i64 0),.nil,.nil],.agg [.lit (.int .i64 0),.lit (.int .i64 0),.agg [.lit (.int .i64 0),.lit (.int .i64 0),.nil]]],[],b):=
 ⟨[],by kernel_rfl⟩
set_option maxRecDepth 100000 in
theorem lifted(a:Os)(m:a.Started)(H:Type)(enc:EQ×Id->H)(F:Stop.Interp):
 ReturnsInHanded {} Tryz.checked a 3 .any ((OpenSpec.ofChange Rows.wholeRefusedSpec).preRow enc Tryz.prog Tryz.f3 Rows.wholeRefusedRow.domain false Rows.wholeRefusedRow.laid) (((OpenSpec.ofChange Rows.wholeRefusedSpec).at F).post enc Tryz.prog Tryz.f3 false true false false):=by
 obtain⟨o,j⟩:=reads a enc;refine returnsInHanded_of_row (C:=Tryz.checked) (s:=(OpenSpec.ofChange Rows.wholeRefusedSpec)) own m ci aA6
  (witness_row_at (enc:=enc) (C:=Tryz.checked) false (EF a) #[.agg #[.int .i64 0,.slice none 0 0,.int .i64 0,.int .i64 0],.agg #[.int .i64 0,.slice none 0 0,.slice none 0 0],.agg #[.int .i64 0,.int .i64 0,.int .i64 0,.int .i64 0,.slice none 0 0]] rfl ci ci ci
   (OpenSpec.preRow_of_cond 8 j ci (λk h=>by cases h) ci (alh a))) ?_
 intro W c b e gs d i g _ n l f _ _;exact alg H enc W c b e gs d i g f l
theorem auJ:Tryz.pinned.checked.prog.funcNamed Rows.wholeRefusedRow.func=some 3:=ci
theorem awr:(Rows.wholeRefusedRow.inPlace==Tryz.pinned.checked.prog.inPlace 3)=true:=ci
theorem aws:(Rows.wholeRefusedRow.unfollowed==Tryz.pinned.checked.prog.unfollowed 3)=true:=ci
theorem awt:(Rows.wholeRefusedRow.recurses==Tryz.pinned.checked.prog.recurses 3)=true:=ci
theorem awu:(Rows.wholeRefusedRow.named==Tryz.pinned.checked.prog.varsNamed 3)=true:=ci
theorem awv:laidOutB Tryz.pinned.checked.prog=true:=auE
theorem arn:joinedFacts Tryz.pinned.checked.prog 3 Tryz.f3 (OpenSpec.ofChange Rows.wholeRefusedSpec).bare Rows.wholeRefusedRow=true:=by
 unfold joinedFacts;rw[awv,awr,aws,awt,awu]
 kernel_rfl
theorem auK:Tryz.f3.isInstance Tryz.pinned.checked.prog Rows.wholeRefusedRow.origin Rows.wholeRefusedRow.targs:=ayh ci
theorem auL:Tryz.f3.isWrapper Tryz.pinned.checked.prog Rows.wholeRefusedRow.wrapper Rows.wholeRefusedRow.mainSum:=by
 unfold Func.isWrapper
 first|(rw[axn (by decide+kernel)];kernel_rfl)|(rw[axm (by decide+kernel)];exact⟨rfl,rfl⟩)
theorem said:Rows.WholeRefusedSaid:=
 OpenClaim.holds_of_cond 3 Tryz.f3 rfl rfl rfl rfl rfl rfl rfl ⟨rfl,rfl,rfl,rfl,rfl⟩ rfl rfl rfl rfl rfl auJ aA6 arn auK auL
  (λa b H enc _ F=>by rw[OpenClaim.pre_eq_preRow];exact lifted a b H enc F)
theorem plain(f:FuncId)(a:Func)(d:Tryz.pinned.checked.prog.funcNamed Tryz.f3.name=some f)(e:Tryz.pinned.checked.prog.funcs[f]? =some a):
 true=Tryz.pinned.checked.prog.looks []/\∀(j:Nat) t,a.params[j]? =some t->Tryz.pinned.checked.prog.wantsStandIn t=false:=by
 obtain rfl:f=3:=axt ((show Tryz.prog.funcNamed Tryz.f3.name=some 3 by kernel_rfl).symm.trans d)|>.symm
 obtain rfl:a=Tryz.f3:=(axt (aA6.symm.trans e)).symm;refine⟨by kernel_rfl,λj t c=>?_⟩;rw[aA7]at c;have b:=aB6 c;simp at b;rcases b with rfl|rfl|rfl
 all_goals exact(show Tryz.prog.wantsStandIn _=false by kernel_rfl)
theorem card:Rows.WholeRefusedCardSaid:=
 Claim7.holds_tied_plain_at .later [] _ _ _ _ said (λ_ h=>by cases h) ci (λ_ h=>by cases h) wholeRefused_row_tie rfl ⟨rfl,rfl⟩ ci rfl plain ci
