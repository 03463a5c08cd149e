/- WholeNothing holds as it is stated, at every input. No condition. -/
import Derived.Test.YtmdbmigbihboaaaGreatDoorZWholeNothing28
set_option linter.all false
noncomputable section
open Go Go.RowKit
set_option maxRecDepth 100000
section
namespace Go.Proofs.YtmdbmigbihboaaaGreatDoor.lawWholeNothing
open Go Go.ChangeShapes Go.WideShapes Go.ChangeAt Go.RowKit
theorem own:ownKnob Tryz.prog.godebug=none:=by kernel_rfl
theorem ao3:laidOutB Tryz.prog=true:=by kernel_rfl
theorem anl:∀t∈Tryz.f3.params.toList,Tryz.prog.readableRec t=true/\t<Tryz.prog.types.size:=by
 intro t a;rw[atG]at a;simp at a;rcases a with rfl|rfl|rfl
 all_goals exact⟨by kernel_rfl,aqK (by kernel_rfl)⟩
theorem anm:Y5 Tryz.prog 9 26 (.pr (.pr (.i .i64) (.sl (.pr (.i .i64) (.pr (.i .i64) (.pr (.i .i64) (.b)))))) (.pr (.i .i64) (.i .i64)))=true:=by kernel_rfl
theorem ann:Y5 Tryz.prog 9 30 (.pr (.i .i64) (.pr (.sl (.pr (.i .i64) (.i .i64))) (.sl (.pr (.i .i64) (.pr (.i .i64) (.i .i64))))))=true:=by kernel_rfl
theorem ano:Y5 Tryz.prog 9 5 (.i .u8)=true:=by kernel_rfl
theorem ao4:Qm Tryz.prog 26=true:=by kernel_rfl
theorem ao5:Qm Tryz.prog 30=true:=by kernel_rfl
theorem ao6:Qm Tryz.prog 5=false:=by kernel_rfl
theorem res N:(iW N).el true EV (λe _=>some e)=some (.sc .b true):=by kernel_rfl
set_option maxRecDepth 100000 in
theorem aeL(H:Type)(enc:TypeId×Value->H)(W:World)(F:Nat)(a:eb)(h gs:List (DataW H))(G:List MemPlace)
 (c:∀(j:Nat) t v,Tryz.f3.params[j]? =some t->a[j]? =some v->Value.okWide Tryz.prog W .any F t v)
 (u:DataW.Whole enc Tryz.prog Tryz.f3.params.toList Rows.wholeNothingSpec.vars false W a.toList h gs G) (L:laidMetH Tryz.prog Rows.wholeNothingRow.laid W)
 (Q:(DataW.weightsEach Tryz.prog (Tryz.f3.params.toList++(OpenSpec.ofChange Rows.wholeNothingSpec).bare.plain.varTypes Tryz.prog) (h++gs)).all (·<=reachBytes)=true):
 Calls Tryz.prog 3 a W λe B=>∃v,e=.returned v/\Rows.wholeNothingSpec.post enc Tryz.prog Tryz.f3 false true false false W a v B:=by
 have w:=u;obtain⟨p,q,s,M,rfl,a7,a8⟩:=u;have r:DataW.TrodAll enc Tryz.prog W 0 (λ_=>true) true Tryz.f3.params.toList a.toList h p:=s;have P:=c;rw[atG]at r c;obtain⟨i,a9,Z,a3,p0,q0,a6,rfl,rfl,I,R⟩:=auC r;obtain⟨k,aa,d1,a4,p1,q1,rfl,rfl,rfl,J,S⟩:=auC R;obtain⟨l,ab,d2,a5,p2,q2,rfl,rfl,rfl,K,U⟩:=auC S;obtain⟨rfl,rfl,rfl⟩:=trodAll_nil U;obtain rfl:a= #[i,k,l]:=by cases a;simp_all
 obtain⟨rfl,rfl⟩:=trodVars_none M;refine aaw ao3 rfl anl rfl Tryz.underlying4 w rfl ?_;clear w s P;have d:=Q;rw[atG]at d;obtain⟨f,f0,z,C,b0⟩:=zy anm (c 0 26 i rfl rfl) I;replace z:=z λn b=>aqK (aqg.1 d n (auD (j:=0) rfl rfl n b));obtain⟨m,f1,g,D,Y⟩:=zy ann (c 1 30 k rfl rfl) J;replace g:=g λn b=>aqK (aqg.1 d n (auD (j:=1) rfl rfl n b));obtain⟨V,o,A,X,E⟩:=zy ano (c 2 5 l rfl rfl) K;replace A:=A λn b=>aqK (aqg.1 d n (auD (j:=2) rfl rfl n b));obtain⟨N,hN⟩:∃N,Fu+100<=N:=⟨_,apT _⟩;have O:fq N (f.1.1,f.1.2,f.2.1,f.2.2,m.1,m.2.1,m.2.2,V)=some true:=BM (by omega) _ _ _ _ _ _ _ _ g.2.1.1 g.2.2.1 (Ss o).1 (Ss o).2;have x:=qO N;have y:=res N;unfold iW at x y;refine IJ x O (IK L) (vs:=[i,k,l]) ?_ y rfl
 ·exact LR.cons (C ao4) (LR.cons (D ao5) (LR.cons (E ao6) (LR.nil)))
theorem aeM(a:Os):laidMet Tryz.prog Rows.wholeNothingRow.laid ((zA a).forCall (λ_ _=>0) ⟨#[], #[.agg #[.int .i64 0,.slice none 0 0,.int .i64 0,.int .i64 0],.agg #[.int .i64 0,.slice none 0 0,.slice none 0 0],.int .u8 0],[]⟩).memory:=
 laidMet_of_run' 8 (by kernel_rfl) (by kernel_rfl)
theorem reads(a:Os){H:Type}(enc:TypeId×Value->H):∃b,DataW.whole enc Tryz.prog ((zA a).forCall (λ_ _=>0) ⟨#[], #[.agg #[.int .i64 0,.slice none 0 0,.int .i64 0,.int .i64 0],.agg #[.int .i64 0,.slice none 0 0,.slice none 0 0],.int .u8 0],[]⟩).memory Tryz.f3.params.toList Rows.wholeNothingSpec.vars false (#[.agg #[.int .i64 0,.slice none 0 0,.int .i64 0,.int .i64 0],.agg #[.int .i64 0,.slice none 0 0,.slice none 0 0],.int .u8 0]:eb).toList 8=some ([.agg [.agg [.lit (.int .i64 0),.nil],.lit (.int .i64 0),.lit (.int .i64 0)],.agg [.lit (.int .i64 0),.nil,.nil],.lit (.int .u8 0)],[],b):=
 ⟨[],by kernel_rfl⟩
set_option maxRecDepth 100000 in
theorem lifted(a:Os)(m:a.Started)(H:Type)(enc:TypeId×Value->H)(F:Stop.Interp):
 ReturnsInHanded {} Tryz.checked a 3 .any ((OpenSpec.ofChange Rows.wholeNothingSpec).preRow enc Tryz.prog Tryz.f3 Rows.wholeNothingRow.domain false Rows.wholeNothingRow.laid) (((OpenSpec.ofChange Rows.wholeNothingSpec).at F).post enc Tryz.prog Tryz.f3 false true false false):=by
 obtain⟨o,j⟩:=reads a enc;refine returnsInHanded_of_row (C:=Tryz.checked) (s:=(OpenSpec.ofChange Rows.wholeNothingSpec)) own m (by kernel_rfl) atF
  (witness_row_at (enc:=enc) (C:=Tryz.checked) false (zA a) #[.agg #[.int .i64 0,.slice none 0 0,.int .i64 0,.int .i64 0],.agg #[.int .i64 0,.slice none 0 0,.slice none 0 0],.int .u8 0] rfl (by kernel_rfl) (by kernel_rfl) (by kernel_rfl)
   (OpenSpec.preRow_of_cond 8 j (by kernel_rfl) (λk h=>by cases h) (by kernel_rfl) (aeM a))) ?_
 intro W c b e gs d i g _ n l f _ _;exact aeL H enc W c b e gs d i g f l
theorem anp:Tryz.pinned.checked.prog.funcNamed Rows.wholeNothingRow.func=some 3:=by kernel_rfl
theorem aki:joinedFacts Tryz.pinned.checked.prog 3 Tryz.f3 (OpenSpec.ofChange Rows.wholeNothingSpec).bare Rows.wholeNothingRow=true:=by kernel_rfl
theorem anq:Tryz.f3.isInstance Tryz.pinned.checked.prog Rows.wholeNothingRow.origin Rows.wholeNothingRow.targs:=aqK (by kernel_rfl)
theorem anr:Tryz.f3.isWrapper Tryz.pinned.checked.prog Rows.wholeNothingRow.wrapper Rows.wholeNothingRow.mainSum:=by
 unfold Func.isWrapper
 first|(rw[apR (by decide+kernel)];kernel_rfl)|(rw[apQ (by decide+kernel)];exact⟨rfl,rfl⟩)
theorem said:Rows.WholeNothingSaid:=
 OpenClaim.holds_of_cond 3 Tryz.f3 rfl rfl rfl rfl rfl rfl rfl ⟨rfl,rfl,rfl,rfl,rfl⟩ rfl rfl rfl rfl rfl anp atF aki anq anr
  (λa b H enc _ F=>by rw[OpenClaim.pre_eq_preRow];exact lifted a b H enc F)
theorem plain(f:FuncId)(a:Func)(d:Tryz.pinned.checked.prog.funcNamed Tryz.f3.name=some f)(e:Tryz.pinned.checked.prog.funcs[f]? =some a):
 true=Tryz.pinned.checked.prog.looks []/\∀(j:Nat) t,a.params[j]? =some t->Tryz.pinned.checked.prog.wantsStandIn t=false:=by
 obtain rfl:f=3:=apZ ((show Tryz.prog.funcNamed Tryz.f3.name=some 3 by kernel_rfl).symm.trans d)|>.symm
 obtain rfl:a=Tryz.f3:=(apZ (atF.symm.trans e)).symm;refine⟨by kernel_rfl,λj t c=>?_⟩;rw[atG]at c;have b:=auJ c;simp at b;rcases b with rfl|rfl|rfl
 all_goals exact(show Tryz.prog.wantsStandIn _=false by kernel_rfl)
theorem card:Rows.WholeNothingCardSaid:=
 Claim7.holds_tied_plain_at .later [] _ _ _ _ said (λ_ h=>by cases h) (by kernel_rfl) (λ_ h=>by cases h) wholeNothing_row_tie rfl ⟨rfl,rfl⟩ (by kernel_rfl) rfl plain (by kernel_rfl)
