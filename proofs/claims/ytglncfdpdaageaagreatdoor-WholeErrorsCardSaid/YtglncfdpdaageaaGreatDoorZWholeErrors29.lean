/- WholeErrors holds as it is stated, at every input. No condition. -/
import Derived.Test.YtglncfdpdaageaaGreatDoorZWholeErrors28
set_option linter.all false
noncomputable section
open Go Go.RowKit
set_option maxRecDepth 100000
section
namespace Go.Proofs.YtglncfdpdaageaaGreatDoor.lawWholeErrors
open Go Go.ChangeShapes Go.WideShapes Go.ChangeAt Go.RowKit
theorem own:ownKnob Tryz.prog.godebug=none:=ci
theorem ati:laidOutB Tryz.prog=true:=ci
theorem ard:∀t∈Tryz.f3.params.toList,Tryz.prog.readableRec t=true/\t<Tryz.prog.types.size:=by
 intro t a;rw[aya]at a;simp at a;rcases a with rfl|rfl
 all_goals exact⟨by kernel_rfl,avo ci⟩
theorem are:tyC Tryz.prog 9 5 (.i .u8)=true:=ci
theorem arf:tyC Tryz.prog 9 22 (.sl (.i .u8))=true:=ci
theorem atj:Zl Tryz.prog 5=false:=ci
theorem atk:Zl Tryz.prog 22=false:=ci
theorem res N:(ke.c N).el true EV (λe _=>some e)=some (.sc .b true):=ci
set_option maxRecDepth 100000 in
theorem ahu(H:Type)(enc:EQ×Id->H)(W:GE)(z:Nat)(a:dU)(c gs:Do (DataW H))(A:Do MemPlace)
 (b:∀(j:Nat) t v,Tryz.f3.params[j]? =some t->a[j]? =some v->Value.okWide Tryz.prog W .any z t v)
 (r:DataW.Whole enc Tryz.prog Tryz.f3.params.toList Rows.wholeErrorsSpec.vars false W a.toList c gs A) (D:laidMetH Tryz.prog Rows.wholeErrorsRow.laid W)
 (I:(DataW.weightsEach Tryz.prog (Tryz.f3.params.toList++(OpenSpec.ofChange Rows.wholeErrorsSpec).bare.plain.varTypes Tryz.prog) (c++gs)).all (·<=reachBytes)=true):
 Calls Tryz.prog 3 a W λe x=>∃v,e=.returned v/\Rows.wholeErrorsSpec.post enc Tryz.prog Tryz.f3 false true false false W a v x:=by
 have s:=r;obtain⟨p,q,o,E,rfl,Z,a2⟩:=r;have m:DataW.TrodAll enc Tryz.prog W 0 (λ_=>true) true Tryz.f3.params.toList a.toList c p:=o;have G:=b;rw[aya]at m b;obtain⟨i,a3,Q,S,p0,q0,Y,rfl,rfl,B,J⟩:=trodAll_cons m;obtain⟨k,a4,R,U,p1,q1,rfl,rfl,rfl,C,K⟩:=trodAll_cons J;obtain⟨rfl,rfl,rfl⟩:=trodAll_nil K;obtain rfl:a= #[i,k]:=by cases a;simp_all
 obtain⟨rfl,rfl⟩:=trodVars_none E;refine acH ati rfl ard rfl Tryz.underlying4 s rfl ?_;clear s o G;have h:=I;rw[aya]at h;obtain⟨L,l,u,O,b0⟩:=Ik are (b 0 5 i rfl rfl) B;replace u:=u λn f=>avo (auO.1 h n (azs (j:=0) rfl rfl n f));obtain⟨M,V,w,P,y⟩:=Ik arf (b 1 22 k rfl rfl) C;replace w:=w λn f=>avo (auO.1 h n (azs (j:=1) rfl rfl n f));obtain⟨N,X⟩:∃N,Fu+100<=N:=⟨_,auq _⟩;have F:hU N (L,M)=some true:=Hf bv _ _ (UG l).1 (UG l).2;have d:=ke.ok N;have g:=res N;unfold ke cF at d g;dsimp only at d g;refine Kt d F (Ku D) (vs:=[i,k]) ?_ g rfl
 ·exact LR.cons (b0 atj) (LR.cons (y atk) (LR.nil))
theorem ahv(a:Os):laidMet Tryz.prog Rows.wholeErrorsRow.laid ((AM a).forCall (λ_ _=>0) ⟨#[], #[.int .u8 0,.slice none 0 0],[]⟩).memory:=
 laidMet_of_run' 8 ci ci
theorem reads(a:Os){H:Type}(enc:EQ×Id->H):∃b,DataW.whole enc Tryz.prog ((AM a).forCall (λ_ _=>0) ⟨#[], #[.int .u8 0,.slice none 0 0],[]⟩).memory Tryz.f3.params.toList Rows.wholeErrorsSpec.vars false (#[.int .u8 0,.slice none 0 0]:dU).toList 8=some ([.lit (.int .u8 0),.nil],[],b):=
 ⟨[],by kernel_rfl⟩
set_option maxRecDepth 100000 in
theorem lifted(a:Os)(m:a.Started)(H:Type)(enc:EQ×Id->H)(F:Stop.Interp):
 ReturnsInHanded {} Tryz.checked a 3 .any ((OpenSpec.ofChange Rows.wholeErrorsSpec).preRow enc Tryz.prog Tryz.f3 Rows.wholeErrorsRow.domain false Rows.wholeErrorsRow.laid) (((OpenSpec.ofChange Rows.wholeErrorsSpec).at F).post enc Tryz.prog Tryz.f3 false true false false):=by
 obtain⟨o,j⟩:=reads a enc;refine returnsInHanded_of_row (C:=Tryz.checked) (s:=(OpenSpec.ofChange Rows.wholeErrorsSpec)) own m ci ax_
  (witness_row_at (enc:=enc) (C:=Tryz.checked) false (AM a) #[.int .u8 0,.slice none 0 0] rfl ci ci ci
   (OpenSpec.preRow_of_cond 8 j ci (λk h=>by cases h) ci (ahv a))) ?_
 intro W c b e gs d i g _ n l f _ _;exact ahu H enc W c b e gs d i g f l
theorem arh:Tryz.pinned.checked.prog.funcNamed Rows.wholeErrorsRow.func=some 3:=ci
theorem anX:joinedFacts Tryz.pinned.checked.prog 3 Tryz.f3 (OpenSpec.ofChange Rows.wholeErrorsSpec).bare Rows.wholeErrorsRow=true:=ci
theorem ari:Tryz.f3.isInstance Tryz.pinned.checked.prog Rows.wholeErrorsRow.origin Rows.wholeErrorsRow.targs:=avo ci
theorem arj:Tryz.f3.isWrapper Tryz.pinned.checked.prog Rows.wholeErrorsRow.wrapper Rows.wholeErrorsRow.mainSum:=by
 unfold Func.isWrapper
 first|(rw[auo (by decide+kernel)];kernel_rfl)|(rw[aun (by decide+kernel)];exact⟨rfl,rfl⟩)
theorem said:Rows.WholeErrorsSaid:=
 OpenClaim.holds_of_cond 3 Tryz.f3 rfl rfl rfl rfl rfl rfl rfl ⟨rfl,rfl,rfl,rfl,rfl⟩ rfl rfl rfl rfl rfl arh ax_ anX ari arj
  (λa b H enc _ F=>by rw[OpenClaim.pre_eq_preRow];exact lifted a b H enc F)
theorem plain(f:FuncId)(a:Func)(d:Tryz.pinned.checked.prog.funcNamed Tryz.f3.name=some f)(e:Tryz.pinned.checked.prog.funcs[f]? =some a):
 true=Tryz.pinned.checked.prog.looks []/\∀(j:Nat) t,a.params[j]? =some t->Tryz.pinned.checked.prog.wantsStandIn t=false:=by
 obtain rfl:f=3:=aut ((show Tryz.prog.funcNamed Tryz.f3.name=some 3 by kernel_rfl).symm.trans d)|>.symm
 obtain rfl:a=Tryz.f3:=(aut (ax_.symm.trans e)).symm;refine⟨by kernel_rfl,λj t c=>?_⟩;rw[aya]at c;have b:=ay3 c;simp at b;rcases b with rfl|rfl
 all_goals exact(show Tryz.prog.wantsStandIn _=false by kernel_rfl)
theorem card:Rows.WholeErrorsCardSaid:=
 Claim7.holds_tied_plain_at .later [] _ _ _ _ said (λ_ h=>by cases h) ci (λ_ h=>by cases h) wholeErrors_row_tie rfl ⟨rfl,rfl⟩ ci rfl plain ci
