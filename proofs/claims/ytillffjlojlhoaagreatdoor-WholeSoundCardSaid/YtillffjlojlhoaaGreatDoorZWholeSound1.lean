/- part 1 -/
import Derived.Test.YtillffjlojlhoaaGreatDoorRows
import Derived.WalkKit
import Derived.Lib.Hide
import Derived.Deep.Draws
import Derived.Laws.CopyOwn
import Derived.WalkSmall
import Derived.MapKept
import Derived.ChangeKeysEq
import Derived.Deep.Quiet
import Derived.LoopNIn
import Derived.OrdersIn
import Derived.TacticsIn
import Derived.RangeFuncCalls
import Derived.RangeFuncRecord
import Derived.Scope
import Derived.LoopN
import Derived.Great.BuildSlice
import Derived.Laws.MakeOwn
import Derived.StillTail
import Derived.Carry
import Derived.Lib.SliceRun
import Derived.Lib.AppendZeros
import Derived.Laws.IdiomRangeMap
import Derived.RangeFuncMany
import Derived.Laws.StructEq
import Derived.KernelRfl
import Derived.ProofKit
import Derived.OpenShut
import Derived.Lib.LaidTab
import Derived.Deep.DeepHandedRow
import Derived.SizedLaws
import Derived.Test.YtillffjlojlhoaaGreatDoorCards
import Derived.Test.YtillffjlojlhoaaGreatDoorTie
import Derived.Test.YtillffjlojlhoaaGreatDoorProg
import Derived.WalkSpells
import Derived.WalkLawsBesides
import Derived.Recover
import Derived.DefersIn
import Derived.Shelf.SlSortCmp.NoneTotal
import Derived.Shelf.SortM.SortNone
import Derived.Shelf.SortM.Plain
import Derived.Lib.QuietBelow
import Derived.Shelf.Spec.SlicesGrow
import Derived.Laws.BitsLemmas
import Derived.Defers
set_option linter.all false
noncomputable section
open Go Go.RowKit
set_option maxRecDepth 100000
namespace Go.Proofs.YtillffjlojlhoaaGreatDoor
theorem f0{p:Prop}(h:p:=by simp[Op.operands]):p:=h
theorem d9{p:Prop}(h:p:=by intro f;cases f):p:=h
theorem d8{p:Prop}(h:p:=by intro e;cases e):p:=h
theorem d7{p:Prop}(h:p:=by simp;omega):p:=h
theorem d6{p:Prop}(h:p:=by decide):p:=h
theorem d5{p:Prop}(h:p:=by simp):p:=h
theorem bv{p:Prop}(h:p:=by omega):p:=h
open Go Go.RowKit
abbrev At.{u}:Type u->Type u:=Option
abbrev Do.{u}:Type u->Type u:=List
abbrev EQ:=TypeId
abbrev Fd:=Program
abbrev GE:=World
abbrev Id:=Value
abbrev If:=Operand
abbrev In:=Bool
abbrev IR:=Exit
def awu:=@decide_eq_true
def awz:=@decide_eq_false
def av5:=@Nat.le_refl
def awH:=@Nat.le_trans
def azT:=@Nat.le_succ_of_le
def ax7:=@Go.World.block_lt_of_cell?
def awS:=@Array.getElem?_eq_some_iff
def ax8:=@Bool.or_eq_false_iff
def av7:=@List.getElem?_eq_some_iff
def awf:=@List.getElem?_eq_getElem
def awY:=@List.getElem?_append_left
def axl:=@List.getElem?_append_right
def awP:=@List.getElem?_take
def axt:=@List.getElem?_drop
def aw0:=@List.getElem?_set
def awI:=@List.flatten_cons
def awl:=@List.length_append
def aws:=@List.length_cons
def awK:=@Nat.add_mul
def axb:=@List.all_cons
def av4:=@Bool.and_eq_true
def aw1:=@if_false
def ayw:=@Go.World.cell?_of_block
def axm:=@Array.getD_eq_getD_getElem?
def azU:=@Array.getElem?_setIfInBounds
def av2:=@if_neg
def ayi:=@Array.getElem?_push
def av3:=@if_pos
def av_:=@Option.some.inj
def awy:=@Nat.zero_le
def azV:=@Go.heap_setCell_other
def awh:=@congrArg
def azW:=@Go.heap_setCell_same
def ayj:=@List.mem_or_eq_of_mem_set
def ayR:=@Array.toList_setIfInBounds
def axf:=@List.length_set
def azh:=@List.take_set
def awB:=@Nat.zero_add
def aw8:=@Go.cell_of_row
def ax9:=@Nat.lt_of_lt_of_le
def azi:=@Bool.and_true
def axg:=@Bool.not_false
def awp:=@List.getElem?_map
def awC:=@Option.map_eq_some_iff
def awa:=@List.length_map
def awV:=@List.getElem_of_mem
def ayx:=@List.getElem_mem
def aww:=@Go.run_underlying
def ayS:=@Go.setRow_other
def awc:=@List.mem_append
def axM:=@List.flatten_append
def aw6:=@List.eq_nil_of_length_eq_zero
def awN:=@List.append_nil
def aw4:=@List.length_nil
def ayy:=@Nat.mul_pos
def awT:=@Go.Addr.add_lit
def ayk:=@Array.size_append
def axX:=@List.size_toArray
def axN:=@Go.size_zeroCells
def ayl:=@Array.toList_append
def ayT:=@List.take_left
def azX:=@Go.grownCap_le_maxLen
def awL:=@List.nil_append
def axu:=@Go.grownCap_ge
def azY:=@Go.run_append_nil
def aym:=@Go.run_append_grow
def ax_:=@Nat.mul_le_mul_right
def azZ:=@Go.setRow_heap
def axD:=@List.getElem?_toArray
def awx:=@List.append_assoc
def axO:=@List.length_drop
def ayn:=@Array.length_toList
def ayU:=@List.take_left'
def ayV:=@Go.growslice_fits
def awM:=@List.length_take
def awg:=@List.mem_of_getElem?
def ayz:=@Nat.zero_mul
def awW:=@List.drop_zero
def aya:=@Nat.one_mul
def az0:=@Nat.add_comm
def aAK:=@List.drop_length_add_append
def ayb:=@List.drop_drop
def ayo:=@List.take_take
def awi:=@Go.Sem.run_bind
def awk:=@Go.Result.andThen_ok
def av6:=@Option.some.injEq
def awn:=@Prod.mk.injEq
def awG:=@if_true
def awm:=@Go.Sem.run_pure
def axv:=@Nat.add_zero
def axE:=@Bool.false_eq_true
def ayW:=@Nat.add_assoc
def aAL:=@List.extract_eq_drop_take'
def ayp:=@Option.bind_eq_some_iff
def ayA:=@Go.frozen_of_row
def awt:=@List.all_eq_true
def axP:=@Array.toList_map
def az1:=@Array.toArray_toList
def axh:=@List.cons_append
def axY:=@List.any_cons
def az2:=@Bool.false_or
def awb:=@Nat.eq_of_beq_eq_true
def awD:=@Nat.beq_refl
def aw5:=@List.mem_cons_of_mem
def axi:=@Bool.not_eq_true'
def awr:=@List.mem_cons
def awe:=@List.mem_map
def awo:=@List.map_cons
def awd:=@Nat.le_of_ble_eq_true
def aw2:=@Bool.or_eq_true
def axQ:=@Option.isSome_iff_exists
def ayX:=@beq_iff_eq
def aw3:=@List.map_congr_left
def ayc:=@List.map_id
def az3:=@Go.callsIn_wide
def ayY:=@List.mem_cons_self
def az4:=@List.mem_append_left
def az5:=@List.mem_append_right
def azj:=@Array.getElem?_setIfInBounds_ne
def azk:=@Array.toList_inj
def awU:=@Array.getElem?_eq_getElem
def ayZ:=@Go.wpList_step
def azl:=@Nat.lt_succ_self
def axw:=@List.take_append_drop
def ayB:=@List.getElem?_replicate
def axZ:=@Nat.mul_le_mul_left
def azm:=@Int.toNat_of_nonneg
def awA:=@List.take_of_length_le
def ax0:=@List.mem_of_mem_take
def ayC:=@List.mem_of_mem_drop
def az6:=@Option.getD_some
def axF:=@Nat.lt_or_ge
def awZ:=@List.drop_eq_nil_of_le
def axx:=@Int.le_refl
def ax1:=@Int.natCast_mul
def av9:=@Int.toNat_natCast
def aAM:=@List.eq_of_mem_replicate
def axG:=@List.replicate_succ
def ayq:=@Nat.mod_eq_of_lt
def az7:=@Nat.mod_eq_sub_mod
def ayD:=@Nat.le_of_not_lt
def ayE:=@Nat.mod_lt
def az8:=@Go.size_madeCells
def ay0:=@List.mapM_cons
def az9:=@Go.World.putObj_heap_other
def axc:=@List.nodup_cons
def ay1:=@Nat.sub_zero
def ay2:=@Array.getElem?_append
def awO:=@List.getElem?_eq_none
def az_:=@Array.mapM_eq_mapM_toList
def ay3:=@Go.Sem.run_map
def ayr:=@List.map_toArray
def axd:=@List.map_nil
def ayF:=@List.foldlM_cons
def ayG:=@List.foldlM_nil
def axH:=@Nat.lt_trichotomy
def axR:=@List.any_eq_true
def aAN:=@List.filter_eq_nil_iff
def azn:=@List.eq_nil_iff_forall_not_mem
def ayH:=@Go.mem_ready
def azo:=@Go.getD_both
def ay4:=@List.exists_mem_of_ne_nil
def axp:=@List.mem_filter
def aAO:=@Classical.not_forall
def ay5:=@Go.getD_replicate_false
def aw9:=@Option.map_some
def axe:=@List.map_map
def aAa:=@Go.MapKept.run_checkKey
def awJ:=@decide_eq_true_eq
def ayd:=@Go.run_part_plain
def aAb:=@Go.run_equalIn_int
def azp:=@not_false_eq_true
def av8:=@cond_false
def aAP:=@Array.mem_of_getElem?
def ay6:=@List.pairwise_iff_getElem
def aAc:=@Go.MapKept.stamped_iff
def aw_:=@Go.MapKept.run_getObj_map
def axI:=@Go.MapKept.run_setObj_map
def aAd:=@Go.MapKept.stamped_modify
def ay7:=@Array.getElem_toList
def azq:=@Array.getElem_modify
def axS:=@Array.getElem?_modify
def azr:=@List.getElem?_set_ne
def ay8:=@Go.MapKept.heap_set
def aAe:=@Go.Lib.run_eql_slice_nil
def aAQ:=@Go.run_sliceAt_array_all
def ax2:=@Option.map_none
def aAR:=@Go.run_sliceAt_array_h
def aAS:=@Go.run_sliceAt_array_l
def aAT:=@Go.run_sliceAt_array_lh
def axy:=@Nat.mul_one
def awq:=@List.mem_singleton
def awQ:=@List.map_append
def axz:=@Prod.ext
def awv:=@cond_true
def ax3:=@List.map_set
def ays:=@List.map_take
def ayI:=@List.map_drop
def awX:=@of_decide_eq_true
def aAU:=@List.getElem?_set_self
def axT:=@of_decide_eq_false
def aAf:=@List.all_append
def ay9:=@List.set_cons_zero
def aAV:=@List.set_append_left
def azs:=@List.set_cons_succ
def azt:=@List.set_append_right
def ax4:=@List.set_getElem_self
def aAg:=@List.set_set
def axU:=@Iff.rfl
def aAh:=@beq_self_eq_true
def axn:=@List.singleton_append
def aye:=@List.length_singleton
def azu:=@Nat.sub_self
def aAi:=@Nat.ble_eq_true_of_le
def ax5:=@List.mem_flatten
def aAj:=@List.map_replicate
def ay_:=@List.length_replicate
def azv:=@List.contains_eq_mem
def axo:=@List.mem_flatMap
def axA:=@List.ext_getElem?
def axq:=@Array.getElem?_toList
def aAW:=@Array.findIdx?_eq_some_iff_getElem
def axj:=@Nat.min_eq_left
def axB:=@List.headD_cons
def ayJ:=@false_iff
def aAX:=@List.take_append_of_le_length
def aAk:=@Option.bind_some
def aAl:=@Bool.not_eq_false'
def axJ:=@List.getElem?_range
def aw7:=@List.cons.injEq
def axV:=@List.length_pos_iff
def axC:=@Nat.mul_le_mul
def axr:=@List.getD_eq_getElem?_getD
def aAm:=@Go.Proofs.Tryz.func107
def ax6:=@Go.wp_seq
def aAn:=@Go.calls_of_wp_defers
def axW:=@List.pairwise_cons
def azw:=@List.mergeSort_perm
def aAY:=@List.pairwise_mergeSort
def ayK:=@getElem!_pos
def ayt:=@Array.getElem?_append_left
def ayu:=@Nat.eq_zero_or_pos
def aAo:=@Nat.div_eq_of_lt
def aAp:=@Go.Proofs.AnyF.slices_SortFunc_none
def aAZ:=@List.length_eq_zero_iff
def ayL:=@List.pairwise_map
def aAq:=@List.length_mergeSort
def axk:=@decide_true
def awj:=@Bool.not_true
def azx:=@List.exists_cons_of_ne_nil
def aza:=@Go.Proofs.Tryz.func131
def azy:=@Go.Proofs.Tryz.func60
def azz:=@List.getElem?_cons_zero
def axK:=@List.getElem?_cons_succ
def aA0:=@Bool.and_eq_true_iff
def axL:=@decide_eq_decide
def awR:=@List.nodup_append
def azb:=@List.perm_append_comm
def ayM:=@List.getElem?_of_mem
def aAr:=@Nat.lt_of_le_of_lt
def ayf:=@Nat.le_total
def ayv:=@Nat.min_eq_right
def azA:=@Nat.max_eq_right
def azB:=@Nat.max_eq_left
def azc:=@List.range_succ
def axs:=@List.filter_append
def axa:=@List.filter_cons
def aAs:=@List.filter_congr
def awE:=@List.mem_range
def aA1:=@beq_eq_false_iff_ne
def azd:=@List.filter_eq_self
def azC:=@List.length_range
def ayN:=@List.forall_mem_cons
def azD:=@List.range'_succ
def aAt:=@List.range_eq_range'
def azE:=@List.getLast?_cons_cons
def aze:=@Nat.lt_irrefl
def azF:=@List.Perm.refl
def aA2:=@List.perm_cons_erase
def aAu:=@List.cons.inj
def aAv:=@List.not_mem_nil
def aA3:=@Nat.div_lt_of_lt_mul
def azG:=@Nat.le_div_iff_mul_le
def aA4:=@List.eq_nil_or_concat
def aA5:=@List.concat_eq_append
def awF:=@List.flatMap_cons
def azH:=@List.nodup_range
def azI:=@List.eraseIdx_sublist
def ayg:=@List.sum_cons
def azJ:=@List.flatMap_nil
def azK:=@List.filter_nil
def ayO:=@List.length_filter_le
def aA6:=@List.pairwise_append
def aAw:=@List.take_sublist
def azL:=@Int.fdiv_eq_ediv_of_nonneg
def aAx:=@List.getElem?_zipWith
def ayP:=@List.countP_append
def aAy:=@List.countP_singleton
def aAz:=@List.countP_pos_iff
def aA7:=@List.getElem?_eq_none_iff
def azM:=@List.flatMap_def
def aA8:=@List.nodup_iff_pairwise_ne
def aAA:=@List.perm_append_comm_assoc
def aAB:=@List.perm_middle
def ayQ:=@List.countP_le_length
def azN:=@List.flatMap_append
def aAC:=@Nat.mul_succ
def aA9:=@List.set_eq_take_append_cons_drop
def aA_:=@List.filter_sublist
def ayh:=@List.countP_cons
def aBa:=@List.countP_mono_left
def aAD:=@Nat.pow_succ
def aBb:=@Nat.div_div_eq_div_mul
def aBc:=@Classical.byContradiction
def aBd:=@List.eraseIdx_eq_take_drop_succ
def aAE:=@Go.IntKind.wrap_u32
def azO:=@List.sum_append
def azf:=@Nat.add_one_mul
def aBe:=@Nat.le_mul_of_pos_right
def aBf:=@Nat.div_mul_le_self
def aAF:=@Nat.pow_le_pow_right
def azP:=@Int.ofNat_eq_natCast
def aAG:=@List.contains_iff_mem
def azQ:=@List.mem_filterMap
def azg:=@Option.ne_none_iff_exists'
def aAH:=@Go.wp_scope_straight
def aBg:=@Nat.testBit_lt_two_pow
def azR:=@Go.Proofs.Tryz.func3
def azS:=@Go.Proofs.Tryz.params3
def aAI:=@Go.ChangeShapes.trodAll_cons
def aAJ:=@Go.DataW.weights_mem_each
abbrev Ni:=At (Int×At Nat)
abbrev bL:=Nat->Nat->Id->Prop
abbrev HK:=Do ((Int×Int)×Int)
abbrev lz:=Do (Int×Int×Int)
abbrev HL:=Array (Nat×If)
abbrev AH:=Do (Nat×If)
abbrev gg:=At (Nat×In)
abbrev mf:=At ((Do Int))
abbrev PL:=At (Nat×Nat)
abbrev KQ:=At (Int×Int)
abbrev bu:=Do (Nat×Nat)
abbrev bh:=Do (Int×Int)
abbrev bP:=Do (Do Int)
abbrev AI:=Array MapEntry
abbrev jO:=At If
abbrev AJ:=Do Deferred
abbrev gV:=Array If
abbrev eu:=At (In)
abbrev jP:=Array EQ
abbrev o_:=Do If
abbrev fi:=At (Int)
abbrev ey:=Array Id
abbrev cn:=At Nat
abbrev bI:=Do Id
abbrev jQ:=At Tmp
abbrev dY:=Array Edge
abbrev yy:=Array Oper
abbrev tW:=At Int
abbrev bq:=Do Oper
abbrev bw:=Do In
abbrev a_:=Do Nat
abbrev aX:=Do Int
abbrev wZ:=Go.IntKind.wrap .i64
def zQ:((0:Nat):Int)=0:=rfl
def sC(N k:Nat)(h:k<=N:=by omega):∃M,N=M+k:=⟨N - k,bv⟩
def nN(x:Int)(h:0<=x:=by omega):∃n:Nat,x=n:=⟨x.toNat,bv⟩
def eK{α:Type}{p:Prop} [Decidable p]{x y:α}(h:p):cond (decide p) x y=x:=by
 rw[awu h];rfl
def dF{α:Type}{p:Prop} [Decidable p]{x y:α}(h:¬p):cond (decide p) x y=y:=by
 rw[awz h];rfl
def DR{α:Type}{p:Prop} [Decidable p]{x y:α}(h:p):cond (!(decide p)) x y=y:=by
 rw[awu h];rfl
def cnF{α:Type}{p:Prop} [Decidable p]{x y:α}(h:¬p):cond (!(decide p)) x y=x:=by
 rw[awz h];rfl
variable{c:Nat}{I d:GE}
structure Ext(w w':World):Prop where
 KS:Below w.heap.size w w'
 drawn:w.drawn<=w'.drawn
def Ext.os{a b:GE}(h:Ext a b):b.os=a.os:=h.KS.os
def Ext.tape{a b:GE}(h:Ext a b):b.tape=a.tape:=h.KS.tape
def Ext.output{a b:GE}(h:Ext a b):b.output=a.output:=h.KS.output
def Ext.refl(w:GE):Ext w w:=⟨Below.refl _ _,av5 _⟩
def Ext.size{a b:GE}(h:Ext a b):a.heap.size<=b.heap.size:=Below.size h.KS
def Ext.trans{a b c:GE}(h:Ext a b)(k:Ext b c):Ext a c:=⟨Below.trans h.KS (Below.mono k.KS h.size),awH h.drawn k.drawn⟩
def Ext.drew{a w:GE}(h:Ext a w):Ext a w.drew:=⟨Below.drew h.KS,azT h.drawn⟩
def Ext.drewN(h:Ext d I)(n:Nat):Ext d (I.drewN n):=⟨⟨h.os,h.tape,h.output,h.size,h.KS.block⟩,awH h.drawn (Nat.le_add_right _ _)⟩
def Ext.alloc{a w:GE}(h:Ext a w)(o:Obj):Ext a (w.alloc o):=⟨Below.alloc h.KS h.size o,h.drawn⟩
def Ext.ca(h:Ext d I):∀k,k<d.heap.size->I.heap[k]? =d.heap[k]? :=h.KS.block
def Ext.cell{a b:GE}(h:Ext a b){p:Addr}{v:Id}(c:a.cell? p=some v):b.cell? p=some v:=
 (Below.cell h.KS (ax7 a p c)).trans c
def Ext.block(h:Ext d I){o:Obj}(a:d.heap[c]? =some o):I.heap[c]? =some o:=
 (h.ca c (awS.1 a).1).trans a
def aeh:Do (Nat×IntKind×aX):=[(0,(.u8,[0,1,28,2,29,14,24,3,30,22,20,15,25,17,4,8,31,27,13,23,21,19,16,7,26,12,18,6,11,5,10,9]))]
def gNr:bu:=[(40,29),(42,38),(42,41),(73,62)]
def amw:a_:=[]
variable{L:Type}{g:Id}{s:bI}
inductive AV where
 |un
 |v (x:Value)
 |sl (tight:Bool) (sz:Nat) (rows:List (List AV))
 |ow (k:Nat)
 |pt (k o:Nat)
 |pe (k i sz o:Nat)
 |sw (k l n sz:Nat)
 |fp (cs:List AV)
 |ag (cs:List AV)
 |tu (vs:List AV)
 |mp (k:Nat)
 |cl (fn:Fn) (fs cs:List AV)
instance:Inhabited AV:=⟨.un⟩
structure Env where
 ca:Nat->cn
 sv:Nat->Value
 cX:Nat->Nat
def LR(R:L->Id->Prop)(a:Do L)(b:bI):Prop:=b.length=a.length/\∀(j:Nat) c u,a[j]? =some c->b[j]? =some u->R c u
def AV.one:AV->In
 |.v x=>x.oneCell'
 |.sl .. |.ow _|.pt .. |.pe .. |.sw .. |.fp _|.mp _|.cl .. =>true
 |.un|.ag _|.tu _=>false
inductive VR(Rd:bL):Option Env->AV->Value->Prop
 |un {E x}:VR Rd E .un x
 |v {E x}:VR Rd E (.v x) x
 |sl {E tight sz rows a cap} (us:bI) (hw:∀r∈rows,r.length=sz) (h1c:∀c∈rows.flatten,c.one=true) (hl:us.length=rows.flatten.length)
  (hc:∀(j:Nat) c u,rows.flatten[j]? =some c->us[j]? =some u->VR Rd none c u) (h1:rows.length<=cap) (h2:cap<=maxLen) (h3:tight=true->cap=rows.length)
  (ha:us≠[]->∃b o,a=some ⟨b,o,none⟩/\∀(j:Nat) u,us[j]? =some u->Rd b (o+j) u):VR Rd E (.sl tight sz rows) (.slice a rows.length cap)
 |ow {e k}:VR Rd (some e) (.ow k) (e.sv k)
 |pt {e k o b} (h:e.ca k=some b):VR Rd (some e) (.pt k o) (.pointer (some ⟨b,o,none⟩))
 |pe {e k i sz o b} (h:e.ca k=some b):VR Rd (some e) (.pe k i sz o) (.pointer (some ⟨b,i*sz+o,none⟩))
 |sw {e k l n sz b o cap} (h:e.ca k=some b) (ho:0<n->o=l*sz) (h1:n<=cap) (h2:cap<=maxLen):VR Rd (some e) (.sw k l n sz) (.slice (some ⟨b,o,none⟩) n cap)
 |fp {E cs b o} (us:bI) (hl:us.length=cs.length) (hc:∀(j:Nat) c u,cs[j]? =some c->us[j]? =some u->VR Rd none c u)
  (ha:∀(j:Nat) u,us[j]? =some u->Rd b (o+j) u):VR Rd E (.fp cs) (.pointer (some ⟨b,o,none⟩))
 |ag {E cs} (us:bI) (hl:us.length=cs.length) (hc:∀(j:Nat) c u,cs[j]? =some c->us[j]? =some u->VR Rd E c u):VR Rd E (.ag cs) (.agg us.toArray)
 |tu {E cs} (us:bI) (hl:us.length=cs.length) (hc:∀(j:Nat) c u,cs[j]? =some c->us[j]? =some u->VR Rd E c u):VR Rd E (.tu cs) (.tuple us.toArray)
 |mp {e k b} (h:e.ca k=some b):VR Rd (some e) (.mp k) (.map (some b))
 |cl {E fn fs cs} (us xs:bI) (hl:us.length=fs.length) (hl2:xs.length=cs.length) (hc:∀(j:Nat) c u,fs[j]? =some c->us[j]? =some u->VR Rd E c u)
  (hc2:∀(j:Nat) c u,cs[j]? =some c->xs[j]? =some u->VR Rd E c u):VR Rd E (.cl fn fs cs) (.func fn us.toArray xs.toArray)
def VR.mono{Rd n:bL}(p:∀b o g,Rd b o g->n b o g){E:At Env}{c:AV}(h:VR Rd E c g):VR n E c g:=by
 induction h with
 |un=>exact .un
 |v=>exact .v
 |sl e w q a f i k r l d=>
  refine .sl e w q a d i k r λt=>?_;obtain⟨b,o,rfl,h⟩:=l t;exact⟨b,o,rfl,λj g m=>p _ _ _ (h j g m)⟩
 |ow=>exact .ow
 |pt h=>exact .pt h
 |pe h=>exact .pe h
 |sw h u i k=>exact .sw h u i k
 |fp e a f l d=>exact .fp e a d λj g m=>p _ _ _ (l j g m)
 |ag e a f d=>exact .ag e a d
 |tu e a f d=>exact .tu e a d
 |mp h=>exact .mp h
 |cl e y a s f z d x=>exact .cl e y a s d x
def VR.c9{Rd:bL}{E:At Env}{c:AV}(h:VR Rd none c g):VR Rd E c g:=by
 generalize d:(none:At Env)=s at h
 induction h with
 |un=>exact .un
 |v=>exact .v
 |sl f p m e k a b n l i=>exact .sl f p m e k a b n l
 |ow=>cases d
 |pt h=>cases d
 |pe h=>cases d
 |sw h=>cases d
 |fp f e k l i=>exact .fp f e k l
 |ag f e k i=>exact .ag f e λj c g a b=>i j c g a b d
 |tu f e k i=>exact .tu f e λj c g a b=>i j c g a b d
 |mp h=>cases d
 |cl f r e o k t i q=>exact .cl f r e o (λj c g a b=>i j c g a b d) (λj c g a b=>q j c g a b d)
mutual
def AV.gW(k:Nat):AV->In
 |.ow j=>j==k
 |.pt j _=>j==k
 |.pe j _ _ _=>j==k
 |.sw j _ _ _=>j==k
 |.mp j=>j==k
 |.ag a=>AV.nZ k a
 |.tu a=>AV.nZ k a
 |.cl _ b a=>AV.nZ k b||AV.nZ k a
 |_=>false
def AV.nZ(k:Nat):Do AV->In
 |[]=>false
 |c::a=>AV.gW k c||AV.nZ k a
end
def fE{k:Nat}:∀{a:Do AV},AV.nZ k a=false->∀(j:Nat) c,a[j]? =some c->c.gW k=false
 |[],_,j,c,h=>by simp at h
 |x::a,b,j,c,h=>by
  simp only[AV.nZ,ax8]at b;cases j with
  |zero=>simp at h;exact h▸b.1
  |succ j=>exact fE b.2 j c (by simpa using h)
def VR.env{Rd:bL}{E:At Env}{c:AV}(h:VR Rd E c g){e e':Env}(m:E=some e)(k:Nat)(f:c.gW k=false)
 (u:∀j,j≠k->e'.ca j=e.ca j) (D:∀j,j≠k->e'.sv j=e.sv j):VR Rd (some e') c g:=by
 induction h with
 |un=>exact .un
 |v=>exact .v
 |sl r F z q t a d A w s=>exact .sl r F z q t a d A w
 | @ow e0 j=>
  cases m;have p:j≠k:=by simpa[AV.gW]using f
  rw[<-D j p];exact .ow
 | @pt e0 j o b h=>
  cases m;have p:j≠k:=by simpa[AV.gW]using f
  exact .pt (by rw[u j p];exact h)
 | @pe e0 j i H o b h=>
  cases m;have p:j≠k:=by simpa[AV.gW]using f
  exact .pe (by rw[u j p];exact h)
 | @sw e0 j l n H b o J h C a d=>
  cases m;have p:j≠k:=by simpa[AV.gW]using f
  exact .sw (by rw[u j p];exact h) C a d
 |fp r q t w s=>exact .fp r q t w
 | @ag x y r q t s=>exact .ag r q λj c g a d=>s j c g a d m (fE (by simpa[AV.gW]using f) j c a)
 | @tu x y r q t s=>exact .tu r q λj c g a d=>s j c g a d m (fE (by simpa[AV.gW]using f) j c a)
 | @mp e0 j b h=>
  cases m;have p:j≠k:=by simpa[AV.gW]using f
  exact .mp (by rw[u j p];exact h)
 | @cl x K L y r I q B t M s G=>
  simp only[AV.gW,ax8]at f;exact .cl r I q B (λj c g a d=>s j c g a d m (fE f.1 j c a)) (λj c g a d=>G j c g a d m (fE f.2 j c a))
def VR.jt{Rd:bL}{E:At Env}{c:AV}(h:VR Rd E c g){e e':Env}(f:E=some e)(r:∀j,e'.ca j=e.ca j)(y:∀j,e'.sv j=e.sv j):VR Rd (some e') c g:=by
 induction h with
 |un=>exact .un
 |v=>exact .v
 |sl m z t k q a d u s p=>exact .sl m z t k q a d u s
 | @ow e0 j=>cases f;rw[<-y j];exact .ow
 | @pt e0 j o b h=>cases f;exact .pt (by rw[r j];exact h)
 | @pe e0 j i B o b h=>cases f;exact .pe (by rw[r j];exact h)
 | @sw e0 j l n B b o D h x a d=>cases f;exact .sw (by rw[r j];exact h) x a d
 |fp m k q s p=>exact .fp m k q s
 |ag m k q p=>exact .ag m k λj c g a d=>p j c g a d f
 |tu m k q p=>exact .tu m k λj c g a d=>p j c g a d f
 | @mp e0 j b h=>cases f;exact .mp (by rw[r j];exact h)
 |cl m C k w q F p A=>exact .cl m C k w (λj c g a d=>p j c g a d f) (λj c g a d=>A j c g a d f)
def VR.kT{Rd:bL}{E:At Env}{c:AV}(h:VR Rd E c g)(a:c.one=true)(b:∀e k,E=some e->c=.ow k->(e.sv k).oneCell'=true):g.oneCell'=true:=by
 cases h with
 |un=>simp[AV.one]at a
 |v=>simpa[AV.one]using a
 |sl=>rfl
 |ow=>exact b _ _ rfl rfl
 |pt=>rfl
 |pe=>rfl
 |sw=>rfl
 |fp=>rfl
 |ag=>simp[AV.one]at a
 |tu=>simp[AV.one]at a
 |_=>rfl
def LR.get{R:L->Id->Prop}{a:Do L}(h:LR R a s){j:Nat}{c:L}(b:a[j]? =some c):∃u,s[j]? =some u/\R c u:=by
 have d:j<s.length:=by rw[h.1];exact(av7.1 b).1
 exact⟨s[j],awf d,h.2 j c _ b (awf d)⟩
def LR.imp{R a:L->Id->Prop}{b:Do L}(h:LR R b s)(f:∀c u,R c u->a c u):LR a b s:=⟨h.1,λj c u d e=>f _ _ (h.2 j c u d e)⟩
def LR.nil{R:L->Id->Prop}:LR R [] []:=⟨rfl,d5⟩
def LR.cons{R:L->Id->Prop}{c:L}{d:Do L}(h:R c g)(e:LR R d s):LR R (c::d) (g::s):=
 ⟨by simp[e.1],λj f i a b=>by
  cases j with
  |zero=>simp at a b;subst a;subst b;exact h
  |succ j=>exact e.2 j f i (by simpa using a) (by simpa using b)⟩
def LR.append{R:L->Id->Prop}{d ds:Do L}{f xs:bI}(h:LR R d f)(k:LR R ds xs):LR R (d++ds) (f++xs):=by
 refine⟨by simp[h.1,k.1],λj c u a b=>?_⟩;by_cases e:j<d.length
 .rw[awY e]at a
  rw[awY (by rw[h.1];exact e)]at b;exact h.2 j c u a b
 .rw[axl bv]at a
  rw[axl (by rw[h.1];omega),h.1]at b;exact k.2 _ c u a b
def LR.take{R:L->Id->Prop}{d:Do L}(h:LR R d s)(n:Nat):LR R (d.take n) (s.take n):=by
 refine⟨by simp[h.1],λj c u a b=>?_⟩;rw[awP]at a b;split at a
 next e=>simp[e]at b;exact h.2 j c u a b
 .cases a
def LR.drop{R:L->Id->Prop}{a:Do L}(h:LR R a s)(n:Nat):LR R (a.drop n) (s.drop n):=by
 refine⟨by simp[h.1],λj c u b d=>?_⟩;rw[axt]at b d;exact h.2 _ c u b d
def LR.set{R:L->Id->Prop}{d:Do L}(h:LR R d s)(j:Nat){c:L}{u:Id}(k:R c u):LR R (d.set j c) (s.set j u):=by
 refine⟨by simp[h.1],λi g l a b=>?_⟩;rw[aw0]at a b;rw[h.1]at b;by_cases e:j=i
 .subst e
  by_cases f:j<d.length
  .simp[f]at a b;subst a;subst b;exact k
  .simp[f]at a
 .simp[e]at a b;exact h.2 i g l a b
def VR.fI{Rd:bL}{E:At Env}{cs:Do AV}(h:VR Rd E (.ag cs) g):∃a,g=.agg a.toArray/\LR (VR Rd E) cs a:=by
 cases h with
 |ag a c b=>exact⟨a,rfl,c,b⟩
def VR.HM{Rd:bL}{E:At Env}{cs:Do AV}(h:VR Rd E (.tu cs) g):∃a,g=.tuple a.toArray/\LR (VR Rd E) cs a:=by
 cases h with
 |tu a c b=>exact⟨a,rfl,c,b⟩
def VR.bS{Rd:bL}{E:At Env}{x u:Id}(h:VR Rd E (.v x) u):u=x:=by
 cases h;rfl
variable{u:Env}{N:Do (Do AV)}{J:Do (Nat×AV)}{W v:Nat}{m:EQ}{h:bL}{H:cn}
inductive Ob where
 |box (t:TypeId) (cs:List AV)
 |arr (t:TypeId) (sz:Nat) (rows:List (List AV)) (wr:Bool)
 |mp (d:TypeDesc) (es:List (Value×AV))
 |nr (t:TypeId) (cs:List AV)
abbrev Hp:=Do (Nat×At Ob)
def bc:Hp->Nat->At Ob
 |[],_=>none
 |(j,o)::h,k=>if k=j then o else bc h k
def bO:Do (Nat×AV)->Nat->AV
 |[],_=>.un
 |(j,c)::t,i=>if i=j then c else bO t i
structure St where
 n:Nat
 t:List (Nat×AV)
 h:Hp
structure Bs where
 w:World
 own:Nat->Prop
 ca:Nat->cn
 sv:Nat->Value
 df:AJ
def Bs.iP(B:Bs)(b:Nat):Prop:=B.w.heap.size<=b\/B.own b
structure Bx(B:Bs)(w:World):Prop where
 os:w.os=B.w.os
 tape:w.tape=B.w.tape
 output:w.output=B.w.output
 size:B.w.heap.size<=w.heap.size
 block:∀b,¬B.iP b->w.heap[b]? =B.w.heap[b]?
 drawn:B.w.drawn<=w.drawn
def Bx.drew{B:Bs}(h:Bx B d):Bx B d.drew:=⟨h.os,h.tape,h.output,h.size,h.block,azT h.drawn⟩
def Bx.step{B:Bs}(h:Bx B d)(c:I.os=d.os)(e:I.tape=d.tape)(f:I.output=d.output)(g:d.heap.size<=I.heap.size)(i:∀b,¬B.iP b->b<d.heap.size->I.heap[b]? =d.heap[b]?)(j:d.drawn<=I.drawn:=by exact av5 _):Bx B I:=
 ⟨c.trans h.os,e.trans h.tape,f.trans h.output,awH h.size g,λb a=>(i b a (by have:=h.size;unfold Bs.iP at a;omega)).trans (h.block b a),awH h.drawn j⟩
def Bx.alloc{B:Bs}(h:Bx B d)(o:Obj):Bx B (d.alloc o):=h.step rfl rfl rfl d5 λb _ a=>Below.heap_alloc _ _ _ a
def Bx.setCell{B:Bs}{w:GE}(h:Bx B w){p:Addr}(c:B.iP p.block)(u:Id):Bx B (w.setCell p u):=
 h.step rfl rfl rfl (by simp[World.setCell]) λb a _=>Below.heap_setCell _ _ _ _ (λe=>a (by rw[e];exact c))
def Bx.later{B:Bs}(h:Bx B d)(a:Ext d I):Bx B I:=h.step a.os a.tape a.output a.size (λb _ c=>a.ca b c) a.drawn
def Bx.iP{B:Bs}(h:Bx B d)(a:d.heap.size<=c):B.iP c:=.inl (awH h.size a)
def abJ:Do (Nat×IntKind×aX)->Nat->At (IntKind×aX)
 |[],_=>none
 |(g,p)::l,k=>cond (Nat.beq k g) (some p) (abJ l k)
def GT(b o:Nat)(u:Id):Prop:=∃k l x,abJ aeh b=some (k,l)/\l[o]? =some x/\u=.int k x
def Good(Rd:bL)(B:Bs):Prop:=(∀b o u,Rd b o u->B.w.cell? ⟨b,o,none⟩=some u/\¬B.iP b)/\∀b o u,GT b o u->Rd b o u
def bT(c:Bs)(a:bL)(e:Env)(h:Hp)(w:GE)(b o:Nat)(u:Id):Prop:=
 w.cell? ⟨b,o,none⟩=some u/\(¬c.iP b->a b o u)/\∀k ob,bc h k=some ob->e.ca k=some b->o<e.cX k
def mg(d:TypeDesc)(v:Id):Prop:=match d with
 |.tuple _=>∃a b:Int,v=.agg #[.int .i64 a,.int .i64 b]
 |d=>MapKept.IsKey d v
structure KE{α:Type}(R:α->Value->Prop)(d:TypeDesc)(es:List (Value×α))(arr:AI)(clock:Nat):Prop where
 len:arr.size=es.length
 key:∀(j:Nat) x m,es[j]? =some x->arr[j]? =some m->m.key=x.1/\R x.2 m.val
 isk:∀m∈arr.toList,mg d m.key
 lG:MapKept.Stamped arr clock
 UP:∀(j:Nat) m,arr[j]? =some m->m.born=j
 clk:clock=arr.size
def KE.imp{R b:L->Id->Prop}{d:TypeDesc}{f:Do (Id×L)}{e:AI}(h:KE R d f e c)(k:∀a u,R a u->b a u):KE b d f e c:=
 ⟨h.len,λj x m i g=>⟨(h.key j x m i g).1,k _ _ (h.key j x m i g).2⟩,h.isk,h.lG,h.UP,h.clk⟩
abbrev MR(Rd:bL)(d:TypeDesc)(c:Do (Id×AV))(a:AI)(b:Nat):Prop:=KE (VR Rd none) d c a b
def MR.mono{Rd a:bL}(g:∀b o u,Rd b o u->a b o u){d:TypeDesc}{f:Do (Id×AV)}{c:AI}{e:Nat}(h:MR Rd d f c e):MR a d f c e:=KE.imp h λ_ _ k=>k.mono g
def HN:EQ:=1152921504606846975
def anq(w:GE)(b:Nat)(f:bI):Prop:=∃(d c e:Nat) (a:Int) (seen:Array Nat),f=[.map (some d),.int .i64 (c:Int),.int .i64 (e:Int),.int .i64 a]/\w.heap[b]? =some (.mapIter (some d) c seen c)/\
 (∀j,seen.contains j=e.testBit j)/\(0<=a->seen.back?=some a.toNat)
def tX(w:GE)(b:Nat)(t:EQ)(a:bI):Prop:=(t≠HN/\w.heap[b]? =some (.cells a.toArray t (0,0)))\/(t=HN/\anq w b a)
def tX.ext(h:tX d c m s)(b:∀o,d.heap[c]? =some o->I.heap[c]? =some o):tX I c m s:=by
 rcases h with⟨a,h⟩|⟨a,e,k,j,f,seen,g,h,i⟩
 .exact .inl ⟨a,b _ h⟩
 .exact .inr ⟨a,e,k,j,f,seen,g,b _ h,i⟩
def tX.lt(h:tX d c m s):c<d.heap.size:=by
 rcases h with⟨_,h⟩|⟨_,a,f,e,b,seen,_,h,_⟩
 .exact(awS.1 h).1
 .exact(awS.1 h).1
def tX.same(h:tX d c m s)(b:I.heap[c]? =d.heap[c]?):tX I c m s:=h.ext λo a=>by rw[b];exact a
def tX.cells(h:tX d c m s)(b:m≠HN):d.heap[c]? =some (.cells s.toArray m (0,0)):=by
 rcases h with⟨_,h⟩|⟨a,_⟩
 .exact h
 .exact absurd a b
def OR(Rd:bL)(e:Env)(w:GE)(k:Nat):Ob->Prop
 |.box t h=>e.cX k=0/\∃b n,e.ca k=some b/\tX w b t n/\LR (VR Rd (some e)) h n
 |.arr t m g wr=>(∀r∈g,r.length=m)/\(∀c∈g.flatten,c.one=true)/\(wr=true->e.cX k=0)/\
  ((g=[]/\e.ca k=none/\∃a,e.sv k=.slice a 0 0)\/
   ∃b f i,e.ca k=some b/\e.sv k=.slice (some ⟨b,0,none⟩) g.length f/\g.length<=f/\f<=maxLen/\w.heap[b]? =some (.cells i t (0,0))/\
    i.size=f*m/\LR (VR Rd none) g.flatten (i.toList.take g.flatten.length)/\e.cX k<=g.flatten.length)
 |.mp d o=>e.cX k=0/\∃b j l,e.ca k=some b/\w.heap[b]? =some (.map j l)/\MR Rd d o j l
 |.nr t h=>e.cX k=0/\((h=[]/\e.ca k=none/\∃a,e.sv k=.slice a 0 0)\/
  ∃b f i,e.ca k=some b/\e.sv k=.slice (some ⟨b,0,none⟩) h.length f/\h.length<=f/\f<=maxLen/\w.heap[b]? =some (.cells i t (0,0))/\
   i.size=f/\LR (VR Rd (some e)) h (i.toList.take h.length))
structure SR(w0:Bs)(Rd0:bL)(e:Env)(h:Hp)(w:World):Prop where
 ext:Bx w0 w
 lA:Good Rd0 w0
 ob:∀k ob,bc h k=some ob->OR (bT w0 Rd0 e h w) e w k ob
 base:∀k ob b,bc h k=some ob->e.ca k=some b->w0.iP b/\b<w.heap.size
 inj:∀k k' ob ob' b,bc h k=some ob->bc h k'=some ob'->e.ca k=some b->e.ca k'=some b->k=k'
 yz:∀k,4294967296<=k->e.ca k=w0.ca k/\e.sv k=w0.sv k
def SR.HO{i:Bs}{a:Hp}(b:SR i h u a d)(m:GT c v g):bT i h u a d c v g:=by
 have e:=b.lA.2 _ _ _ m;obtain⟨j,f⟩:=b.lA.1 c v g e;refine⟨?_,λ_=>e,λk ob n l=>absurd (b.base k ob c n l).1 f⟩;rw[<-j];unfold World.cell?;rw[b.ext.block c f]
def TR(Rd:bL)(e:Env)(t:Do (Nat×AV))(a:ey):Prop:=∀i,VR Rd (some e) (bO t i) (a.getD i undef)
def eM{sz:Nat}(h:∀r∈N,r.length=sz):N.flatten.length=N.length*sz:=by
 induction N with
 |nil=>simp
 |cons r N b=>
  rw[awI,awl,h r d5,b (λx a=>h x (by simp[a])),aws,awK];omega
def OR.mono{Rd y:bL}(j:∀b o u,Rd b o u->y b o u){e:Env}{w:GE}{k:Nat}{ob:Ob}(h:OR Rd e w k ob):OR y e w k ob:=by
 cases ob with
 |box t B=>
  obtain⟨c,b,C,f,g,a⟩:=h;exact⟨c,b,C,f,g,a.imp λ_ _ i=>i.mono j⟩
 |arr t F E wr=>
  obtain⟨c,f,g,a⟩:=h;refine⟨c,f,g,?_⟩;rcases a with a|⟨b,v,x,l,m,n,p,q,r,s,z⟩
  .exact .inl a
  .exact .inr ⟨b,v,x,l,m,n,p,q,r,s.imp λ_ _ i=>i.mono j,z⟩
 |mp d D=>
  obtain⟨c,b,arr,A,f,g,a⟩:=h;exact⟨c,b,arr,A,f,g,a.mono j⟩
 |nr t B=>
  obtain⟨c,a⟩:=h;refine⟨c,?_⟩;rcases a with a|⟨b,v,x,l,m,n,p,q,r,s⟩
  .exact .inl a
  .exact .inr ⟨b,v,x,l,m,n,p,q,r,s.imp λ_ _ i=>i.mono j⟩
def Ob.gW(k:Nat):Ob->In
 |.box _ a=>AV.nZ k a
 |.arr .. =>false
 |.mp .. =>false
 |.nr _ a=>AV.nZ k a
def OR.env{Rd:bL}{e e':Env}{w w':GE}{k j:Nat}{ob:Ob}(h:OR Rd e w j ob)(a:j≠k)(x:ob.gW k=false\/(e'.ca k=e.ca k/\e'.sv k=e.sv k))
 (g:∀i,i≠k->e'.ca i=e.ca i) (n:∀i,i≠k->e'.sv i=e.sv i) (A:∀i,i≠k->e'.cX i=e.cX i)
 (C:∀b,e.ca j=some b->b<w.heap.size->w'.heap[b]? =w.heap[b]?):OR Rd e' w' j ob:=by
 cases ob with
 |box t L=>
  obtain⟨q,b,N,r,s,m⟩:=h;refine⟨by rw[A j a];exact q,b,N,by rw[g j a];exact r,?_,m.1,λi c u v B=>?_⟩
  .exact s.same (C b r s.lt)
  .rcases x with x|⟨H,I⟩
   .exact(m.2 i c u v B).env rfl k (fE (by simpa[Ob.gW]using x) i c v) g n
   .exact(m.2 i c u v B).jt rfl (λj=>by by_cases f:j=k;·rw[f];exact H
                                        .exact g j f) (λj=>by by_cases f:j=k;·rw[f];exact I
                                                              .exact n j f)
 |arr t Q P wr=>
  obtain⟨q,r,s,m⟩:=h;refine⟨q,r,λM=>by rw[A j a];exact s M,?_⟩;rcases m with⟨l,o,p⟩|⟨b,F,G,l,o,p,D,y,E,z,J⟩
  .exact .inl ⟨l,by rw[g j a];exact o,by rw[n j a];exact p⟩
  .refine .inr ⟨b,F,G,by rw[g j a];exact l,by rw[n j a];exact o,p,D,?_,E,z,by rw[A j a];exact J⟩
   rw[C b l (awS.1 y).1];exact y
 |mp d O=>
  obtain⟨q,b,arr,K,r,s,m⟩:=h;exact⟨by rw[A j a];exact q,b,arr,K,by rw[g j a];exact r,by rw[C b r (awS.1 s).1];exact s,m⟩
 |nr t L=>
  obtain⟨q,m⟩:=h;refine⟨by rw[A j a];exact q,?_⟩;rcases m with⟨l,o,p⟩|⟨b,F,G,l,o,p,D,y,E,z⟩
  .exact .inl ⟨l,by rw[g j a];exact o,by rw[n j a];exact p⟩
  .refine .inr ⟨b,F,G,by rw[g j a];exact l,by rw[n j a];exact o,p,D,?_,E,⟨z.1,λi c u v B=>?_⟩⟩
   .rw[C b l (awS.1 y).1];exact y
   .rcases x with x|⟨H,I⟩
    .exact(z.2 i c u v B).env rfl k (fE (by simpa[Ob.gW]using x) i c v) g n
    .exact(z.2 i c u v B).jt rfl (λj=>by by_cases f:j=k;·rw[f];exact H
                                         .exact g j f) (λj=>by by_cases f:j=k;·rw[f];exact I
                                                               .exact n j f)
def Env.cR(e:Env)(k:Nat)(b:cn)(s:Id)(l:Nat):Env:=
 ⟨λi=>if i=k then b else e.ca i,λi=>if i=k then s else e.sv i,λi=>if i=k then l else e.cX i⟩
def Env.cc:(u.cR c H g v).ca c=H:=by simp[Env.cR]
def Env.dZ:(u.cR c H g v).sv c=g:=by simp[Env.cR]
def Env.cq:(u.cR c H g v).cX c=v:=by simp[Env.cR]
def Env.bE(h:W≠c):(u.cR c H g v).ca W=u.ca W:=by simp[Env.cR,h]
def Env.dy(h:W≠c):(u.cR c H g v).sv W=u.sv W:=by simp[Env.cR,h]
def Env.lM(h:W≠c):(u.cR c H g v).cX W=u.cX W:=by simp[Env.cR,h]
def bf{h:Hp}{o:At Ob}:bc ((c,o)::h) c=o:=by simp[bc]
def bd{h:Hp}{o:At Ob}(a:v≠c):bc ((c,o)::h) v=bc h v:=by simp[bc,a]
def qY(k:Nat)(h:Hp):In:=h.all λp=>match p.2 with|some ob=> !ob.gW k|none=>true
def abK(k:Nat)(t:Do (Nat×AV)):In:=t.all λp=> !p.2.gW k
def AK{k:Nat}:∀{h:Hp},qY k h=true->∀j ob,bc h j=some ob->ob.gW k=false
 |[],_,j,ob,a=>by simp[bc]at a
 |(i,o)::h,b,j,ob,a=>by
  simp only[qY,axb,av4]at b;by_cases c:j=i
  .subst c
   rw[bf]at a;subst a;simpa using b.1
  .rw[bd c]at a
   exact AK (by simpa[qY]using b.2) j ob a
def PM{k:Nat}:∀{t:Do (Nat×AV)},abK k t=true->∀j,(bO t j).gW k=false
 |[],_,j=>by simp[bO,AV.gW]
 |(i,c)::t,a,j=>by
  simp only[abK,axb,av4]at a;by_cases b:j=i
  .subst b;simp[bO];simpa using a.1
  .simp only[bO,b,aw1];exact PM (by simpa[abK]using a.2) j
def SR.yk{q:Bs}{w w':GE}{x:bL}{h:Hp}(g:SR q x u h w)(k:Nat)(p:cn)(s:Id)(l:Nat)(v:At Ob)
 (S:Bx q w') (qY:(qY k h=true/\k<4294967296)\/(p=u.ca k/\s=u.sv k))
 (a0:w.heap.size<=w'.heap.size)
 (N:∀b,b<w.heap.size->(∀ob,bc h k=some ob->u.ca k≠some b)->w'.heap[b]? =w.heap[b]?)
 (E:∀b,p=some b->v≠none->q.iP b/\b<w'.heap.size/\((∃ob,bc h k=some ob/\u.ca k=some b)\/w.heap.size<=b))
 (U:∀b o a ob,bc h k=some ob->u.ca k=some b->o<u.cX k->w.cell? ⟨b,o,none⟩=some a->w'.cell? ⟨b,o,none⟩=some a/\(v≠none->p=some b->o<l))
 (Z:∀(Rd:bL),(∀b o a,bT q x u h w b o a->Rd b o a)->(∀b o a,w'.cell? ⟨b,o,none⟩=some a->(∀ob,bc h k=some ob->u.ca k=some b->v=none\/p≠some b)->b<w.heap.size->(∃ob,bc h k=some ob/\u.ca k=some b)->Rd b o a)->∀J,v=some J->OR Rd (u.cR k p s l) w' k J):
 SR q x (u.cR k p s l) ((k,v)::h) w'/\∀b o a,bT q x u h w b o a->bT q x (u.cR k p s l) ((k,v)::h) w' b o a:=by
 have H:∀b o a,bT q x u h w b o a->bT q x (u.cR k p s l) ((k,v)::h) w' b o a:=by
  rintro b o a ⟨G,Q,K⟩;have L:b<w.heap.size:=ax7 w _ G;have M:w'.cell? ⟨b,o,none⟩=some a/\(v≠none->p=some b->o<l):=by
   by_cases A:∃ob,bc h k=some ob/\u.ca k=some b
   .obtain⟨ob,f,d⟩:=A
    exact U b o a ob f d (K k ob f d) G
   .have W:∀ob,bc h k=some ob->u.ca k≠some b:=λob f d=>A ⟨ob,f,d⟩
    refine⟨by rw[ayw (w:=w) (N b L W)];exact G,λY V=>?_⟩;rcases(E b V Y).2.2 with C|C
    .exact absurd C A
    .omega
  refine⟨M.1,Q,λj ob c d=>?_⟩;by_cases e:j=k
  .subst e
   rw[bf]at c;rw[Env.cc]at d;rw[Env.cq];exact M.2 (by rw[c];simp) d
  .rw[bd e]at c
   rw[Env.bE e]at d;rw[Env.lM e];exact K j ob c d
 refine⟨⟨S,g.lA,λj ob c=>?_,λj ob b c d=>?_,λj P ob J b c z d y=>?_,λj c=>?_⟩,H⟩
 .by_cases e:j=k
  .subst e
   rw[bf]at c;refine Z _ H (λb o a R X L A=>?_) ob c;obtain⟨F,f,n⟩:=A;refine⟨R,λI=>?_,λi a1 m B=>?_⟩
   .exact absurd (g.base _ _ _ f n).1 I
   .by_cases D:i=j
    .subst D
     rw[bf]at m;rw[Env.cc]at B;rcases X F f n with h|h
     .rw[h]at m;cases m
     .exact absurd B h
    .rw[bd D]at m
     rw[Env.bE D]at B;exact absurd (g.inj _ _ _ _ _ m f B n) D
  .rw[bd e]at c
   refine((g.ob j ob c).env (w':=w') e (qY.imp (λt=>AK t.1 j ob c) (λt=>⟨by rw[Env.cc];exact t.1,by rw[Env.dZ];exact t.2⟩)) (λ_ m=>Env.bE m) (λ_ m=>Env.dy m) (λ_ m=>Env.lM m) λb d I=>?_).mono H;exact N b I λF f n=>e (g.inj _ _ _ _ _ c f d n)
 .by_cases e:j=k
  .subst e
   rw[bf]at c;rw[Env.cc]at d;have:=E b d (by rw[c];simp);exact⟨this.1,this.2.1⟩
  .rw[bd e]at c
   rw[Env.bE e]at d;have:=g.base j ob b c d;exact⟨this.1,bv⟩
 .by_cases e:j=k
  .by_cases r:P=k
   .rw[e,r]
   .subst e
    rw[bf]at c;rw[bd r]at z;rw[Env.cc]at d;rw[Env.bE r]at y;rcases(E b d (by rw[c];simp)).2.2 with⟨F,f,n⟩|C
    .exact absurd (g.inj _ _ _ _ _ z f y n) r
    .have:=(g.base _ _ _ z y).2;omega
  .rw[bd e]at c
   rw[Env.bE e]at d;by_cases r:P=k
   .subst r
    rw[bf]at z;rw[Env.cc]at y;rcases(E b y (by rw[z];simp)).2.2 with⟨F,f,n⟩|C
    .exact g.inj _ _ _ _ _ c f d n
    .have:=(g.base _ _ _ c d).2;omega
   .rw[bd r]at z
    rw[Env.bE r]at y;exact g.inj _ _ _ _ _ c z d y
 .have O:=g.yz j c
  by_cases e:j=k
  .subst e
   rw[Env.cc,Env.dZ];rcases qY with t|t
   .omega
   .rw[t.1,t.2];exact O
  .rw[Env.bE e,Env.dy e];exact O
def TR.mono{Rd a:bL}{e:Env}{t:Do (Nat×AV)}{c:ey}(h:TR Rd e t c)(d:∀b o u,Rd b o u->a b o u):TR a e t c:=λi=>(h i).mono d
def TR.env{Rd:bL}{e e':Env}{t:Do (Nat×AV)}{a:ey}(h:TR Rd e t a)(k:Nat)(c:abK k t=true)
 (b:∀j,j≠k->e'.ca j=e.ca j) (d:∀j,j≠k->e'.sv j=e.sv j):TR Rd e' t a:=λi=>(h i).env rfl k (PM c i) b d
def TR.put{Rd:bL}{a:ey}(h:TR Rd u J a){d:Nat}{c:AV}{v:Id}(e:d<a.size)(f:VR Rd (some u) c v):
 TR Rd u ((d,c)::J) (a.setIfInBounds d v):=by
 intro i;by_cases b:i=d
 .subst b
  simp[bO,e];exact f
 .have:(a.setIfInBounds d v).getD i undef=a.getD i undef:=by
   simp only[axm,azU];rw[av2 bv]
  rw[this];simp only[bO,b,aw1];exact h i
variable{B:AV}{y:Do AV}
section
variable{w0:Bs}{w:GE}{Rd0:bL}{e:Env}{h:Hp}
def aei(w:GE)(o:Obj)(i:Nat)(a:i<w.heap.size):(w.alloc o).heap[i]? =w.heap[i]? :=by
 show(w.heap.push o)[i]? =_;rw[ayi,av2 bv]
def abL(w:GE)(o:Obj):(w.alloc o).heap[w.heap.size]? =some o:=by
 show(w.heap.push o)[w.heap.size]? =_;rw[ayi,av3 rfl]
def SR.aj5(d:SR w0 Rd0 e h w)(k:Nat)(t:EQ)(o:Obj)(g:tX (w.alloc o) w.heap.size t s)(l:LR (VR (bT w0 Rd0 e h w) (some e)) y s)(A:qY k h=true)(z:k<4294967296)(v:AV.nZ k y=false):
 SR w0 Rd0 (e.cR k (some w.heap.size) (e.sv k) 0) ((k,some (.box t y))::h) (w.alloc o)/\
 ∀b m u,bT w0 Rd0 e h w b m u->bT w0 Rd0 (e.cR k (some w.heap.size) (e.sv k) 0) ((k,some (.box t y))::h) (w.alloc o) b m u:=by
 refine d.yk k (some w.heap.size) (e.sv k) 0 _ (d.ext.alloc _) (.inl ⟨A,z⟩) d5 (λb a _=>aei w _ b a) (λb a _=>?_) (λb o u ob g a C x=>?_) (λRd p _ D B=>?_)
 .obtain rfl:=av_ a
  exact⟨d.ext.iP (av5 _),d5,.inr (av5 _)⟩
 .have r:=(d.base _ _ _ g a).2
  refine⟨by rw[ayw (w:=w) (aei w _ b r)];exact x,λ_ q=>?_⟩;obtain rfl:=av_ q;omega
 .obtain rfl:=av_ B
  refine⟨Env.cq,w.heap.size,s,Env.cc,g,l.1,λi c u j n=>?_⟩;exact((l.2 i c u j n).mono p).env rfl k (fE v i c j) (λ_ f=>Env.bE f) (λ_ f=>Env.dy f)
def SR.anr(g:SR w0 Rd0 e h w)(k:Nat)(t:EQ)(i:t≠HN)(d:LR (VR (bT w0 Rd0 e h w) (some e)) y s)(f:qY k h=true)(c:k<4294967296)(a:AV.nZ k y=false):
 SR w0 Rd0 (e.cR k (some w.heap.size) (e.sv k) 0) ((k,some (.box t y))::h) (w.alloc (.cells s.toArray t))/\
 ∀b o u,bT w0 Rd0 e h w b o u->bT w0 Rd0 (e.cR k (some w.heap.size) (e.sv k) 0) ((k,some (.box t y))::h) (w.alloc (.cells s.toArray t)) b o u:=
 g.aj5 k t _ (.inl ⟨i,abL w _⟩) d f c a
def SR.Nj(i:SR w0 Rd0 e h w)(k:Nat)(t:EQ)(g a:Nat){rows:Do (Do AV)}{cur:ey}(G:∀r∈rows,r.length=g)(m:∀c∈rows.flatten,c.one=true)
 (A:LR (VR (bT w0 Rd0 e h w) none) rows.flatten (cur.toList.take rows.flatten.length)) (s:rows.length<=a) (B:a<=maxLen) (x:cur.size=a*g) (C:qY k h=true) (z:k<4294967296)
 (f:GE) (j:f.heap=w.heap.push (.cells cur t)) (y:Bx w0 f):
 SR w0 Rd0 (e.cR k (some w.heap.size) (.slice (some ⟨w.heap.size,0,none⟩) rows.length a) 0) ((k,some (.arr t g rows true))::h) f/\
 ∀b o u,bT w0 Rd0 e h w b o u->bT w0 Rd0 (e.cR k (some w.heap.size) (.slice (some ⟨w.heap.size,0,none⟩) rows.length a) 0) ((k,some (.arr t g rows true))::h) f b o u:=by
 have I:f.heap.size=w.heap.size+1:=by rw[j];simp
 have l:∀b,b<w.heap.size->f.heap[b]? =w.heap[b]? :=λb d=>by rw[j,ayi,av2 bv]
 refine i.yk k (some w.heap.size) (.slice (some ⟨w.heap.size,0,none⟩) rows.length a) 0 _ y (.inl ⟨C,z⟩) bv (λb d _=>l b d) (λb d _=>?_) (λb o u ob D d H v=>?_) (λRd n _ J E=>?_)
 .obtain rfl:=av_ d
  exact⟨i.ext.iP (av5 _),bv,.inr (av5 _)⟩
 .have q:=(i.base _ _ _ D d).2
  refine⟨by rw[ayw (w:=w) (l b q)];exact v,λ_ p=>?_⟩;obtain rfl:=av_ p;omega
 .obtain rfl:=av_ E
  refine⟨G,m,λ_=>Env.cq,.inr ⟨w.heap.size,a,cur,Env.cc,Env.dZ,s,B,?_,x,A.imp λ_ _ F=>F.mono n,?_⟩⟩
  .rw[j,ayi,av3 rfl]
  .rw[Env.cq];exact awy _
def SR.HP(d:SR w0 Rd0 e h w)(k:Nat)(t:EQ)(f:Nat)(a:At Addr)(l:qY k h=true)(j:k<4294967296):
 SR w0 Rd0 (e.cR k none (.slice a 0 0) 0) ((k,some (.arr t f [] true))::h) w/\
 ∀b o u,bT w0 Rd0 e h w b o u->bT w0 Rd0 (e.cR k none (.slice a 0 0) 0) ((k,some (.arr t f [] true))::h) w b o u:=by
 refine d.yk k none (.slice a 0 0) 0 _ d.ext (.inl ⟨l,j⟩) (av5 _) (λb c _=>rfl) (λb c _=>by cases c) (λb o u ob q c p i=>⟨i,λ_ g=>by cases g⟩) (λRd n _ r m=>?_);obtain rfl:=av_ m;exact⟨d5,d5,λ_=>Env.cq,.inl ⟨rfl,Env.cc,a,Env.dZ⟩⟩
def SR.qZ(k:SR w0 Rd0 e h w)(C:m≠HN)(f:bc h c=some (.box m y))(b:e.ca c=some v)(o:Nat)
 (L:VR (bT w0 Rd0 e h w) (some e) B g):
 SR w0 Rd0 (e.cR c (some v) (e.sv c) 0) ((c,some (.box m (y.set o B)))::h) (w.setCell ⟨v,o,none⟩ g)/\
 ∀d r s,bT w0 Rd0 e h w d r s->bT w0 Rd0 (e.cR c (some v) (e.sv c) 0) ((c,some (.box m (y.set o B)))::h) (w.setCell ⟨v,o,none⟩ g) d r s:=by
 obtain⟨G,a,t,E,K,z⟩:=k.ob _ _ f;obtain rfl:a=v:=av_ (E.symm.trans b);have p:=k.base _ _ _ f b;refine k.yk c (some a) (e.sv c) 0 _ (k.ext.setCell p.1 _) (.inr ⟨b.symm,rfl⟩) d5 (λd n I=>azV w _ _ _ (λF=>I _ f (by rw[b];exact awh some F.symm))) (λd n _=>?_) (λd r s ob N n H M=>?_) (λRd u _ O J=>?_)
 .obtain rfl:=av_ n
  exact⟨p.1,by simp;exact p.2,.inl ⟨_,f,b⟩⟩
 .rw[G]at H;omega
 .obtain rfl:=av_ J
  refine⟨Env.cq,a,t.set o g,Env.cc,.inl ⟨C,?_⟩,?_⟩
  .have:=azW w a o t.toArray m g (K.cells C)
   rw[this];simp
  .have x:∀j,(e.cR c (some a) (e.sv c) 0).ca j=e.ca j:=λj=>by by_cases q:j=c<;>simp[Env.cR,q,b]
   have A:∀j,(e.cR c (some a) (e.sv c) 0).sv j=e.sv j:=λj=>by by_cases q:j=c<;>simp[Env.cR,q]
   have l:LR (VR Rd (some (e.cR c (some a) (e.sv c) 0))) y t:=⟨z.1,λi B g l D=>((z.2 i B g l D).mono u).jt rfl x A⟩;exact l.set o ((L.mono u).jt rfl x A)
def SR.vm(i:SR w0 Rd0 e h w){k rows':Do (Do AV)}(f:bc h c=some (.arr m v k true))(a:e.ca c=some W)(o:Nat)
 (q:VR (bT w0 Rd0 e h w) none B g) (G:B.one=true) (A:rows'.length=k.length) (U:∀r∈rows',r.length=v) (z:rows'.flatten=k.flatten.set o B) (P:o<k.flatten.length):
 SR w0 Rd0 (e.cR c (some W) (e.sv c) 0) ((c,some (.arr m v rows' true))::h) (w.setCell ⟨W,o,none⟩ g)/\
 ∀b s t,bT w0 Rd0 e h w b s t->bT w0 Rd0 (e.cR c (some W) (e.sv c) 0) ((c,some (.arr m v rows' true))::h) (w.setCell ⟨W,o,none⟩ g) b s t:=by
 obtain⟨Y,D,p,R⟩:=i.ob _ _ f;have p:=p rfl;have n:=i.base _ _ _ f a;rcases R with⟨_,F,_⟩|⟨d,C,u,E,S,H,N,J,I,L,X⟩
 .rw[F]at a;cases a
 obtain rfl:d=W:=av_ (E.symm.trans a);refine i.yk c (some d) (e.sv c) 0 _ (i.ext.setCell n.1 _) (.inr ⟨a.symm,rfl⟩) d5 (λb l O=>azV w _ _ _ (λK=>O _ f (by rw[a];exact awh some K.symm))) (λb l _=>?_) (λb s t ob P l M V=>?_) (λRd y _ Z Q=>?_)
 .obtain rfl:=av_ l
  exact⟨n.1,by simp;exact n.2,.inl ⟨_,f,a⟩⟩
 .rw[p]at M;omega
 .obtain rfl:=av_ Q
  refine⟨U,?_,λ_=>Env.cq,.inr ⟨d,C,u.setIfInBounds o g,Env.cc,?_,by rw[A];exact H,N,azW w d o u m g J,by simpa using I,?_,?_⟩⟩
  .intro x j
   rw[z]at j;rcases ayj j with j|rfl
   .exact D x j
   .exact G
  .rw[Env.dZ,A];exact S
  .rw[z,ayR,axf,azh]
   exact(L.imp λ_ _ q=>q.mono y).set o (q.mono y)
  .rw[Env.cq];exact awy _
def SR.UU(l:SR w0 Rd0 e h w){wr:In}(p:bc h c=some (.arr m v N wr)):
 ∃f,SR w0 Rd0 f ((c,some (.arr m v N false))::h) w/\(∀b o u,bT w0 Rd0 e h w b o u->bT w0 Rd0 f ((c,some (.arr m v N false))::h) w b o u)/\
  (∀j,f.ca j=e.ca j)/\(∀j,f.sv j=e.sv j)/\VR (bT w0 Rd0 f ((c,some (.arr m v N false))::h) w) none (.sl false v N) (e.sv c):=by
 obtain⟨Q,J,a1,G⟩:=l.ob _ _ p;have x:∀j,(e.cR c (e.ca c) (e.sv c) N.flatten.length).ca j=e.ca j:=λj=>by by_cases k:j=c<;>simp[Env.cR,k]
 have H:∀j,(e.cR c (e.ca c) (e.sv c) N.flatten.length).sv j=e.sv j:=λj=>by by_cases k:j=c<;>simp[Env.cR,k]
 have Y:e.cX c<=N.flatten.length\/e.ca c=none:=by
  rcases G with⟨_,n,_⟩|⟨q,z,r,s,_,_,_,_,_,_,y⟩
  .exact .inr n
  .exact .inl y
 obtain⟨R,K⟩:=l.yk c (e.ca c) (e.sv c) N.flatten.length (some (.arr m v N false)) l.ext (.inr ⟨rfl,rfl⟩) (av5 _) (λb g _=>rfl)
  (λb g _=>⟨(l.base _ _ _ p g).1,(l.base _ _ _ p g).2,.inl ⟨_,p,g⟩⟩)
  (λb o u ob ho g P V=>⟨V,λ_ _=>by
   rcases Y with y|n
   .omega
   .rw[n]at g;cases g⟩)
  (λRd S _ a2 a0=>by
   obtain rfl:=av_ a0;refine⟨Q,J,(λW=>by cases W),?_⟩;rcases G with⟨F,n,a,A⟩|⟨q,z,r,s,I,B,E,C,M,t,y⟩
   .exact .inl ⟨F,by rw[x];exact n,a,by rw[H];exact A⟩
   .exact .inr ⟨q,z,r,by rw[x];exact s,by rw[H];exact I,B,E,C,M,t.imp λ_ _ hv=>hv.mono S,by rw[Env.cq];exact av5 _⟩)
 have Z:(e.cR c (e.ca c) (e.sv c) N.flatten.length).cX c=N.flatten.length:=Env.cq;generalize e.cR c (e.ca c) (e.sv c) N.flatten.length=f at*;refine⟨f,R,K,x,H,?_⟩;rcases G with⟨F,n,a,A⟩|⟨q,z,r,s,I,B,E,C,M,t,y⟩
 .subst F
  rw[A];exact VR.sl (rows:=[]) [] d5 d5 rfl d5 (av5 _) (awy _) d5 d5
 .rw[I]
  refine VR.sl (r.toList.take N.flatten.length) Q J t.1 (λj d u U hu=>(t.2 j d u U hu).mono K) B E d5 (λ_=>⟨q,0,rfl,λj u k=>?_⟩);have X:j<N.flatten.length:=by
   have:=(av7.1 k).1;rw[t.1]at this;exact this
  rw[awP,av3 X]at k;refine⟨by rw[awB,aw8 w q j r m (0,0) C];simpa using k,λP=>?_,λi ob O L=>?_⟩
  .exact absurd (l.base _ _ _ p s).1 P
  .rw[x]at L
   by_cases D:i=c
   .subst D;rw[Z];omega
   .rw[bd D]at O
    exact absurd (l.inj _ _ _ _ _ O p L s) D
def SR.later(l:SR w0 Rd0 e h w){m:GE}(i:Ext w m):SR w0 Rd0 e h m/\∀b o u,bT w0 Rd0 e h w b o u->bT w0 Rd0 e h m b o u:=by
 have B:∀b o u,bT w0 Rd0 e h w b o u->bT w0 Rd0 e h m b o u:=λb o u ⟨f,g,a⟩=>⟨i.cell f,g,a⟩;refine⟨⟨l.ext.later i,l.lA,λj ob A=>?_,λj ob b A F=>?_,l.inj,l.yz⟩,B⟩
 .have k:=(l.ob j ob A).mono B
  cases ob with
  |box t E=>
   obtain⟨c,b,G,f,g,a⟩:=k;exact⟨c,b,G,f,g.ext (λo k=>i.block k),a⟩
  |arr t J I wr=>
   obtain⟨c,f,g,a⟩:=k;refine⟨c,f,g,?_⟩;rcases a with a|⟨b,y,z,n,p,q,r,s,v,x,C⟩
   .exact .inl a
   .exact .inr ⟨b,y,z,n,p,q,r,i.block s,v,x,C⟩
  |mp d H=>
   obtain⟨c,b,arr,D,f,g,a⟩:=k;exact⟨c,b,arr,D,f,i.block g,a⟩
  |nr t E=>
   obtain⟨c,a⟩:=k;refine⟨c,?_⟩;rcases a with a|⟨b,y,z,n,p,q,r,s,v,x⟩
   .exact .inl a
   .exact .inr ⟨b,y,z,n,p,q,r,i.block s,v,x⟩
 .have:=l.base j ob b A F
  exact⟨this.1,ax9 this.2 i.size⟩
end
variable{F:In}{O:At Env}
def AV.kill(k:Nat)(c:AV):AV:=if c.gW k then .un else c
def Ob.kill(k:Nat):Ob->Ob
 |.box t a=>.box t (a.map (AV.kill k))
 |.arr t f c wr=>.arr t f c wr
 |.mp d b=>.mp d b
 |.nr t a=>.nr t (a.map (AV.kill k))
def bx(k:Nat):Hp->Hp
 |[]=>[]
 |(j,o)::h=>(j,o.map (Ob.kill k))::bx k h
def dm(k:Nat):Do (Nat×AV)->Do (Nat×AV)
 |[]=>[]
 |(j,c)::t=>(j,c.kill k)::dm k t
def lN(k:Nat)(c:AV):(c.kill k).gW k=false:=by
 unfold AV.kill;split
 .rfl
 next h=>simpa using h
def zH(k:Nat):∀a:Do AV,AV.nZ k (a.map (AV.kill k))=false
 |[]=>rfl
 |c::a=>by simp[AV.nZ,lN,zH k a]
def eC(k:Nat):∀h:Hp,qY k (bx k h)=true
 |[]=>rfl
 |(j,o)::h=>by
  have a:=eC k h;unfold qY at a⊢;simp only[bx,axb,a,azi];cases o with
  |none=>rfl
  |some ob=>cases ob<;>simp[Ob.kill,Ob.gW,zH]
def ef(k:Nat):∀t:Do (Nat×AV),abK k (dm k t)=true
 |[]=>rfl
 |(j,c)::t=>by
  have a:=ef k t;unfold abK at a⊢;simp only[dm,axb,a,azi,lN,axg]
def dE(k:Nat):∀(h:Hp) (j:Nat),bc (bx k h) j=(bc h j).map (Ob.kill k)
 |[],_=>rfl
 |(i,o)::h,j=>by
  simp only[bx,bc];split
  .rfl
  .exact dE k h j
def xA(k:Nat):∀(t:Do (Nat×AV)) (j:Nat),bO (dm k t) j=(bO t j).kill k
 |[],_=>by simp[dm,bO,AV.kill,AV.gW]
 |(i,c)::t,j=>by
  simp only[dm,bO];split
  .rfl
  .exact xA k t j
def VR.kill{Rd:bL}{E:At Env}{c:AV}{u:Id}(h:VR Rd E c u)(k:Nat):VR Rd E (c.kill k) u:=by
 unfold AV.kill;split
 .exact .un
 .exact h
def TR.kill{Rd:bL}{e:Env}{t:Do (Nat×AV)}{a:ey}(h:TR Rd e t a)(k:Nat):TR Rd e (dm k t) a:=λi=>by
 rw[xA];exact(h i).kill k
def LR.kill{Rd:bL}{E:At Env}{a:Do AV}{d:bI}(h:LR (VR Rd E) a d)(k:Nat):LR (VR Rd E) (a.map (AV.kill k)) d:=by
 refine⟨by simpa using h.1,λj c u b g=>?_⟩;rw[awp]at b;obtain⟨f,i,rfl⟩:=awC.1 b;exact(h.2 j f u i g).kill k
section
variable{w0:Bs}{w:GE}{Rd0:bL}{e:Env}{h:Hp}
def SR.kill(i:SR w0 Rd0 e h w)(k:Nat):SR w0 Rd0 e (bx k h) w/\∀b o u,bT w0 Rd0 e h w b o u->bT w0 Rd0 e (bx k h) w b o u:=by
 have s:∀b o u,bT w0 Rd0 e h w b o u->bT w0 Rd0 e (bx k h) w b o u:=λb o u ⟨g,F,r⟩=>⟨g,F,λj ob c p=>by
  rw[dE]at c;obtain⟨a,f,_⟩:=awC.1 c;exact r j a f p⟩
 have q:∀j ob,bc (bx k h) j=some ob->∃a,bc h j=some a/\ob=a.kill k:=λj ob c=>by
  rw[dE]at c;obtain⟨a,f,H⟩:=awC.1 c;exact⟨a,f,H.symm⟩
 refine⟨⟨i.ext,i.lA,λj ob c=>?_,λj ob b c p=>?_,λj K ob L b c I p G=>?_,i.yz⟩,s⟩
 .obtain⟨a,f,rfl⟩:=q j ob c
  have g:=(i.ob j a f).mono s;cases a with
  |box t C=>
   obtain⟨v,b,M,l,m,n⟩:=g;exact⟨v,b,M,l,m,n.kill k⟩
  |arr t R Q wr=>exact g
  |mp d N=>exact g
  |nr t C=>
   obtain⟨E,r⟩:=g;refine⟨E,?_⟩;rcases r with⟨l,m,n⟩|⟨b,B,D,l,m,n,x,y,z,A⟩
   .exact .inl ⟨by rw[l];rfl,m,n⟩
   .exact .inr ⟨b,B,D,l,by rw[awa];exact m,by rw[awa];exact n,x,y,z,by rw[awa];exact A.kill k⟩
 .obtain⟨a,f,rfl⟩:=q j ob c
  exact i.base j a b f p
 .obtain⟨a,f,rfl⟩:=q j ob c
  obtain⟨O,J,rfl⟩:=q K L I;exact i.inj _ _ _ _ _ f J p G
def VR.n_{Rd:bL}(t:VR Rd O (.sl F c N) g):
 ∃a i f,g=.slice a N.length i/\(∀r∈N,r.length=c)/\(∀d∈N.flatten,d.one=true)/\LR (VR Rd none) N.flatten f/\N.length<=i/\i<=maxLen/\(F=true->i=N.length)/\
  (f≠[]->∃b o,a=some ⟨b,o,none⟩/\∀(j:Nat) u,f[j]? =some u->Rd b (o+j) u):=by
 cases t with
 |sl f v l s q k m n p=>exact⟨_,_,f,rfl,v,l,⟨s,q⟩,k,m,n,p⟩
def LR.one{Rd:bL}(h:LR (VR Rd none) y s)(b:∀c∈y,c.one=true):∀u∈s,u.oneCell'=true:=by
 intro u f;obtain⟨j,a,rfl⟩:=awV f;have d:j<y.length:=by rw[<-h.1];exact a
 exact(h.2 j y[j] s[j] (awf d) (awf a)).kT (b _ (ayx _)) (λ_ _ h=>by cases h)
section
variable{P:Fd}
def tY(w:GE)(t k E:EQ)(i:TypeInfo)(j:P.underlying t=some (.slice E))(f:P.info? E=some i)(a c:At Addr)(n b d:Nat)(g:n<=b):
 (Builtin.append_ #[t,t] k #[.slice a n b,.slice c 0 d]).run P w=.ok (.slice a n b) w:=by
 cases a<;>cases c<;>simp[Builtin.append_,aww j,sizeOf,typeInfo,f,Builtin.lenOf,Builtin.firstCells,g,storeCells,loadCells,loadCellsFrom]
def Bx.setRow{B:Bs}{w:GE}(h:Bx B w){g:Nat}(d:B.iP g)(a:ey):Bx B (w.setRow g a):=
 h.step rfl rfl rfl (by simp[World.setRow]) λb c _=>ayS w g b a (λe=>c (by rw[e];exact d))
def SR.append(I:SR w0 Rd0 e h w){k:Nat}(a9:k<4294967296){E:EQ}{q:Nat}{d ys:Do (Do AV)}{wr tt:In}(hk:bc h k=some (.arr E q d wr))
 (t R:EQ) (i:TypeInfo) (z:Id) (Y:P.underlying t=some (.slice E)) (V:P.info? E=some i) (hz:i.zero=some z) (y:i.size=q) (aT:z.cells.size=q) (aJ:0<q)
 {aA:Id} (aN:VR (bT w0 Rd0 e h w) (some e) (.sl tt q ys) aA)
 (ak:d.length+ys.length<=maxLen) (aD:(d.length+ys.length)*i.bytes<=140737488355328):
 ∃v' w' nb l,(Builtin.append_ #[t,t] R #[e.sv k,aA]).run P w=.ok v' w'/\
  SR w0 Rd0 (e.cR k nb v' l) ((k,some (.arr E q (d++ys) wr))::bx k h) w'/\
  ∀b o u,bT w0 Rd0 e h w b o u->bT w0 Rd0 (e.cR k nb v' l) ((k,some (.arr E q (d++ys) wr))::bx k h) w' b o u:=by
 obtain⟨x,D⟩:=I.kill k;have H:bc (bx k h) k=some (.arr E q d wr):=by rw[dE,hk];rfl
 have ab:=eC k h;obtain⟨a2,U,us,rfl,ay,ax,Q,aU,aV,_,aQ⟩:=aN.n_;have aS:=eM ay;obtain⟨ag,aj,ao,ae⟩:=x.ob _ _ H;have a5:=eM ag;have aw:∀r∈d++ys,r.length=q:=λr f=>by
  rcases awc.1 f with f|f
  .exact ag r f
  .exact ay r f
 have av:∀c∈(d++ys).flatten,c.one=true:=λc K=>by
  rw[axM]at K;rcases awc.1 K with K|K
  .exact aj c K
  .exact ax c K
 unfold maxLen at ak;by_cases aF:ys.length=0
 ·
  have aR:ys=[]:=aw6 aF;subst aR;simp only[awN,aw4]at*;obtain⟨a,n,m,af,ac⟩:∃a n m,e.sv k=.slice a n m/\n<=m:=by
   rcases ae with⟨_,_,a,J⟩|⟨g,m,cur,F,af,a1,_⟩
   .exact⟨a,0,0,J,av5 _⟩
   .exact⟨_,_,_,af,a1⟩
  obtain⟨h1,h2⟩:=x.yk k (e.ca k) (e.sv k) (e.cX k) (some (.arr E q d wr)) I.ext (.inl ⟨ab,a9⟩) (av5 _) (λ_ _ _=>rfl)
   (λb p _=>⟨(x.base _ _ _ H p).1,(x.base _ _ _ H p).2,.inl ⟨_,H,p⟩⟩) (λb o u ob ho p a3 L=>⟨L,λ_ _=>a3⟩)
   (λRd C _ az W=>by
    obtain rfl:=av_ W;refine⟨ag,aj,λah=>by rw[Env.cq];exact ao ah,?_⟩;rcases ae with⟨f,al,a,J⟩|⟨g,m,cur,F,a6,a1,hm,M,a8,O,ap⟩
    .exact .inl ⟨f,by rw[Env.cc];exact al,a,by rw[Env.dZ];exact J⟩
    .exact .inr ⟨g,m,cur,by rw[Env.cc];exact F,by rw[Env.dZ];exact a6,a1,hm,M,a8,O.imp λ_ _ v=>v.mono C,by rw[Env.cq];exact ap⟩)
  refine⟨e.sv k,w,e.ca k,e.cX k,?_,h1,λb o u f=>h2 b o u (D b o u f)⟩;rw[af];exact tY w t R E i Y V a a2 n m U ac
 ·
  have aa:0<ys.length:=bv
  have A:us.length=ys.length*q:=by rw[Q.1,aS]
  have aP:us≠[]:=by
   intro hh;rw[hh]at A;have:=ayy aa aJ;simp at A;omega
  obtain⟨S,Z,rfl,aE⟩:=aQ aP;have a4:∀(j:Nat) u,us[j]? =some u->w.cell? ((⟨S,Z,none⟩:Addr).add j)=some u:=λj u N=>by
   rw[awT];exact(aE j u N).1
  have aO:=Q.one ax;have ai:∀(B:bI),LR (VR (bT w0 Rd0 e (bx k h) w) none) d.flatten B->∀(a0:Nat) (wv:GE),wv.heap=w.drew.heap->Bx w0 wv.drew->∀s,d.length+ys.length<=s->s<=maxLen->
   SR w0 Rd0 (e.cR k (some w.heap.size) (.slice (some ⟨w.heap.size,0,none⟩) (d.length+ys.length) s) 0) ((k,some (.arr E q (d++ys) wr))::bx k h)
    (w.drew.alloc (.cells (B.toArray++us.toArray++Builtin.zeroCells z.cells (s - (d.length+ys.length))) E))/\
   ∀b o u,bT w0 Rd0 e (bx k h) w b o u->bT w0 Rd0 (e.cR k (some w.heap.size) (.slice (some ⟨w.heap.size,0,none⟩) (d.length+ys.length) s) 0) ((k,some (.arr E q (d++ys) wr))::bx k h)
    (w.drew.alloc (.cells (B.toArray++us.toArray++Builtin.zeroCells z.cells (s - (d.length+ys.length))) E)) b o u:=by
   intro B X a0 wv _ _ s ac aG;have aM:(B.toArray++us.toArray++Builtin.zeroCells z.cells (s - (d.length+ys.length))).size=s*q:=by
    simp only[ayk,axX,axN,aT,X.1,a5,A,<-awK];congr 1;omega
   have aq:∀b,b<w.heap.size->(w.drew.alloc (.cells (B.toArray++us.toArray++Builtin.zeroCells z.cells (s - (d.length+ys.length))) E)).heap[b]? =w.heap[b]? :=λb p=>aei w.drew _ b p;refine x.yk k (some w.heap.size) _ 0 _ ((I.ext.drew).alloc _) (.inl ⟨ab,a9⟩) d5 (λb p _=>aq b p) (λb p _=>?_) (λb o u ob ho p a3 L=>?_) (λRd C _ az W=>?_)
   .obtain rfl:=av_ p
    exact⟨I.ext.iP (av5 _),d5,.inr (av5 _)⟩
   .have aC:=(x.base _ _ _ ho p).2
    refine⟨by rw[ayw (w:=w) (aq b aC)];exact L,λ_ aB=>?_⟩;obtain rfl:=av_ aB;omega
   .obtain rfl:=av_ W
    refine⟨aw,av,λ_=>Env.cq,.inr ⟨w.heap.size,s,_,Env.cc,?_,?_,aG,abL w.drew _,aM,?_,by rw[Env.cq];exact awy _⟩⟩
    .rw[Env.dZ,awl]
    .rw[awl];exact ac
    .rw[axM]
     have e1:(B.toArray++us.toArray++Builtin.zeroCells z.cells (s - (d.length+ys.length))).toList.take (d.flatten++ys.flatten).length=B++us:=by
      rw[ayl,ayl,awl,<-X.1,<-Q.1,<-awl];exact ayT
     rw[e1];exact(X.imp λ_ _ v=>v.mono C).append (Q.imp λ_ _ v=>v.mono λb o u f=>C b o u (D b o u f))
  have an:∀a0,grownCap w (d.length+ys.length) a0 E<=maxLen:=λa0=>azX w _ a0 E (by unfold maxLen;exact ak);rcases ae with⟨f,al,a,J⟩|⟨g,m,cur,F,a6,a1,hm,M,a8,O,ap⟩
  .subst f
   simp only[aw4,awB,awL]at*;have G:=ai [] LR.nil 0 w rfl I.ext.drew (grownCap w ys.length 0 E) (axu w _ 0 E) (an 0);cases a with
   |none=>
    refine⟨_,_,some w.heap.size,0,?_,G.1,λb o u f=>G.2 b o u (D b o u f)⟩;rw[J];have:=azY (P:=P) w t R E i z Y V hz ⟨S,Z,none⟩ ys.length U us (by rw[A,y]) a4 aa bv bv;simpa using this
   |some a=>
    refine⟨_,_,some w.heap.size,0,?_,G.1,λb o u f=>G.2 b o u (D b o u f)⟩;rw[J];have:=aym (P:=P) w t R E i z Y V hz a 0 0 [] d5 d5 ⟨S,Z,none⟩ ys.length U us (by rw[A,y]) a4 bv bv (by rw[awB,nextslicecap_zero aa];omega);simpa using this
  .by_cases ad:d.length+ys.length<=m
   ·
    have am:d.length*i.size+us.length<=cur.size:=by rw[y,A,a8,<-awK];exact ax_ _ ad
    have f:=run_append_room (P:=P) w t R E i Y V g d.length m cur M ⟨S,Z,none⟩ ys.length U us (by rw[A,y]) a4 aO ad am;have a7:=x.base _ _ _ H F;have aL:cur.toList.take (d.length*i.size)=cur.toList.take d.flatten.length:=by rw[y,a5]
    have ar:(cur.toList.take d.flatten.length).length=d.flatten.length:=O.1;rw[aL]at f;refine⟨_,_,some g,e.cX k,by rw[a6];exact f,?_⟩;have au:=azZ w g cur ((cur.toList.take d.flatten.length++us++cur.toList.drop (d.length*i.size+us.length)).toArray) E (0,0) M;obtain⟨h1,h2⟩:=x.yk (w':=w.setRow g (cur.toList.take d.flatten.length++us++cur.toList.drop (d.length*i.size+us.length)).toArray) k (some g) (.slice (some ⟨g,0,none⟩) (d.length+ys.length) m) (e.cX k) (some (.arr E q (d++ys) wr))
     (I.ext.setRow a7.1 _) (.inl ⟨ab,a9⟩) d5 (λb p aH=>ayS w g b _ (λhh=>aH _ H (by rw[F];exact awh some hh.symm)))
     (λb p _=>by
      obtain rfl:=av_ p;exact⟨a7.1,by simp;exact a7.2,.inl ⟨_,H,F⟩⟩)
     (λb o u ob ho p a3 L=>by
      obtain rfl:g=b:=av_ (F.symm.trans p);refine⟨?_,λ_ _=>a3⟩;have aI:o<d.flatten.length:=bv
      rw[aw8 w g o cur E (0,0) M]at L;rw[aw8 _ g o _ E (0,0) au];have:o<(cur.toList.take d.flatten.length).length:=bv
      simp only[axD];rw[awx,awY this,awP,av3 aI];simpa using L)
     (λRd C _ az W=>by
      obtain rfl:=av_ W;refine⟨aw,av,λah=>by rw[Env.cq];exact ao ah,.inr ⟨g,m,_,Env.cc,by rw[Env.dZ,awl],by rw[awl];exact ad,hm,au,?_,?_,?_⟩⟩
      .simp only[axX,awl,axO,ayn,ar]
       rw[y]at am⊢;rw[a5];omega
      .have e1:(cur.toList.take d.flatten.length++us++cur.toList.drop (d.length*i.size+us.length)).toArray.toList.take (d++ys).flatten.length=cur.toList.take d.flatten.length++us:=by
        rw[axM,awl,<-Q.1];exact ayU (by rw[awl,ar])
       rw[e1,axM];exact(O.imp λ_ _ v=>v.mono C).append (Q.imp λ_ _ v=>v.mono λb o u f=>C b o u (D b o u f))
      .rw[Env.cq,axM,awl];omega)
    exact⟨h1,λb o u f=>h2 b o u (D b o u f)⟩
   .have X:∀(j:Nat) u,(cur.toList.take d.flatten.length)[j]? =some u->w.cell? ((⟨g,0,none⟩:Addr).add j)=some u:=λj u N=>by
     rw[awT,awB,aw8 w g j cur E (0,0) M];rw[awP]at N;split at N
     .simpa using N
     .cases N
    have G:=ai _ O m w rfl I.ext.drew (grownCap w (d.length+ys.length) m E) (axu w _ m E) (an m);refine⟨_,_,some w.heap.size,0,?_,G.1,λb o u f=>G.2 b o u (D b o u f)⟩;rw[a6];exact aym (P:=P) w t R E i z Y V hz ⟨g,0,none⟩ d.length m (cur.toList.take d.flatten.length) (by rw[O.1,a5,y]) X ⟨S,Z,none⟩ ys.length U us (by rw[A,y]) a4 bv bv (ayV bv aD)
end
end
variable{C:Act}{G:Bs}{K:Hp}{A Z:If}{Q:EQ}
structure Ga(w0:Bs)(Rd0:bL)(e:Env)(st:St)(a:Act)(w:World):Prop where
 n:a.tmps.size=st.n/\st.n<=1000000
 d:a.defers=w0.df
 sr:SR w0 Rd0 e st.h w
 tr:TR (bT w0 Rd0 e st.h w) e st.t a.tmps
def na:Id->AV
 |.slice none 0 0=>.sl true 0 []
 |x=>.v x
def gA(g:Nat):AV:=match abJ aeh g with
 |some (k,l)=>.fp (l.map λx=>.v (.int k x))
 |none=>.un
def St.ev(s:St):If->AV
 |.tmp i=>bO s.t i
 |.const v=>na v
 |.global g=>gA g
 |.func f=>.v (.func (.func f) #[] #[])
def HQ{Rd:bL}(x:Id):VR Rd O (na x) x:=by
 unfold na;split
 .exact VR.sl (rows:=[]) [] d5 d5 rfl d5 (av5 _) (awy _) (λ_=>rfl) d5
 .exact .v
def Ga.ev{q:Bs}{p:bL}{e:Env}{st:St}{a:Act}{w:GE}(h:Ga q p e st a w)(x:If):VR (bT q p e st.h w) (some e) (st.ev x) (a.eval x):=by
 cases x with
 |tmp i=>exact h.tr i
 |const v=>exact HQ v
 |global g=>
  simp only[St.ev,gA];split
  next k l r=>
   refine VR.fp (o:=0) (l.map λx=>Value.int k x) d5 (λj c u n b=>?_) λj u b=>?_
   .rw[awp]at n b
    cases m:l[j]? with
    |none=>rw[m]at n;cases n
    |some x=>rw[m]at n b;cases n;cases b;exact .v
   .rw[awp]at b
    cases m:l[j]? with
    |none=>rw[m]at b;cases b
    |some x=>
     rw[m]at b;cases b;rw[awB];exact h.sr.HO ⟨k,l,x,r,m,rfl⟩
  .exact .un
 |func f=>exact .v
def aj6:TypeDesc->In
 |.struct _|.array _ _=>true
 |_=>false
def UW(P:Fd)(t:EQ):At (In×Nat):=
 match P.underlying t,P.info? t with
 |some d,some i=>some (aj6 d,i.size)
 |_,_=>none
def KF(P:Fd)(t:EQ):At (EQ×Nat×Nat×bI):=
 match P.underlying t with
 |some (.slice e)=>match P.info? e with
  |some i=>match i.zero with
   |some z=>if z.cells.size=i.size then some (e,i.size,i.bytes,z.cells.toList)else none
   |none=>none
  |none=>none
 |_=>none
def arA(P:Fd)(t:EQ):At (Nat×EQ×Nat):=
 match P.underlying t with
 |some (.array n e)=>match P.info? e with
  |some i=>some (n,e,i.size)
  |none=>none
 |_=>none
def fdA(P:Fd)(t:EQ)(f:Nat):At (Nat×In×Nat):=
 match P.underlying t with
 |some (.struct c)=>match c[f]? with
  |some a=>match UW P a.type with
   |some (b,n)=>some (a.offset,b,n)
   |none=>none
  |none=>none
 |_=>none
def GK(st:St)(p:AV)(n:Nat)(b:Do AV):Prop:=
 match p with
 |.pt k o=>∃t a,bc st.h k=some (.box t a)/\t≠HN/\o+n<=a.length/\b=(a.drop o).take n
 |.pe k i f o=>(∃t e wr r,bc st.h k=some (.arr t f e wr)/\e[i]? =some r/\o+n<=r.length/\b=(r.drop o).take n)\/
  ∃t a c,bc st.h k=some (.nr t a)/\a[i]? =some c/\f=1/\o=0/\n=1/\b=[c]
 |.fp a=>n<=a.length/\b=a.take n
 |_=>False
def RS(P:Fd)(o:Oper)(st:St)(c:AV):Prop:=
 ∀g f e a w,Ga g f e st a w->∃v,VR (bT g f e st.h w) (some e) c v/\∀b,Ext w b->(execOp a.eval o).run P b=.ok (.value v) b
section
variable{P:Fd}{st:St}{d:jQ}{ty:EQ}{pos:String}{af:dY}{gd:gg}
def RS.move(x:If):RS P ⟨d,.move x,ty,pos,af,gd⟩ st (st.ev x):=λf b e a w h=>
 ⟨a.eval x,h.ev x,λc _=>by simp[execOp]⟩
def RS.assign(x:If):RS P ⟨d,.assign x,ty,pos,af,gd⟩ st (st.ev x):=λf b e a w h=>
 ⟨a.eval x,h.ev x,λc _=>by simp[execOp]⟩
def RS.pick(c x y:If)(t:In)(g:st.ev c=.v (.bool t)):RS P ⟨d,.pick c x y,ty,pos,af,gd⟩ st (if t then st.ev x else st.ev y):=λk j e a w h=>by
 have b:=h.ev c;rw[g]at b;have f:=b.bS;cases t
 .exact⟨a.eval y,by simpa using h.ev y,λi _=>by simp[execOp,f,asBool]⟩
 .exact⟨a.eval x,by simpa using h.ev x,λi _=>by simp[execOp,f,asBool]⟩
def LR.sub{R:AV->Id->Prop}(h:LR R y s)(o n:Nat)(a:o+n<=y.length):LR R ((y.drop o).take n) ((s.drop o).take n)/\((s.drop o).take n).length=n:=by
 refine⟨(h.drop o).take n,?_⟩;rw[awM,axO,h.1];omega
def HS(e:Ga G h u st C I){n:Nat}(g:GK st B n y){v:Id}(s:VR (bT G h u st.h I) (some u) B v):
 ∃b o w,v=.pointer (some ⟨b,o,none⟩)/\w.length=n/\LR (VR (bT G h u st.h I) (some u)) y w/\∀(j:Nat) a,w[j]? =some a->I.cell? ⟨b,o+j,none⟩=some a:=by
 cases B with
 |pt k o=>
  obtain⟨t,K,H,a4,O,rfl⟩:=g;cases s with
  |pt p=>
   obtain⟨_,q,w,E,a5,z⟩:=e.sr.ob _ _ H;obtain rfl:=av_ (E.symm.trans p);have A:=z.sub o n O;refine⟨q,o,_,rfl,A.2,A.1,λj a f=>?_⟩;rw[aw8 I q (o+j) w.toArray t (0,0) (a5.cells a4)];rw[awP]at f;split at f
   .rw[axt]at f;simpa using f
   .cases f
 |pe k i m o=>
  rcases g with g|⟨t,K,c,H,g,rfl,rfl,rfl,rfl⟩
  case inr=>
   cases s with
   |pe p=>
    obtain⟨_,Q⟩:=e.sr.ob _ _ H;rcases Q with⟨_,M,_⟩|⟨q,V,L,E,a3,X,hm,N,Z,z⟩
    .rw[M]at p;cases p
    obtain rfl:=av_ (E.symm.trans p);obtain⟨a,U,a6⟩:=z.get g;have hi:i<K.length:=(av7.1 g).1;refine⟨q,i*1+0,[a],rfl,rfl,LR.cons a6 LR.nil,λj u' f=>?_⟩;cases j with
    |zero=>
     simp at f;subst f;rw[aw8 I q _ L t (0,0) N];rw[awP,av3 hi]at U;simpa using U
    |succ j=>simp at f
  obtain⟨t,l,wr,r,H,J,O,rfl⟩:=g;cases s with
  |pe p=>
   obtain⟨D,a7,_,Q⟩:=e.sr.ob _ _ H;rcases Q with⟨_,M,_⟩|⟨q,V,L,E,a3,X,hm,N,Z,z,a8⟩
   .rw[M]at p;cases p
   obtain rfl:=av_ (E.symm.trans p);have a9:r.length=m:=D r (awg J);have fj:i<l.length:=(av7.1 J).1;have a0:(l.flatten.drop (i*m)).take m=r:=by
    have:∀(l:Do (Do AV)) (i:Nat),(∀r∈l,r.length=m)->l[i]? =some r->(l.flatten.drop (i*m)).take m=r:=by
     intro l
     induction l with
     |nil=>intro i _ F;simp at F
     |cons x l ih=>
      intro i D F;have R:x.length=m:=D x d5;cases i with
      |zero=>
       simp at F;subst F;simp only[ayz,awW,awI];exact ayU R
      |succ i=>
       rw[awI,awK,aya,az0,<-R,aAK];rw[R];exact ih i (λr J=>D r (by simp[J])) (by simpa using F)
    exact this l i D J
   have a2:((l.flatten.drop (i*m+o)).take n)=(r.drop o).take n:=by
    rw[<-a0,<-ayb,List.drop_take,ayo];congr 1;omega
   have a1:i*m+o+n<=l.flatten.length:=by
    rw[eM D];have:(i+1)*m<=l.length*m:=ax_ _ fj;rw[awK]at this;omega
   have A:=z.sub (i*m+o) n a1;rw[a2]at A;refine⟨q,i*m+o,_,rfl,A.2,A.1.imp λ_ _ s=>s.c9,λj a f=>?_⟩;rw[aw8 I q _ L t (0,0) N];rw[awP]at f;split at f
   .rw[axt,awP]at f
    split at f
    .simpa using f
    .cases f
   .cases f
 |fp K=>
  obtain⟨O,rfl⟩:=g;cases s with
  |fp w S Y W=>
   have z:LR (VR (bT G h u st.h I) none) K w:=⟨S,Y⟩;refine⟨_,_,w.take n,rfl,by rw[awM,S];omega,(z.take n).imp λ_ _ s=>s.c9,λj a f=>?_⟩;rw[awP]at f;split at f
   .exact(W j a f).1
   .cases f
 |_=>exact g.elim
def nQ{a:TypeDesc}(w:GE)(h:P.underlying m=some a):(isAgg m).run P w=.ok (aj6 a) w:=by
 simp only[isAgg,awi,aww h,awk];cases a<;>simp[aj6]
def cT{i:TypeInfo}(w:GE)(h:P.info? m=some i):(sizeOf m).run P w=.ok i.size w:=by
 simp[sizeOf,typeInfo,h]
def jg(h:UW P m=some (F,c)):∃a i,P.underlying m=some a/\P.info? m=some i/\F=aj6 a/\c=i.size:=by
 unfold UW at h;split at h
 next a i b e=>simp only[av6,awn]at h;exact⟨a,i,b,e,h.1.symm,h.2.symm⟩
 .cases h
def sb(l:UW P m=some (F,c)){b o:Nat}{us:bI}{w:GE}(k:us.length=c)(f:∀(j:Nat) u,us[j]? =some u->w.cell? ⟨b,o+j,none⟩=some u):
 (F=true->(loadVar m ⟨b,o,none⟩).run P w=.ok (.agg us.toArray) w)/\(F=false->∀u,us=[u]->(loadVar m ⟨b,o,none⟩).run P w=.ok u w):=by
 obtain⟨p,i,e,g,rfl,rfl⟩:=jg l;refine⟨λa=>?_,λa u n=>?_⟩
 .have:=run_loadCells_list (P:=P) w ⟨b,o,none⟩ us (λj u h=>by rw[awT];exact f j u h)
  rw[k]at this;simp only[loadVar,awi,nQ w e,awk,a,awG,cT w g,this,awm]
 .subst n
  have:=f 0 u rfl;simp only[axv]at this;simp only[loadVar,awi,nQ w e,awk,a,axE,aw1];simp[load,Sem.run,this]
def RS.load(x:UW P m=some (F,c))(q:GK st (st.ev A) c y)(v:(F=true/\B=.ag y)\/(F=false/\y=[B])):
 RS P ⟨d,.load m A,ty,pos,af,gd⟩ st B:=λC z e a w h=>by
 obtain⟨b,o,i,p,t,k,r⟩:=HS h q (h.ev A);have n:=λ(f:GE) (g:Ext w f)=>sb (P:=P) x (b:=b) (o:=o) (us:=i) (w:=f) t (λj u s=>g.cell (r j u s));rcases v with⟨l,rfl⟩|⟨l,rfl⟩
 .refine⟨.agg i.toArray,.ag i k.1 k.2,λf g=>?_⟩
  have:=(n f g).1 l;simp[execOp,Instr.loadAt,Instr.sureAddr,p,this]
 .obtain⟨u,rfl⟩:∃u,i=[u]:=by
   match i,k.1 with
   |[u],_=>exact⟨u,rfl⟩
  refine⟨u,k.2 0 B u rfl rfl,λf g=>?_⟩;have:=(n f g).2 l u rfl;simp[execOp,Instr.loadAt,Instr.sureAddr,p,this]
def hV(p:AV)(off:Nat):At AV:=
 match p with
 |.pt k o=>some (.pt k (o+off))
 |.pe k i b o=>some (.pe k i b (o+off))
 |.fp a=>some (.fp (a.drop off))
 |_=>none
def Le{p q:AV}{off:Nat}(e:hV p off=some q){v:Id}(r:VR (bT G h u K I) (some u) p v):
 ∃b o,v=.pointer (some ⟨b,o,none⟩)/\VR (bT G h u K I) (some u) q (.pointer (some ⟨b,o+off,none⟩)):=by
 cases r with
 |pt f=>simp only[hV,av6]at e;subst e;exact⟨_,_,rfl,.pt f⟩
 |pe f=>
  simp only[hV,av6]at e;subst e;refine⟨_,_,rfl,?_⟩;rw[ayW];exact .pe f
 |fp s n m l=>
  simp only[hV,av6]at e;subst e;refine⟨_,_,rfl,.fp (s.drop off) (by simp[n]) (λj c a g i=>?_) (λj a k=>?_)⟩
  .rw[axt]at g i;exact m _ c a g i
  .rw[axt]at k
   rw[ayW];exact l _ a k
 |_=>simp[hV]at e
def RS.fieldAddr(f:fdA P m c=some (v,F,W))(p:W≠0)(q:hV (st.ev A) v=some B):
 RS P ⟨d,.fieldAddr m A c,ty,pos,af,gd⟩ st B:=λG u e a w h=>by
 obtain⟨b,o,r,s⟩:=Le q (h.ev A);refine⟨_,s,λt C=>?_⟩;unfold fdA at f;split at f
 next y g=>
  split at f
  next fl j=>
   split at f
   next x D k=>simp only[av6,awn]at f;obtain⟨rfl,rfl,rfl⟩:=f;obtain⟨E,i,z,l,_,rfl⟩:=jg k;have n:(⟨b,o,none⟩:Addr).add fl.offset=⟨b,o+fl.offset,none⟩:=awT ..;simp[execOp,Instr.fieldAt,aww g,j,r,Instr.sureAddr,fieldPlace,cT t l,p,n]
   .cases f
  .cases f
 .cases f
def c_(h:KF P m=some (Q,c,v,s)):∃i a,P.underlying m=some (.slice Q)/\P.info? Q=some i/\i.zero=some a/\a.cells.size=c/\i.size=c/\i.bytes=v/\a.cells.toList=s:=by
 unfold KF at h;split at h
 next j b=>
  split at h
  next i e=>
   split at h
   next a f=>
    split at h
    next g=>simp only[av6,awn]at h;obtain⟨rfl,rfl,rfl,rfl⟩:=h;exact⟨i,a,b,e,f,g,rfl,rfl,rfl⟩
    .cases h
   .cases h
  .cases h
 .cases h
def xB(h:arA P m=some (c,Q,v)):∃i,P.underlying m=some (.array c Q)/\P.info? Q=some i/\i.size=v:=by
 unfold arA at h;split at h
 next f e a=>
  split at h
  next i b=>simp only[av6,awn]at h;obtain⟨rfl,rfl,rfl⟩:=h;exact⟨i,a,b,rfl⟩
  .cases h
 .cases h
def RS.W_{k:IntKind}{i:Int}
 (M:KF P m=some (Q,c,v,s)) (p:st.ev A=.sl F c N) (O:st.ev Z=.v (.int k i)) (z:0<=i) (n:N[i.toNat]? =some y) (a1:0<c):
 RS P ⟨d,.indexAddr m A Z,ty,pos,af,gd⟩ st (.fp y):=λw0 V e a w h=>by
 obtain⟨inf,zv,B,C,h3,h4,rfl,_,_⟩:=c_ M;have x:=h.ev A;rw[p]at x;have q:=h.ev Z;rw[O]at q;have q:=q.bS;obtain⟨W,X,S,G,g,Y,t,a0,hm,_,D⟩:=x.n_;have fj:i.toNat<N.length:=(av7.1 n).1;have a2:y.length=inf.size:=g y (awg n);have I:(N.flatten.drop (i.toNat*inf.size)).take inf.size=y:=by
  have:∀(N:Do (Do AV)) (i:Nat),(∀y∈N,y.length=inf.size)->N[i]? =some y->(N.flatten.drop (i*inf.size)).take inf.size=y:=by
   intro N
   induction N with
   |nil=>intro i _ f;simp at f
   |cons A N R=>
    intro i g f;have p:A.length=inf.size:=g A d5;cases i with
    |zero=>
     simp at f;subst f;simp only[ayz,awW,awI];exact ayU p
    |succ i=>
     rw[awI,awK,aya,az0,<-p,aAK];rw[p];exact R i (λy n=>g y (by simp[n])) (by simpa using f)
  exact this N i.toNat g n
 have J:i.toNat*inf.size+inf.size<=N.flatten.length:=by
  rw[eM g];have:(i.toNat+1)*inf.size<=N.length*inf.size:=ax_ _ fj;rw[awK]at this;omega
 have L:S≠[]:=by
  intro f;have:=t.1;rw[f]at this;simp only[aw4]at this;omega
 obtain⟨b,o,rfl,H⟩:=D L;have r:=t.sub (i.toNat*inf.size) inf.size J;rw[I]at r;refine⟨.pointer (some ⟨b,o+i.toNat*inf.size,none⟩),.fp _ r.1.1 r.1.2 (λj u l=>?_),λU a3=>?_⟩
 .rw[awP]at l
  split at l
  .rw[axt]at l
   rw[ayW];exact H _ u l
  .cases l
 .have E:(⟨b,o,none⟩:Addr).add (i.toNat*inf.size)=⟨b,o+i.toNat*inf.size,none⟩:=awT ..
  have K:i<(N.length:Int):=bv
  simp[execOp,Instr.indexAt,q,asIntOf,aww B,G,z,K,cT U C,E]
def RS.aj7{rows:Do (Do AV)}{wr:In}{k:IntKind}{i:Int}
 (D:KF P m=some (Q,c,v,s)) (E:st.ev A=.ow W) (y:bc st.h W=some (.arr Q c rows wr)) (F:st.ev Z=.v (.int k i)) (o:0<=i) (l:i<rows.length):
 RS P ⟨d,.indexAddr m A Z,ty,pos,af,gd⟩ st (.pe W i.toNat c 0):=λw0 H e a w h=>by
 obtain⟨j,zv,p,q,K,L,rfl,_,_⟩:=c_ D;have g:=h.ev A;rw[E]at g;have f:=h.ev Z;rw[F]at f;have f:=f.bS;obtain⟨Y,J,_,B⟩:=h.sr.ob _ _ y;rcases B with⟨z,N,_⟩|⟨b,n,I,x,C,O,X,S,R,V,U⟩
 .subst z;simp at l;omega
 have t:a.eval A=.slice (some ⟨b,0,none⟩) rows.length n:=by
  generalize M:a.eval A=u at g;cases g with
  |ow=>exact C
 refine⟨.pointer (some ⟨b,i.toNat*j.size+0,none⟩),.pe x,λG a0=>?_⟩;have r:(⟨b,0,none⟩:Addr).add (i.toNat*j.size)=⟨b,i.toNat*j.size,none⟩:=by rw[awT,awB]
 simp[execOp,Instr.indexAt,f,asIntOf,aww p,t,o,l,cT G q,r]
def RS.AM{k:IntKind}{i:Int}{q:AV}
 (t:arA P m=some (c,Q,v)) (y:st.ev Z=.v (.int k i)) (j:0<=i) (l:i<c) (s:hV (st.ev A) (i.toNat*v)=some q):
 RS P ⟨d,.indexAddr m A Z,ty,pos,af,gd⟩ st q:=λD B e a w h=>by
 obtain⟨g,n,p,rfl⟩:=xB t;have f:=h.ev Z;rw[y]at f;have f:=f.bS;obtain⟨b,o,u,x⟩:=Le s (h.ev A);refine⟨_,x,λz C=>?_⟩;have r:(⟨b,o,none⟩:Addr).add (i.toNat*g.size)=⟨b,o+i.toNat*g.size,none⟩:=awT ..;simp[execOp,Instr.indexAt,f,asIntOf,aww n,u,Instr.sureAddr,j,l,cT z p,r]
def vd(st:St):AV->cn
 |.sl _ _ a=>some a.length
 |.sw _ _ n _=>some n
 |.ow k=>match bc st.h k with
  |some (.arr _ _ a _)=>some a.length
  |some (.nr _ b)=>some b.length
  |_=>none
 |_=>none
def aj8(a:Ga G h u st C I)(b:vd st B=some c){v:Id}(q:VR (bT G h u st.h I) (some u) B v):∃m e,v=.slice m c e:=by
 cases q with
 |sl H D w A z s x y f=>simp only[vd,av6]at b;subst b;exact⟨_,_,rfl⟩
 | @ow u k=>
  simp only[vd]at b;split at b
  next t F E wr g=>
   simp only[av6]at b;subst b;obtain⟨_,_,_,j⟩:=a.sr.ob _ _ g;rcases j with⟨i,_,C,f⟩|⟨n,e,o,p,l,_⟩
   .subst i;exact⟨C,0,f⟩
   .exact⟨_,e,l⟩
  next t r g=>
   simp only[av6]at b;subst b;obtain⟨_,j⟩:=a.sr.ob _ _ g;rcases j with⟨i,_,C,f⟩|⟨n,e,o,p,l,_⟩
   .subst i;exact⟨C,0,f⟩
   .exact⟨_,e,l⟩
  .cases b
 |un=>simp[vd]at b
 |v=>simp[vd]at b
 |pt=>simp[vd]at b
 |pe=>simp[vd]at b
 |sw=>simp only[vd,av6]at b;subst b;exact⟨_,_,rfl⟩
 |_=>simp[vd]at b
def lH(P:Fd)(t:EQ):In:=match P.underlying t with|some (.slice _)=>true|_=>false
def RS.len{f:jP}(b:lH P m=true)(j:f[0]? =some m)(i:vd st (st.ev A)=some c):
 RS P ⟨d,.call ⟨.builtin .len, #[A],f⟩,ty,pos,af,gd⟩ st (.v (.int .i64 c)):=λq l e a w h=>by
 obtain⟨n,o,k⟩:=aj8 h i (h.ev A);refine⟨_,.v,λp _=>?_⟩;unfold lH at b;split at b
 next E g=>simp[execOp,resolve,invoke,builtin,Builtin.len_,j,aww g,k,goInt]
 .cases b
def RS.extract{x:If}{i:Nat}{f:Do AV}{c:AV}(n:st.ev x=.tu f)(j:f[i]? =some c):RS P ⟨d,.extract x i,ty,pos,af,gd⟩ st c:=λr o e a w h=>by
 have b:=h.ev x;rw[n]at b;obtain⟨p,g,k⟩:=b.HM;obtain⟨u,m,l⟩:=k.get j;exact⟨u,l,λq _=>by simp[execOp,Instr.extract,g,m]⟩
def RS.field{t:EQ}{x:If}{f l n:Nat}{o:In}{j:Do AV}{c:AV}(b:fdA P t f=some (l,o,n))(K:st.ev x=.ag j)(G:l+n<=j.length)
 (H:(o=true/\c=.ag ((j.drop l).take n))\/(o=false/\j[l]? =some c)):RS P ⟨d,.field t x f,ty,pos,af,gd⟩ st c:=λR L e a w h=>by
 have B:=h.ev x;rw[K]at B;obtain⟨q,y,z⟩:=B.fI;unfold fdA at b;split at b
 next N r=>
  split at b
  next g s=>
   split at b
   next M O D=>
    simp only[av6,awn]at b;obtain⟨rfl,rfl,rfl⟩:=b;obtain⟨Q,i,v,E,k,rfl⟩:=jg D;rcases H with⟨p,rfl⟩|⟨p,F⟩
    .have A:=z.sub g.offset i.size G
     refine⟨.agg ((q.drop g.offset).take i.size).toArray,.ag _ A.1.1 A.1.2,λm _=>?_⟩;rw[p]at k;have C:q.toArray.extract g.offset (g.offset+i.size)=((q.drop g.offset).take i.size).toArray:=by
      simp[aAL]
     simp[execOp,Instr.field,aww r,s,y,asAgg,part,nQ m v,<-k,cT m E,C]
    .obtain⟨u,J,I⟩:=z.get F
     refine⟨u,I,λm _=>?_⟩;rw[p]at k;simp[execOp,Instr.field,aww r,s,y,asAgg,part,nQ m v,<-k,J]
   .cases b
  .cases b
 .cases b
def AV.val:AV->Id
 |.v x=>x
 |_=>undef
end
variable{j:IR->Act->GE->Prop}{D:Oper}
def SS(P:Fd)(o:Oper)(st:St)(K:St->Prop):Prop:=
 ∀h b e a w next Q,Ga h b e st a w->(∀f,K f->∀i c g,Ga h b i f c g->next c g)->o.wp P a w next Q
section
variable{P:Fd}{st:St}{d:Nat}{ty:EQ}{pos:String}{af:dY}{gd:gg}{K:St->Prop}
def eO{w w':GE}{v:Id}{next:Act->GE->Prop}(a:(execOp C.eval D).run P w=.ok (.value v) w')(h:next (C.put D.dst v) w'):D.wp P C w next j:=by
 unfold Oper.wp;rw[a];exact h
def xC{w w':GE}{next:Act->GE->Prop}(a:(execOp C.eval D).run P w=.ok .skip w')(h:next (C.put D.dst undef) w'):D.wp P C w next j:=by
 unfold Oper.wp;rw[a];exact h
def Ga.put{f:Bs}{b:bL}{e:Env}{a:Act}{w:GE}(h:Ga f b e st a w){c:AV}{v:Id}(g:d<st.n)(i:VR (bT f b e st.h w) (some e) c v):
 Ga f b e ⟨st.n,(d,c)::st.t,st.h⟩ (a.put (some d) v) w:=
 ⟨by simpa[Act.put]using h.n,h.d,h.sr,h.tr.put (by rw[h.n.1];exact g) i⟩
def SS.read{b:Op}(j:RS P ⟨some d,b,ty,pos,af,gd⟩ st B)(g:d<st.n)(f:K ⟨st.n,(d,B)::st.t,st.h⟩):SS P ⟨some d,b,ty,pos,af,gd⟩ st K:=by
 intro m c e a w next Q h i
 obtain⟨v,l,k⟩:=j m c e a w h;exact eO (k w (Ext.refl w)) (i _ f _ _ _ (h.put g l))
def cellsOf:AV->At (Do AV)
 |.ag a=>some a
 |c=>if c.one then some [c]else none
def ql(h:g.oneCell'=true):g.cells= #[g]:=by
 cases g<;>simp_all[Value.oneCell',Value.cells]
def sd{Rd:bL}(a:cellsOf B=some y)(c:VR Rd (some u) B g)(j:∀k,B=.ow k->(u.sv k).oneCell'=true):
 ∃b,g.cells=b.toArray/\LR (VR Rd (some u)) y b:=by
 cases B with
 |ag l=>
  simp only[cellsOf,av6]at a;subst a;obtain⟨b,rfl,i⟩:=c.fI;exact⟨b,rfl,i⟩
 |_=>
  simp only[cellsOf]at a;split at a
  next e=>simp only[av6]at a;subst a;have:=c.kT e (λm k f h=>by cases f;exact j k h);exact⟨[g],by rw[ql this],LR.cons c LR.nil⟩
  .cases a
def Ga.ap7(a:Ga G h u st C I)(i:(match bc st.h c with|some (.arr ..)=>true|some (.nr ..)=>true|_=>false)=true):(u.sv c).oneCell'=true:=by
 split at i
 next t p o wr e=>
  obtain⟨_,_,_,f⟩:=a.sr.ob _ _ e;rcases f with⟨_,_,C,b⟩|⟨j,k,l,m,g,_⟩
  .rw[b];rfl
  .rw[g];rfl
 next t n e=>
  obtain⟨_,f⟩:=a.sr.ob _ _ e;rcases f with⟨_,_,C,b⟩|⟨j,k,l,m,g,_⟩
  .rw[b];rfl
  .rw[g];rfl
 .cases i
def q8(h:Hp):AV->In
 |.ow k=>match bc h k with|some (.arr ..)=>true|some (.nr ..)=>true|_=>false
 |_=>true
def Ga.q8(a:Ga G h u st C I)(b:q8 st.h B=true):∀k,B=.ow k->(u.sv k).oneCell'=true:=by
 rintro k rfl;exact a.ap7 b
def Ga.new(a:Ga G h u st C I)(g:d<st.n)(t:EQ)(l:t≠HN)(i:LR (VR (bT G h u st.h I) (some u)) y s):
 ∃e,Ga G h e ⟨st.n,(d,.pt d 0)::dm d st.t,(d,some (.box t (y.map (AV.kill d))))::bx d st.h⟩ (C.put (some d) (.pointer (some ⟨I.heap.size,0,none⟩))) (I.alloc (.cells s.toArray t)):=by
 obtain⟨j,c⟩:=a.sr.kill d;obtain⟨k,f⟩:=j.anr d t l ((i.imp λ_ _ m=>m.mono c).kill d) (eC d st.h) (by have:=a.n.2;omega) (zH d y);refine⟨_,⟨by simpa[Act.put]using a.n,a.d,k,TR.put ?_ (by rw[a.n.1];exact g) (.pt Env.cc)⟩⟩;exact(((a.tr.kill d).mono c).mono f).env d (ef d st.t) (λ_ b=>Env.bE b) (λ_ b=>Env.dy b)
def SS.box{t:EQ}{x:If}{b:Do AV}(m:t≠HN)(f:cellsOf (st.ev x)=some b)(l:q8 st.h (st.ev x)=true)(g:d<st.n)
 (c:K ⟨st.n,(d,.pt d 0)::dm d st.t,(d,some (.box t (b.map (AV.kill d))))::bx d st.h⟩):SS P ⟨some d,.box t x,ty,pos,af,gd⟩ st K:=by
 intro r p e a w next Q h k
 obtain⟨o,n,j⟩:=sd f (h.ev x) (h.q8 l);obtain⟨q,i⟩:=h.new g t m j;refine eO (v:=.pointer (some ⟨w.heap.size,0,none⟩)) (w':=w.alloc (.cells o.toArray t)) ?_ (k _ c _ _ _ i);simp[execOp,Instr.box,newVar,newRow,newObj,n,Sem.run]
def Fc(P:Fd)(t:EQ):At bI:=(P.info? t).bind λi=>i.zero.map λz=>z.cells.toList
def AN{Rd:bL}{E:At Env}(b:bI):LR (VR Rd E) (b.map na) b:=
 ⟨d5,λj c u a e=>by
  rw[awp,e]at a;simp at a;subst a;exact HQ u⟩
def SS.alloc{t:EQ}{z:bI}(l:t≠HN)(b:Fc P t=some z)(f:d<st.n)
 (c:K ⟨st.n,(d,.pt d 0)::dm d st.t,(d,some (.box t ((z.map na).map (AV.kill d))))::bx d st.h⟩):SS P ⟨some d,.alloc t,ty,pos,af,gd⟩ st K:=by
 intro q o e a w next Q h k
 obtain⟨p,g⟩:=h.new f t l (AN z);unfold Fc at b;obtain⟨i,j,b⟩:=ayp.1 b;obtain⟨n,m,rfl⟩:=awC.1 b;refine eO (v:=.pointer (some ⟨w.heap.size,0,none⟩)) (w':=w.alloc (.cells n.cells.toList.toArray t)) ?_ (k _ c _ _ _ g);simp[execOp,Instr.alloc,zeroValue,typeInfo,j,m,newVar,newRow,newObj,Sem.run]
def setCells{α:Type}(a:Do α)(o:Nat):Do α->Do α
 |[]=>a
 |x::b=>setCells (a.set o x) (o+1) b
def mM{α:Type}:∀(b a:Do α) (o:Nat),(setCells a o b).length=a.length
 |[],_,_=>rfl
 |x::b,a,o=>by rw[setCells,mM b];simp
def TR.jt{Rd:bL}{e e':Env}{t:Do (Nat×AV)}{a:ey}(h:TR Rd e t a)(b:∀j,e'.ca j=e.ca j)(c:∀j,e'.sv j=e.sv j):TR Rd e' t a:=λi=>(h i).jt rfl b c
def Ga.qZ{B:Bs}{r:bL}{k b:Nat}{t:EQ}(F:t≠HN):∀(xs:Do AV) (q:bI) (o:Nat) {st:St} {e:Env} {a:Act} {w:GE} {n:Do AV} (h:Ga B r e st a w) (l:bc st.h k=some (.box t n)) (y:e.ca k=some b)
 (m:LR (VR (bT B r e st.h w) (some e)) xs q) (D:∀u∈q,u.oneCell'=true) (L:o+xs.length<=n.length) (i:Nat) (z:Nat) (O:z+i=o),
 ∃I H C,(storeCells ⟨b,z,none⟩ q i).run P w=.ok () H/\Ga B r I ⟨st.n,st.t,(k,some (.box t (setCells n o xs)))::C⟩ a H/\∀j,j≠k->bc C j=bc st.h j
 |[],[],o,st,e,a,w,n,h,l,y,m,D,L,i,z,O=>by
  obtain⟨S,g,A,J,G,M⟩:=h.sr.ob _ _ l;have a6:=h.sr.base _ _ _ l y;obtain⟨Q,s⟩:=h.sr.yk k (e.ca k) (e.sv k) 0 (some (.box t n)) h.sr.ext (.inr ⟨rfl,rfl⟩) (av5 _) (λ_ _ _=>rfl)
   (λV E _=>⟨(h.sr.base _ _ _ l E).1,(h.sr.base _ _ _ l E).2,.inl ⟨_,l,E⟩⟩) (λV o' u' ob a8 E N Y=>by rw[S]at N;omega)
   (λRd s _ aa a3=>by
    obtain rfl:=av_ a3;exact⟨Env.cq,g,A,by rw[Env.cc];exact J,G,M.imp λ_ _ p=>(p.mono s).jt rfl (λj=>by by_cases f:j=k<;>simp[Env.cR,f]) (λj=>by by_cases f:j=k<;>simp[Env.cR,f])⟩)
  refine⟨_,w,st.h,rfl,⟨h.n,h.d,Q,(h.tr.mono s).jt (λj=>by by_cases f:j=k<;>simp[Env.cR,f]) (λj=>by by_cases f:j=k<;>simp[Env.cR,f])⟩,λ_ _=>rfl⟩
 |x::xs,u::q,o,st,e,a,w,n,h,l,y,m,D,L,i,z,O=>by
  have hx:VR (bT B r e st.h w) (some e) x u:=m.2 0 x u rfl rfl;have a2:LR (VR (bT B r e st.h w) (some e)) xs q:=⟨by simpa using m.1,λj c v X p=>m.2 (j+1) c v (by simpa using X) (by simpa using p)⟩;obtain⟨Q,s⟩:=h.sr.qZ F l y o hx;obtain⟨S,g,A,J,G,M⟩:=h.sr.ob _ _ l;obtain rfl:=av_ (J.symm.trans y);have R:∀j,(e.cR k (some g) (e.sv k) 0).ca j=e.ca j:=λj=>by by_cases f:j=k<;>simp[Env.cR,f,y]
  have U:∀j,(e.cR k (some g) (e.sv k) 0).sv j=e.sv j:=λj=>by by_cases f:j=k<;>simp[Env.cR,f]
  have Z:Ga B r (e.cR k (some g) (e.sv k) 0) ⟨st.n,st.t,(k,some (.box t (n.set o x)))::st.h⟩ a (w.setCell ⟨g,o,none⟩ u):=⟨h.n,h.d,Q,(h.tr.mono s).jt R U⟩;simp only[aws]at L;obtain⟨I,H,C,a4,a0,a1⟩:=Ga.qZ F xs q (o+1) Z bf Env.cc (a2.imp λ_ _ p=>(p.mono s).jt rfl R U) (λv p=>D v (by simp[p])) d7 (i+1) z bv;refine⟨I,H,C,?_,a0,λj f=>by rw[a1 j f,bd f]⟩;have W:(⟨g,z,none⟩:Addr).add i=⟨g,o,none⟩:=by rw[awT,O]
  have N:o<A.length:=by rw[M.1];omega
  have Y:w.cell? ⟨g,o,none⟩=some A[o]:=by
   rw[aw8 w g o A.toArray t (0,0) (G.cells F)];simp[N]
  have a7:=ayA w g o A.toArray t (G.cells F);have a9:=D u d5;have a5:(store ⟨g,o,none⟩ u).run P w=.ok () (w.setCell ⟨g,o,none⟩ u):=by
   cases u<;>simp_all[store,Sem.run,Value.oneCell']
  simp only[storeCells,awi,W,a5,awk];exact a4
 |[],u::q,_,_,_,_,_,_,_,_,_,m,_,_,_,_,_=>by have:=m.1;simp at this
 |x::xs,[],_,_,_,_,_,_,_,_,_,m,_,_,_,_,_=>by have:=m.1;simp at this
def LR.atF{Rd:bL}(h:LR (VR Rd (some u)) y s)(f:y.all AV.one=true)(l:∀k,.ow k∈y->(u.sv k).oneCell'=true):∀a∈s,a.oneCell'=true:=by
 intro a m;obtain⟨j,b,rfl⟩:=awV m;have c:j<y.length:=by rw[<-h.1];exact b
 have e:=ayx c;exact(h.2 j y[j] s[j] (awf c) (awf b)).kT (awt.1 f _ e) (λn k g i=>by cases g;exact l k (i▸e))
def Ga.mh{e i:Hp}(f:Ga G h u ⟨c,J,e⟩ C I)(g:∀j,bc i j=bc e j):Ga G h u ⟨c,J,i⟩ C I:=by
 have m:∀b o a,bT G h u e I b o a↔bT G h u i I b o a:=λb o a=>by unfold bT;simp only[g]
 exact⟨f.n,f.d,⟨f.sr.ext,f.sr.lA,λk ob l=>(f.sr.ob k ob (by rw[<-g];exact l)).mono λb o a=>(m b o a).1,λk ob b l=>f.sr.base k ob b (by rw[<-g];exact l),λk q ob r b n p=>f.sr.inj k q ob r b (by rw[<-g];exact n) (by rw[<-g];exact p),f.sr.yz⟩,f.tr.mono λb o a=>(m b o a).1⟩
def SS.qZ{t g:EQ}{x y:If}{k o:Nat}{l f:Do AV}{r:In}{n:Nat}(R:g≠HN)(L:st.ev x=.pt k o)(F:bc st.h k=some (.box g l))(O:UW P t=some (r,n))(C:cellsOf (st.ev y)=some f)(G:f.length=n)
 (s:f.all AV.one=true) (I:q8 st.h (st.ev y)=true) (J:f.all (q8 st.h)=true) (Z:o+n<=l.length) (z:K ⟨st.n,st.t,(k,some (.box g (setCells l o f)))::st.h⟩):
 SS P ⟨none,.store t x y,ty,pos,af,gd⟩ st K:=by
 intro w0 V e a w next Q h H
 obtain⟨q,S,m⟩:=sd C (h.ev y) (h.q8 I);have p:=h.ev x;rw[L]at p;generalize A:a.eval x=u at p;cases p with
 | @pt _ _ _ b B=>
  obtain⟨td,i,Y,v,_,rfl⟩:=jg O;obtain⟨W,U,X,M,D,E⟩:=Ga.qZ (P:=P) R f q o h F B m (m.atF s λj c=>h.q8 (awt.1 J _ c) j rfl) bv 0 o rfl;refine xC (w':=U) ?_ (H _ z _ _ _ ((D.mh (λj=>by
   by_cases c:j=k
   .subst c;rw[bf,bf]
   .rw[bd c,bd c,E j c]))))
  have N:q.length=i.size:=by rw[m.1];exact G
  simp[execOp,Instr.storeAt,Instr.sureAddr,A,storeVar,S,cT w v,N,M]
end
def AV.fz:AV->In
 |.un|.v _|.sl .. |.fp _=>true
 |_=>false
def VR.HT{Rd:bL}(h:VR Rd O B g)(l:B.fz=true):VR Rd none B g:=by
 cases h with
 |un=>exact .un
 |v=>exact .v
 |sl e m i c b f j k a=>exact .sl e m i c b f j k a
 |fp e c b a=>exact .fp e c b a
 |_=>simp[AV.fz]at l
def plA(P:Fd)(t:EQ):At (bI×(Nat->PL)):=
 match P.info? t,P.underlying t with
 |some a,some (.array _ e)=>
  match a.zero,P.info? e with
  |some z,some b=>some (z.cells.toList,λi=>some (i*b.size,b.size))
  |_,_=>none
 |some a,some (.struct c)=>
  match a.zero,c.toList.mapM (λf=>(P.info? f.type).map λi=>(f.offset,i.size))with
  |some z,some g=>some (z.cells.toList,λi=>g[i]?)
  |_,_=>none
 |_,_=>none
def hQ{α:Type}(c:Nat->PL)(a:Do α):Do (Nat×Do α)->At (Do α)
 |[]=>some a
 |(i,e)::f=>match c i with
  |none=>none
  |some (b,size)=>if e.length=size/\b+size<=a.length then hQ c (setCells a b e) f else none
def PN{R:L->Id->Prop}:∀(e:Do L) (a:bI) (b:Do L) (f:ey) (o:Nat),LR R b f.toList->LR R e a->
 LR R (setCells b o e) ((a.zipIdx).foldl (λ(b:ey) (p:Id×Nat)=>b.setIfInBounds (o+p.2) p.1) f).toList:=by
 have r:∀(e:Do L) (a:bI) (b:Do L) (f:ey) (o i:Nat),LR R b f.toList->LR R e a->
  LR R (setCells b (o+i) e) ((a.zipIdx i).foldl (λ(b:ey) (p:Id×Nat)=>b.setIfInBounds (o+p.2) p.1) f).toList:=by
  intro e
  induction e with
  |nil=>
   intro a b f o i h g;have:a=[]:=aw6 (by simpa using g.1);subst this;simpa[setCells]using h
  |cons x e q=>
   intro a b f o i h g;cases a with
   |nil=>have:=g.1;simp at this
   |cons u a=>
    have k:R x u:=g.2 0 x u rfl rfl;have l:LR R e a:=⟨by simpa using g.1,λj c v m n=>g.2 (j+1) c v (by simpa using m) (by simpa using n)⟩;simp only[setCells,List.zipIdx_cons,List.foldl_cons];rw[ayW];refine q a _ _ o (i+1) ?_ l;rw[ayR];exact h.set _ k
 intro e a b f o h g;exact r e a b f o 0 h g
def kU{α:Type}{R:α->Id->Prop}{place:Nat->PL}:∀(g:Do (Nat×Do α)) (k:Do (Nat×Id)) (c e:Do α) (b:ey),
 LR R c b.toList->g.length=k.length->(∀(j:Nat) p q,g[j]? =some p->k[j]? =some q->p.1=q.1/\LR R p.2 q.2.cells.toList)->hQ place c g=some e->
 ∃l,Instr.fill place b k=some l/\LR R e l.toList
 |[],[],c,e,b,h,_,_,a=>by
  simp only[hQ,av6]at a;subst a;exact⟨b,rfl,h⟩
 |(i,A)::g,(E,v)::k,c,e,b,h,f,o,a=>by
  obtain⟨rfl,n⟩:=o 0 _ _ rfl rfl;simp only at n;simp only[hQ]at a;cases m:place i with
  |none=>simp[m]at a
  |some z=>
   obtain⟨off,r⟩:=z;simp only[m]at a;split at a
   next B=>
    have s:=PN A v.cells.toList c b off h n;obtain⟨l,t,w⟩:=kU g k _ e _ s (by simpa using f) (λj p q x y=>o (j+1) p q (by simpa using x) (by simpa using y)) a;refine⟨l,?_,w⟩;have D:v.cells.size=r:=by have:=n.1;simp at this;omega
    have C:b.size=c.length:=by have:=h.1;simpa using this
    have u:(v.cells.size≠r||off+v.cells.size>b.size)=false:=d7
    simp only[Instr.fill,m,u];rw[av2 d5];rw[<-t];congr 1;rw[<-Array.foldl_toList,Array.toList_zipIdx]
   .cases a
 |[],_::_,_,_,_,_,f,_,_=>by simp at f
 |_::_,[],_,_,_,_,f,_,_=>by simp at f
def vo(st:St):AH->At (Do (Nat×Do AV))
 |[]=>some []
 |(i,x)::b=>match cellsOf (st.ev x),vo st b with
  |some a,some r=>some ((i,a)::r)
  |_,_=>none
def xD(st:St):AH->In
 |[]=>true
 |(_,x)::a=>q8 st.h (st.ev x) && xD st a
section
variable{P:Fd}{st:St}{d:Nat}{dd:jQ}{ty:EQ}{pos:String}{af:dY}{gd:gg}{K:St->Prop}
def PQ{o:Bs}{n:bL}{e:Env}{a:Act}{w:GE}(h:Ga o n e st a w):∀(c:AH) (f:Do (Nat×Do AV)),vo st c=some f->xD st c=true->
 f.length=(c.map λp=>(p.1,a.eval p.2)).length/\∀(j:Nat) p q,f[j]? =some p->(c.map λp=>(p.1,a.eval p.2))[j]? =some q->p.1=q.1/\LR (VR (bT o n e st.h w) (some e)) p.2 q.2.cells.toList
 |[],f,b,_=>by simp only[vo,av6]at b;subst b;simp
 |(i,x)::c,f,b,k=>by
  simp only[vo]at b;simp only[xD,av4]at k;cases g:cellsOf (st.ev x)with
  |none=>simp[g]at b
  |some y=>
   cases m:vo st c with
   |none=>simp[g,m]at b
   |some r=>
    simp only[g,m,av6]at b;subst b;obtain⟨s,t⟩:=PQ h c r m k.2;refine⟨by simpa using s,λj p q l b=>?_⟩;cases j with
    |zero=>
     simp at l b;subst l;subst b;obtain⟨z,v,u⟩:=sd g (h.ev x) (h.q8 k.1);exact⟨rfl,by simpa[v]using u⟩
    |succ j=>exact t j p q (by simpa using l) (by simpa using b)
def RS.build{c:HL}{p:Nat->PL}{f:Do (Nat×Do AV)}(b:plA P m=some (s,p))(C:vo st c.toList=some f)(B:xD st c.toList=true)
 (A:hQ p (s.map na) f=some y):RS P ⟨dd,.build m c,ty,pos,af,gd⟩ st (.ag y):=λG t e a w h=>by
 obtain⟨u,v⟩:=PQ h c.toList f C B;have D:LR (VR (bT G t e st.h w) (some e)) (s.map na) s.toArray.toList:=by simpa using AN s
 obtain⟨g,q,r⟩:=kU (place:=p) f _ (s.map na) y s.toArray D u v A;refine⟨.agg g.toList.toArray,.ag _ r.1 r.2,λF _=>?_⟩;have z:P.built m (c.map λ(i,x)=>(i,a.eval x)).toList=some g:=by
  unfold plA at b;unfold Program.built;simp only[axP];split at b
  next E n e j k=>
   split at b
   next H J l o=>simp only[av6,awn]at b;obtain⟨rfl,rfl⟩:=b;simp only[j,k,l,o];simpa using q
   .cases b
  next E I j k=>
   split at b
   next H L l o=>simp only[av6,awn]at b;obtain⟨rfl,rfl⟩:=b;simp only[j,k,l,o];simpa using q
   .cases b
  .cases b
 have:=run_build F m _ g z;simp only[execOp,awi,this,awk,awm,az1]
def iQ(h:Hp):AV->At (Hp×AV)
 |.ow k=>match bc h k with
  |some (.arr t b a _)=>some ((k,some (.arr t b a false))::h,.sl false b a)
  |_=>none
 |c=>if c.fz then some (h,c)else none
def jD(h:Hp):Do AV->At (Hp×Do AV)
 |[]=>some (h,[])
 |c::b=>match iQ h c with
  |some (f,a)=>match jD f b with
   |some (g,e)=>some (g,a::e)
   |none=>none
  |none=>none
def kV(h:Hp):AV->At (Hp×AV)
 |.ag a=>match jD h a with
  |some (e,b)=>some (e,.ag b)
  |none=>none
 |c=>iQ h c
def qm(h:Hp):Do AV->At (Hp×Do AV)
 |[]=>some (h,[])
 |c::b=>match kV h c with
  |some (f,a)=>match qm f b with
   |some (g,e)=>some (g,a::e)
   |none=>none
  |none=>none
structure qn(w0:Bs)(Rd0:bL)(e:Env)(h:Hp)(w:World)(e':Env)(h':Hp):Prop where
 sr:SR w0 Rd0 e' h' w
 rd:∀b o u,bT w0 Rd0 e h w b o u->bT w0 Rd0 e' h' w b o u
 ca:∀j,e'.ca j=e.ca j
 sv:∀j,e'.sv j=e.sv j
def qn.trans{f:Bs}{c:bL}{e g i:Env}{h k l:Hp}{w:GE}(a:qn f c e h w g k)(b:qn f c g k w i l):qn f c e h w i l:=
 ⟨b.sr,λx o u m=>b.rd x o u (a.rd x o u m),λj=>(b.ca j).trans (a.ca j),λj=>(b.sv j).trans (a.sv j)⟩
def qn.refl{a:Hp}(b:SR G h u a I):qn G h u a I u a:=⟨b,λ_ _ _ a=>a,λ_=>rfl,λ_=>rfl⟩
def q9{a f:Hp}(j:SR G h u a I){c i:AV}(l:VR (bT G h u a I) (some u) c g)(b:iQ a c=some (f,i)):
 ∃e,qn G h u a I e f/\VR (bT G h e f I) none i g:=by
 cases c with
 |ow k=>
  simp only[iQ]at b;split at b
  next t w v wr s=>
   simp only[av6,awn]at b;obtain⟨rfl,rfl⟩:=b;obtain⟨e,m,n,o,p,q⟩:=j.UU s;cases l with
   |ow=>exact⟨e,⟨m,n,o,p⟩,q⟩
  .cases b
 |_=>
  simp only[iQ]at b;split at b
  next r=>simp only[av6,awn]at b;obtain⟨rfl,rfl⟩:=b;exact⟨u,qn.refl j,l.HT r⟩
  .cases b
def Lf{m:Bs}{g:bL}{w:GE}:∀(i:Do AV) (b:bI) (e:Env) (h k:Hp) (n:Do AV),SR m g e h w->LR (VR (bT m g e h w) (some e)) i b->jD h i=some (k,n)->
 ∃q,qn m g e h w q k/\LR (VR (bT m g q k w) none) n b
 |[],b,e,h,k,n,p,f,a=>by
  simp only[jD,av6,awn]at a;obtain⟨rfl,rfl⟩:=a;have:b=[]:=aw6 (by simpa using f.1);subst this;exact⟨e,qn.refl p,LR.nil⟩
 |c::i,b,e,h,k,n,p,f,a=>by
  cases b with
  |nil=>have:=f.1;simp at this
  |cons u b=>
   simp only[jD]at a;split at a
   next r H A=>
    split at a
    next z t B=>simp only[av6,awn]at a;obtain⟨rfl,rfl⟩:=a;obtain⟨o,l,F⟩:=q9 p (f.2 0 c u rfl rfl) A;have C:LR (VR (bT m g o r w) (some o)) i b:=⟨by simpa using f.1,λj x y D E=>((f.2 (j+1) x y (by simpa using D) (by simpa using E)).mono l.rd).jt rfl l.ca l.sv⟩;obtain⟨v,s,G⟩:=Lf i b o r z t l.sr C B;exact⟨v,l.trans s,LR.cons (F.mono s.rd) G⟩
    .cases a
   .cases a
def vp{a f:Hp}(j:SR G h u a I){c i:AV}(k:VR (bT G h u a I) (some u) c g)(b:kV a c=some (f,i)):
 ∃e,qn G h u a I e f/\VR (bT G h e f I) none i g:=by
 cases c with
 |ag n=>
  simp only[kV]at b;split at b
  next p o q=>simp only[av6,awn]at b;obtain⟨rfl,rfl⟩:=b;obtain⟨m,rfl,r⟩:=k.fI;obtain⟨e,l,v⟩:=Lf n m u a p o j r q;exact⟨e,l,.ag m v.1 v.2⟩
  .cases b
 |_=>exact q9 j k (by simpa only[kV]using b)
def DU{m:Bs}{g:bL}{w:GE}:∀(i:Do AV) (b:bI) (e:Env) (h k:Hp) (n:Do AV),SR m g e h w->LR (VR (bT m g e h w) (some e)) i b->qm h i=some (k,n)->
 ∃q,qn m g e h w q k/\LR (VR (bT m g q k w) none) n b
 |[],b,e,h,k,n,p,f,a=>by
  simp only[qm,av6,awn]at a;obtain⟨rfl,rfl⟩:=a;have:b=[]:=aw6 (by simpa using f.1);subst this;exact⟨e,qn.refl p,LR.nil⟩
 |c::i,b,e,h,k,n,p,f,a=>by
  cases b with
  |nil=>have:=f.1;simp at this
  |cons u b=>
   simp only[qm]at a;split at a
   next r H A=>
    split at a
    next z t B=>simp only[av6,awn]at a;obtain⟨rfl,rfl⟩:=a;obtain⟨o,l,F⟩:=vp p (f.2 0 c u rfl rfl) A;have C:LR (VR (bT m g o r w) (some o)) i b:=⟨by simpa using f.1,λj x y D E=>((f.2 (j+1) x y (by simpa using D) (by simpa using E)).mono l.rd).jt rfl l.ca l.sv⟩;obtain⟨v,s,G⟩:=DU i b o r z t l.sr C B;exact⟨v,l.trans s,LR.cons (F.mono s.rd) G⟩
    .cases a
   .cases a
def Ga.cX{e b:Env}{c:Hp}(a:Ga G h e st C I)(l:qn G h e st.h I b c):Ga G h b ⟨st.n,st.t,c⟩ C I:=
 ⟨a.n,a.d,l.sr,(a.tr.mono l.rd).jt l.ca l.sv⟩
def zI(a:In)(n h:Nat):cn->In
 |some m=>m==h
 |none=>a && h==n
def zJ(c:In)(a:Do (Do AV))(b:Nat)(l h:Nat)(m:cn):AV:=
 .sl (zI c a.length h m) b ((a.take h).drop l)
end
mutual
def AV.jh(π:Nat->Nat):AV->AV
 |.un=>.un
 |.v x=>.v x
 |.sl g b f=>.sl g b f
 |.ow j=>.ow (π j)
 |.pt j o=>.pt (π j) o
 |.pe j i b o=>.pe (π j) i b o
 |.sw j l n b=>.sw (π j) l n b
 |.fp a=>.fp a
 |.mp j=>.mp (π j)
 |.ag a=>.ag (AV.vq π a)
 |.tu a=>.tu (AV.vq π a)
 |.cl c d a=>.cl c (AV.vq π d) (AV.vq π a)
def AV.vq(π:Nat->Nat):Do AV->Do AV
 |[]=>[]
 |c::a=>AV.jh π c::AV.vq π a
def AV.hL(p:Nat->In):AV->In
 |.un=>true
 |.v _=>true
 |.sl _ _ _=>true
 |.fp _=>true
 |.ow j=> !p j
 |.pt j _=> !p j
 |.pe j _ _ _=> !p j
 |.sw j _ _ _=> !p j
 |.mp j=> !p j
 |.ag a=>AV.oa p a
 |.tu a=>AV.oa p a
 |.cl _ b a=>AV.oa p b && AV.oa p a
def AV.oa(p:Nat->In):Do AV->In
 |[]=>true
 |c::a=>AV.hL p c && AV.oa p a
end
def mi(π:Nat->Nat):∀a:Do AV,AV.vq π a=a.map (AV.jh π)
 |[]=>rfl
 |c::a=>by rw[AV.vq,mi π a];rfl
def fJ{p:Nat->In}:∀{a:Do AV},AV.oa p a=true->∀(j:Nat) c,a[j]? =some c->c.hL p=true
 |[],_,j,c,h=>by simp at h
 |x::a,b,j,c,h=>by
  simp only[AV.oa,av4]at b;cases j with
  |zero=>simp at h;exact h▸b.1
  |succ j=>exact fJ b.2 j c (by simpa using h)
def HU{p:Nat->In}:∀{cs:Do AV},(∀c∈cs,c.hL p=true)->AV.oa p cs=true
 |[],_=>rfl
 |x::cs,a=>by simp[AV.oa,a x d5,HU (cs:=cs) λc b=>a c (by simp[b])]
def VR.jh{Rd:bL}{E:At Env}{c:AV}{u:Id}(h:VR Rd E c u){e e':Env}(m:E=some e)(π:Nat->Nat)(r:∀j,e'.ca (π j)=e.ca j)(K:∀j,e'.sv (π j)=e.sv j):
 VR Rd (some e') (c.jh π) u:=by
 have s:∀(g:Do AV) (a:bI),a.length=g.length->(∀(j:Nat) c u,g[j]? =some c->a[j]? =some u->VR Rd (some e') (c.jh π) u)->a.length=(AV.vq π g).length/\∀(j:Nat) c u,(AV.vq π g)[j]? =some c->a[j]? =some u->VR Rd (some e') c u:=by
  intro g a k p;rw[mi];refine⟨by simpa using k,λj c u d f=>?_⟩;rw[awp]at d;obtain⟨z,G,rfl⟩:=awC.1 d;exact p j z u G f
 induction h with
 |un=>exact .un
 |v=>exact .v
 |sl a L C k p d f F t q=>exact .sl a L C k p d f F t
 | @ow e0 j=>cases m;rw[<-K j];exact .ow
 | @pt e0 j o b h=>cases m;exact .pt (by rw[r j];exact h)
 | @pe e0 j i N o b h=>cases m;exact .pe (by rw[r j];exact h)
 | @sw e0 j l n N b o O h J d f=>cases m;exact .sw (by rw[r j];exact h) J d f
 |fp a k p t q=>exact .fp a k p t
 | @ag x g a k p q=>
  have:=s g a k λj c u d f=>q j c u d f m;exact .ag a this.1 this.2
 | @tu x g a k p q=>
  have:=s g a k λj c u d f=>q j c u d f m;exact .tu a this.1 this.2
 | @mp e0 j b h=>cases m;exact .mp (by rw[r j];exact h)
 | @cl x P A g a y k I p Q q M=>
  have d:=s A a k λj c u d f=>q j c u d f m;have f:=s g y I λj c u d f=>M j c u d f m;exact .cl a y d.1 f.1 d.2 f.2
def VR.KT{Rd:bL}{c:AV}(h:VR Rd O c g){e e':Env}(k:O=some e)(p:Nat->In)(f:c.hL p=true)
 (t:∀j,p j=false->e'.ca j=e.ca j) (F:∀j,p j=false->e'.sv j=e.sv j):VR Rd (some e') c g:=by
 induction h with
 |un=>exact .un
 |v=>exact .v
 |sl q G z m s a d A u r=>exact .sl q G z m s a d A u
 | @ow e0 j=>
  cases k;rw[<-F j (by simpa[AV.hL]using f)];exact .ow
 | @pt e0 j o b h=>
  cases k;exact .pt (by rw[t j (by simpa[AV.hL]using f)];exact h)
 | @pe e0 j i J o b h=>
  cases k;exact .pe (by rw[t j (by simpa[AV.hL]using f)];exact h)
 | @sw e0 j l n J b o L h E a d=>
  cases k;exact .sw (by rw[t j (by simpa[AV.hL]using f)];exact h) E a d
 |fp q m s u r=>exact .fp q m s u
 | @ag x y q m s r=>exact .ag q m λj c g a d=>r j c g a d k (fJ (by simpa[AV.hL]using f) j c a)
 | @tu x y q m s r=>exact .tu q m λj c g a d=>r j c g a d k (fJ (by simpa[AV.hL]using f) j c a)
 | @mp e0 j b h=>
  cases k;exact .mp (by rw[t j (by simpa[AV.hL]using f)];exact h)
 | @cl x M N y q K m C s P r I=>
  simp only[AV.hL,av4]at f;exact .cl q K m C (λj c g a d=>r j c g a d k (fJ f.1 j c a)) (λj c g a d=>I j c g a d k (fJ f.2 j c a))
def AV.lB(p:Nat->In)(c:AV):AV:=if c.hL p then c else .un
def Ob.lB(p:Nat->In):Ob->Ob
 |.box t a=>.box t (a.map (AV.lB p))
 |.arr t f c wr=>.arr t f c wr
 |.mp d b=>.mp d b
 |.nr t a=>.nr t (a.map (AV.lB p))
def iR(p:Nat->In):Hp->Hp
 |[]=>[]
 |(j,o)::h=>(j,if p j then none else o.map (Ob.lB p))::iR p h
def tZ(p:Nat->In):Do (Nat×AV)->Do (Nat×AV)
 |[]=>[]
 |(j,c)::t=>(j,c.lB p)::tZ p t
def q_(p:Nat->In)(c:AV):(c.lB p).hL p=true:=by
 unfold AV.lB;split
 .assumption
 .rfl
def VR.lB{Rd:bL}{E:At Env}{c:AV}{u:Id}(h:VR Rd E c u)(p:Nat->In):VR Rd E (c.lB p) u:=by
 unfold AV.lB;split
 .exact h
 .exact .un
def nR(p:Nat->In):∀(t:Do (Nat×AV)) (j:Nat),bO (tZ p t) j=(bO t j).lB p
 |[],_=>by simp[tZ,bO,AV.lB,AV.hL]
 |(i,c)::t,j=>by
  simp only[tZ,bO];split
  .rfl
  .exact nR p t j
def xE(p:Nat->In):∀(h:Hp) (j:Nat),bc (iR p h) j=if p j then none else(bc h j).map (Ob.lB p)
 |[],j=>by simp[iR,bc]
 |(i,o)::h,j=>by
  simp only[iR,bc];by_cases a:j=i
  .subst a;simp
  .simp only[a,aw1];exact xE p h j
def Ob.jh(π:Nat->Nat):Ob->Ob
 |.box t a=>.box t (AV.vq π a)
 |.arr t f c wr=>.arr t f c wr
 |.mp d b=>.mp d b
 |.nr t a=>.nr t (AV.vq π a)
def lO(π:Nat->Nat):Hp->Hp
 |[]=>[]
 |(j,o)::h=>(π j,o.map (Ob.jh π))::lO π h
def PR(π:Nat->Nat):Do (Nat×AV)->Do (Nat×AV)
 |[]=>[]
 |(j,c)::t=>(j,c.jh π)::PR π t
def PT(π:Nat->Nat):∀(t:Do (Nat×AV)) (j:Nat),bO (PR π t) j=(bO t j).jh π
 |[],_=>by simp[PR,bO,AV.jh]
 |(i,c)::t,j=>by
  simp only[PR,bO];split
  .rfl
  .exact PT π t j
def PU(π:Nat->Nat)(b:∀i j,π i=π j->i=j):∀(h:Hp) (j:Nat),bc (lO π h) (π j)=(bc h j).map (Ob.jh π)
 |[],j=>by simp[lO,bc]
 |(i,o)::h,j=>by
  simp only[lO,bc];by_cases a:j=i
  .subst a;simp
  .have:¬π j=π i:=λc=>a (b _ _ c)
   simp only[a,this,aw1];exact PU π b h j
def eP(h h':Hp)(k:Nat):bc (h++h') k=if h.any (λp=>p.1==k)then bc h k else bc h' k:=by
 induction h with
 |nil=>simp
 |cons p h b=>
  obtain⟨i,o⟩:=p;simp only[axh,bc,axY];by_cases a:k=i
  .subst a;simp
  .have:(i==k)=false:=by simp;exactλh=>a h.symm
   simp only[a,aw1,this,az2];exact b
def OR.jh{Rd:bL}{e e':Env}{w:GE}{k:Nat}{ob:Ob}(h:OR Rd e w k ob)(π:Nat->Nat)(f:∀j,e'.ca (π j)=e.ca j)(o:∀j,e'.sv (π j)=e.sv j)(r:∀j,e'.cX (π j)=e.cX j):
 OR Rd e' w (π k) (ob.jh π):=by
 cases ob with
 |box t n=>
  obtain⟨m,b,J,p,q,c⟩:=h;have E:=(VR.ag J c.1 c.2:VR Rd (some e) (.ag n) _).jh rfl π f o;obtain⟨x,I,G⟩:=VR.fI (by simpa only[AV.jh]using E);have:x=J:=by
   have:=awh (λv=>match v with|.agg a=>a.toList|_=>[]) I;simpa using this.symm
  subst this;exact⟨by rw[r];exact m,b,x,by rw[f];exact p,q,G⟩
 |arr t P O wr=>
  obtain⟨m,p,q,c⟩:=h;refine⟨m,p,λM=>by rw[r];exact q M,?_⟩;rcases c with⟨g,i,l⟩|⟨b,C,u,g,i,l,y,z,A,s,K⟩
  .exact .inl ⟨g,by rw[f];exact i,by rw[o];exact l⟩
  .exact .inr ⟨b,C,u,by rw[f];exact g,by rw[o];exact i,l,y,z,A,s,by rw[r];exact K⟩
 |mp d N=>
  obtain⟨m,b,arr,L,p,q,c⟩:=h;exact⟨by rw[r];exact m,b,arr,L,by rw[f];exact p,q,c⟩
 |nr t n=>
  obtain⟨m,c⟩:=h;refine⟨by rw[r];exact m,?_⟩;have F:(AV.vq π n).length=n.length:=by rw[mi,awa]
  rcases c with⟨g,i,l⟩|⟨b,C,u,g,i,l,y,z,A,s⟩
  .exact .inl ⟨by rw[g];rfl,by rw[f];exact i,by rw[o];exact l⟩
  .have E:=(VR.ag _ s.1 s.2:VR Rd (some e) (.ag n) _).jh rfl π f o
   obtain⟨x,I,G⟩:=VR.fI (by simpa only[AV.jh]using E);have:x=u.toList.take n.length:=by
    have:=awh (λv=>match v with|.agg a=>a.toList|_=>[]) I;simpa using this.symm
   subst this;exact .inr ⟨b,C,u,by rw[f];exact g,by rw[o,F];exact i,by rw[F];exact l,y,z,A,by rw[F];exact G⟩
def OR.KT{Rd:bL}{e e':Env}{w:GE}{k:Nat}{ob:Ob}(p:Nat->In)(h:OR Rd e w k ob)(a:p k=false)(g:∀j,p j=false->e'.ca j=e.ca j)(o:∀j,p j=false->e'.sv j=e.sv j)(x:e'.cX k=e.cX k):
 OR Rd e' w k (ob.lB p):=by
 cases ob with
 |box t L=>
  obtain⟨n,b,N,r,s,f⟩:=h;refine⟨by rw[x];exact n,b,N,by rw[g k a];exact r,s,by simpa using f.1,λj c u v I=>?_⟩;rw[awp]at v;obtain⟨q,G,rfl⟩:=awC.1 v;exact((f.2 j q u G I).lB p).KT rfl p (q_ p q) g o
 |arr t Q P wr=>
  obtain⟨n,r,s,f⟩:=h;refine⟨n,r,λM=>by rw[x];exact s M,?_⟩;rcases f with⟨i,l,m⟩|⟨b,E,F,i,l,m,z,A,C,y,J⟩
  .exact .inl ⟨i,by rw[g k a];exact l,by rw[o k a];exact m⟩
  .exact .inr ⟨b,E,F,by rw[g k a];exact i,by rw[o k a];exact l,m,z,A,C,y,by rw[x];exact J⟩
 |mp d O=>
  obtain⟨n,b,arr,K,r,s,f⟩:=h;exact⟨by rw[x];exact n,b,arr,K,by rw[g k a];exact r,s,f⟩
 |nr t L=>
  obtain⟨n,f⟩:=h;refine⟨by rw[x];exact n,?_⟩;rcases f with⟨i,l,m⟩|⟨b,E,F,i,l,m,z,A,C,y⟩
  .exact .inl ⟨by rw[i];rfl,by rw[g k a];exact l,by rw[o k a];exact m⟩
  .refine .inr ⟨b,E,F,by rw[g k a];exact i,by rw[o k a,awa];exact l,by rw[awa];exact m,z,A,C,?_⟩
   rw[awa];refine⟨by simpa using y.1,λj c u v I=>?_⟩;rw[awp]at v;obtain⟨q,G,rfl⟩:=awC.1 v;exact((y.2 j q u G I).lB p).KT rfl p (q_ p q) g o
def oY(B k:Nat):In:=Nat.ble B k && Nat.blt k (B+1000)
def VR.atG{Rd:bL}{e a:Env}{c:AV}(h:VR Rd (some e) c g)(p:Nat->In)(i:c.hL p=true)(π:Nat->Nat)(f:∀j,p j=false->a.ca (π j)=e.ca j)(l:∀j,p j=false->a.sv (π j)=e.sv j):
 VR Rd (some a) (c.jh π) g:=by
 have d:=h.KT (e':=⟨λk=>a.ca (π k),λk=>a.sv (π k),e.cX⟩) rfl p i (λj b=>f j b) (λj b=>l j b);exact d.jh rfl π (λ_=>rfl) (λ_=>rfl)
def mj{p:Nat->In}{c:AV}(h:c.hL p=true):c.lB p=c:=by simp[AV.lB,h]
def VR.ra{Rd:bL}{e e':Env}(π:Nat->Nat)(t:∀j,e'.ca j=e.ca (π j))(J:∀j,e'.sv j=e.sv (π j)){y:AV}(h:VR Rd O y g)(l:O=some e):∀{c:AV},y=c.jh π->VR Rd (some e') c g:=by
 have u:∀(s r:Do AV) (b:bI),s=AV.vq π r->b.length=s.length->(∀(j:Nat) c g,s[j]? =some c->b[j]? =some g->∀{z:AV},c=z.jh π->VR Rd (some e') z g)->b.length=r.length/\∀(j:Nat) c g,r[j]? =some c->b[j]? =some g->VR Rd (some e') c g:=by
  intro s r b A i a;rw[mi]at A;subst A;exact⟨by simpa using i,λj c g d f=>a j (c.jh π) g (by simp[d]) f rfl⟩
 induction h with
 |un=>intro c a;cases c<;>simp[AV.jh]at a;exact .un
 |v=>intro c a;cases c<;>simp[AV.jh]at a;subst a;exact .v
 |sl b K E i o d f F x n=>
  intro c a;cases c<;>simp[AV.jh]at a;obtain⟨rfl,rfl,rfl⟩:=a;exact .sl b K E i o d f F x
 | @ow e0 k=>
  intro c a;cases l;cases c<;>simp[AV.jh]at a;rename_i M;subst a;rw[<-J M];exact .ow
 |pt m=>
  intro c a;cases l;cases c<;>simp[AV.jh]at a;obtain⟨rfl,rfl⟩:=a;exact .pt ((t _).trans m)
 |pe m=>
  intro c a;cases l;cases c<;>simp[AV.jh]at a;obtain⟨rfl,rfl,rfl,rfl⟩:=a;exact .pe ((t _).trans m)
 |sw m I d f=>
  intro c a;cases l;cases c<;>simp[AV.jh]at a;obtain⟨rfl,rfl,rfl,rfl⟩:=a;exact .sw ((t _).trans m) I d f
 |fp b i o x n=>
  intro c a;cases c<;>simp[AV.jh]at a;subst a;exact .fp b i o x
 |ag b i o n=>
  intro c a;cases c<;>simp[AV.jh]at a;obtain⟨p,q⟩:=u _ _ b a i λj c g d f=>n j c g d f l;exact .ag b p q
 |tu b i o n=>
  intro c a;cases c<;>simp[AV.jh]at a;obtain⟨p,q⟩:=u _ _ b a i λj c g d f=>n j c g d f l;exact .tu b p q
 |mp m=>
  intro c a;cases l;cases c<;>simp[AV.jh]at a;subst a;exact .mp ((t _).trans m)
 |cl b C i G o Q n L=>
  intro c a;cases c<;>simp[AV.jh]at a;obtain⟨rfl,d,f⟩:=a;obtain⟨p,q⟩:=u _ _ b d i λj c g d f=>n j c g d f l;obtain⟨N,P⟩:=u _ _ C f G λj c g d f=>L j c g d f l;exact .cl b C p N q P
def OR.ra{Rd:bL}{e e':Env}{w:GE}{k:Nat}{ob:Ob}(π:Nat->Nat)(h:OR Rd e w (π k) (ob.jh π))(l:∀j,e'.ca j=e.ca (π j))(p:∀j,e'.sv j=e.sv (π j))(u:e'.cX k=e.cX (π k)):OR Rd e' w k ob:=by
 cases ob with
 |box t o=>
  obtain⟨n,b,G,r,s,i⟩:=h;refine⟨by rw[u];exact n,b,G,by rw[l];exact r,s,?_⟩;have:=(VR.ag G i.1 i.2:VR Rd (some e) (.ag _) _).ra π l p rfl (c:=.ag o) (by simp[AV.jh]);obtain⟨I,F,E⟩:=VR.fI this;have:I=G:=by
   have:=awh (λv=>match v with|.agg a=>a.toList|_=>[]) F;simpa using this.symm
  subst this;exact E
 |arr t P O wr=>
  obtain⟨n,r,s,i⟩:=h;refine⟨n,r,λM=>by rw[u];exact s M,?_⟩;rcases i with⟨m,f,g⟩|⟨b,C,x,m,f,g,y,z,A,q,K⟩
  .exact .inl ⟨m,by rw[l];exact f,by rw[p];exact g⟩
  .exact .inr ⟨b,C,x,by rw[l];exact m,by rw[p];exact f,g,y,z,A,q,by rw[u];exact K⟩
 |mp d N=>
  obtain⟨n,b,arr,L,r,s,i⟩:=h;exact⟨by rw[u];exact n,b,arr,L,by rw[l];exact r,s,i⟩
 |nr t o=>
  obtain⟨n,i⟩:=h;refine⟨by rw[u];exact n,?_⟩;have J:(AV.vq π o).length=o.length:=by rw[mi,awa]
  rcases i with⟨m,f,g⟩|⟨b,C,x,m,f,g,y,z,A,q⟩
  .exact .inl ⟨aw6 (by rw[<-J,m];rfl),by rw[l];exact f,by rw[p];exact g⟩
  .rw[J]at f g q
   have:=(VR.ag _ q.1 q.2:VR Rd (some e) (.ag _) _).ra π l p rfl (c:=.ag o) (by simp[AV.jh]);obtain⟨I,F,E⟩:=VR.fI this;have:I=x.toList.take o.length:=by
    have:=awh (λv=>match v with|.agg a=>a.toList|_=>[]) F;simpa using this.symm
   subst this;exact .inr ⟨b,C,x,by rw[l];exact m,by rw[p];exact f,g,y,z,A,E⟩
def yA:bu->Nat->cn
 |[],_=>none
 |(p,c)::D,k=>cond (Nat.beq k p) (some c) (yA D k)
def UQ:bu->Nat->cn
 |[],_=>none
 |(p,c)::D,k=>cond (Nat.beq k c) (some p) (UQ D k)
def gC(D:bu)(B k:Nat):Nat:=match yA D k with
 |some c=>c
 |none=>B+k
def Gp:a_->In
 |[]=>true
 |x::l=> !(l.any (Nat.beq x)) && Gp l
def PE(B:Nat)(D:bu):In:=D.all (λq=>Nat.ble 4294967296 q.1 && !oY B q.2) && Gp (D.map (·.1)) && Gp (D.map (·.2)) && Nat.ble (B+1000) 4294967296
def KG(D:bu)(k:Nat):In:=Nat.blt k 1000||(yA D k).isSome
def obX(D:bu):Ob->In
 |.box _ a=>AV.oa (λk=> !KG D k) a
 |.nr _ a=>AV.oa (λk=> !KG D k) a
 |_=>true
def od(D:bu)(H:Hp):In:=H.all λp=>KG D p.1 && (match p.2 with|some ob=>obX D ob|none=>true)
def qo(D:bu):Hp:=D.map λq=>(q.2,none)
def Nk(h:¬c=v):Nat.beq c v=false:=by
 cases a:Nat.beq c v with
 |false=>rfl
 |true=>exact absurd (awb a) h
def gU:∀{D:bu} {p c:Nat},yA D p=some c->(p,c)∈D
 |[],p,c,h=>by cases h
 |(q,x)::D,p,c,h=>by
  simp only[yA]at h;by_cases e:p=q
  .subst e;rw[awD]at h;cases h;simp
  .rw[Nk e]at h;exact aw5 _ (gU h)
def aej:∀{l:a_} {x:Nat},Gp (x::l)=true->x∉l:=λ{l x} h a=>by
 simp only[Gp,av4,axi,List.any_eq_false]at h;exact h.1 x a (awD x)
def oe:∀{D:bu} {p c:Nat},Gp (D.map (·.2))=true->(p,c)∈D->UQ D c=some p
 |[],p,c,_,h=>by cases h
 |(q,x)::D,p,c,a,h=>by
  simp only[UQ];rcases awr.1 h with h|h
  .cases h;rw[awD];rfl
  .have d:x∉D.map (·.2):=aej (by simpa using a)
   have b:¬c=x:=λe=>d (by rw[<-e];exact awe.2 ⟨_,h,rfl⟩);rw[Nk b];exact oe (by simp only[awo,Gp,av4]at a;exact a.2) h
def Xa:∀{D:bu} {p c:Nat},UQ D c=some p->(p,c)∈D
 |[],p,c,h=>by cases h
 |(q,x)::D,p,c,h=>by
  simp only[UQ]at h;by_cases e:c=x
  .subst e;rw[awD]at h;cases h;simp
  .rw[Nk e]at h;exact aw5 _ (Xa h)
def cB(D:bu)(B:Nat)(e:Env)(w:GE):Bs:=
 ⟨w,λb=>∃p c,yA D p=some c/\e.ca c=some b,λk=>e.ca (gC D B k),λk=>e.sv (gC D B k),[]⟩
def cRd(D:bu)(B:Nat)(w0:Bs)(Rd0:bL)(e:Env)(h:Hp)(w:GE)(b o:Nat)(u:Id):Prop:=bT w0 Rd0 e h w b o u/\¬(cB D B e w).iP b
def Env.pi(D:bu)(B:Nat)(e:Env):Env:=⟨λk=>e.ca (gC D B k),λk=>e.sv (gC D B k),λk=>e.cX (gC D B k)⟩
def Env.eX(D:bu)(B:Nat)(e e2:Env):Env:=
 ⟨λk=>if oY B k then e2.ca (k - B)else e.ca k,λk=>if oY B k then e2.sv (k - B)else e.sv k,
  λk=>if oY B k then e2.cX (k - B)else match UQ D k with
   |some p=>e2.cX p
   |none=>e.cX k⟩
def Handed(D:bu)(e:Env)(h:Hp):Prop:=∀p c,yA D p=some c->(∃ob,bc h c=some ob)/\e.cX c=0
section
variable{w0:Bs}{w w':GE}{Rd0:bL}{e e2:Env}{h H H0:Hp}{D:bu}{B:Nat}
def bT.qp(t:Handed D e h)(f:bT w0 Rd0 e h w c v g)(m:∀p ob,bc H0 p=some ob->∃a,yA D p=some a/\∃b,bc h a=some b):
 bT (cB D B e w) (cRd D B w0 Rd0 e h w) (e.pi D B) H0 w c v g:=by
 have r:=f;obtain⟨j,s,k⟩:=r;refine⟨j,λn=>⟨f,n⟩,λp ob q d=>?_⟩;obtain⟨a,l,b,o⟩:=m p ob q;have i:gC D B p=a:=by simp[gC,l]
 simp only[Env.pi,i]at d⊢;exact k a b o d
def SR.PW(b:SR w0 Rd0 e h w)(m:Handed D e h)(d:GT c v g):¬(cB D B e w).iP c:=by
 have n:=b.HO d;have f:=(b.lA.1 c v g (b.lA.2 _ _ _ d)).2;rintro(k|⟨p,a,j,i⟩)
 .have:=ax7 w _ n.1
  simp only[cB]at k;simp only at this;omega
 .obtain⟨⟨ob,l⟩,_⟩:=m p a j
  exact f (b.base a ob c l i).1
def SR.qp(l:SR w0 Rd0 e h w)(y:Handed D e h)(q:PE B D=true)
 (j:∀p ob,bc H0 p=some ob->∃c d,yA D p=some c/\bc h c=some d/\∀Rd,OR Rd e w c d->OR Rd e w c (ob.jh (gC D B))):
 SR (cB D B e w) (cRd D B w0 Rd0 e h w) (e.pi D B) H0 w:=by
 have E:∀p ob,bc H0 p=some ob->∃c,yA D p=some c/\∃d,bc h c=some d:=λp ob g=>by
  obtain⟨c,d,a,b,_⟩:=j p ob g;exact⟨c,a,d,b⟩
 have m:∀{p c},yA D p=some c->gC D B p=c:=λ{p c} f=>by simp[gC,f]
 refine⟨⟨rfl,rfl,rfl,av5 _,λ_ _=>rfl,av5 _⟩,⟨λb o u n=>⟨n.1.1,n.2⟩,λb o u x=>⟨l.HO x,l.PW y x⟩⟩,λp ob g=>?_,λp ob b g i=>?_,λp J ob d b g I i t=>?_,λk _=>⟨rfl,rfl⟩⟩
 .obtain⟨c,d,f,r,C⟩:=j p ob g
  have s:=C _ (l.ob c d r);have A:=m f;rw[<-A]at s;exact(OR.ra (gC D B) s (e':=e.pi D B) (λ_=>rfl) (λ_=>rfl) rfl).mono λb o u n=>n.qp y E
 .obtain⟨c,d,f,r,_⟩:=j p ob g
  simp only[Env.pi,m f]at i;exact⟨.inr ⟨p,c,f,i⟩,(l.base c d b r i).2⟩
 .obtain⟨c,M,f,F,_⟩:=j p ob g
  obtain⟨L,N,v,G,_⟩:=j J d I;simp only[Env.pi,m f]at i;simp only[Env.pi,m v]at t;have:=l.inj _ _ _ _ _ F G i t;subst this;simp only[PE,av4]at q;have K:=oe q.1.2 (gU f);have z:=oe q.1.2 (gU v);rw[K]at z;exact av_ z
def SR.eX(J:SR w0 Rd0 e h w)(hp:Handed D e h)(hD:PE B D=true)(y:SR (cB D B e w) (cRd D B w0 Rd0 e h w) e2 H w')(A:od D H=true):
 SR w0 Rd0 (e.eX D B e2) (lO (gC D B) H++(qo D++iR (oY B) h)) w'/\
 (∀b o u,bT w0 Rd0 e h w b o u->bT w0 Rd0 (e.eX D B e2) (lO (gC D B) H++(qo D++iR (oY B) h)) w' b o u)/\
 (∀b o u,bT (cB D B e w) (cRd D B w0 Rd0 e h w) e2 H w' b o u->bT w0 Rd0 (e.eX D B e2) (lO (gC D B) H++(qo D++iR (oY B) h)) w' b o u)/\
 (∀k,KG D k=true->(e.eX D B e2).ca (gC D B k)=e2.ca k/\(e.eX D B e2).sv (gC D B k)=e2.sv k):=by
 have ag:=hD;simp only[PE,av4,awt,axi]at ag;obtain⟨⟨⟨d1,d2⟩,d3⟩,d4⟩:=ag;have d4:B+1000<=4294967296:=awd d4;have M:∀p c,yA D p=some c->4294967296<=p/\oY B c=false:=λp c l=>by
  have:=d1 _ (gU l);exact⟨awd this.1,this.2⟩
 have ar:∀p p' c,yA D p=some c->yA D p'=some c->p=p':=λp p' c W X=>by
  have r1:=oe d3 (gU W);have r2:=oe d3 (gU X);rw[r1]at r2;exact av_ r2
 have fj:∀k,oY B k=true↔B<=k/\k<B+1000:=λk=>by simp[oY]
 have a4:∀k,k<1000->gC D B k=B+k:=λk a=>by
  unfold gC;cases l:yA D k with
  |none=>rfl
  |some c=>have:=(M k c l).1;omega
 have R:∀p c,yA D p=some c->gC D B p=c:=λp c l=>by simp[gC,l]
 have a6:∀k,k<1000->oY B (B+k)=true:=λk a=>(fj (B+k)).2 ⟨bv,bv⟩;have O:∀k,KG D k=true->(e.eX D B e2).ca (gC D B k)=e2.ca k:=λk a=>by
  simp only[KG,aw2]at a;rcases a with a|a
  .have a:k<1000:=awd a
   rw[a4 k a];simp[Env.eX,a6 k a]
  .obtain⟨c,l⟩:=axQ.1 a
   have:=y.yz k (M k c l).1;rw[this.1,R k c l];simp[Env.eX,(M k c l).2,cB,R k c l]
 have ak:∀k,KG D k=true->(e.eX D B e2).sv (gC D B k)=e2.sv k:=λk a=>by
  simp only[KG,aw2]at a;rcases a with a|a
  .have a:k<1000:=awd a
   rw[a4 k a];simp[Env.eX,a6 k a]
  .obtain⟨c,l⟩:=axQ.1 a
   have:=y.yz k (M k c l).1;rw[this.2,R k c l];simp[Env.eX,(M k c l).2,cB,R k c l]
 have aj:∀k,KG D k=true->(e.eX D B e2).cX (gC D B k)=e2.cX k:=λk a=>by
  simp only[KG,aw2]at a;rcases a with a|a
  .have a:k<1000:=awd a
   rw[a4 k a];simp[Env.eX,a6 k a]
  .obtain⟨c,l⟩:=axQ.1 a
   rw[R k c l];simp[Env.eX,(M k c l).2,oe d3 (gU l)]
 have Q:∀k,oY B k=false->(e.eX D B e2).ca k=e.ca k:=λk a=>by simp[Env.eX,a]
 have an:∀k,oY B k=false->(e.eX D B e2).sv k=e.sv k:=λk a=>by simp[Env.eX,a]
 have ae:∀k,oY B k=false->UQ D k=none->(e.eX D B e2).cX k=e.cX k:=λk a L=>by simp[Env.eX,a,L]
 have aD:∀k s,KG D k=true->KG D s=true->gC D B k=gC D B s->k=s:=by
  intro k s a r C;simp only[KG,aw2]at a r;rcases a with a|a
  .have a:k<1000:=awd a
   rw[a4 k a]at C;rcases r with r|r
   .have r:s<1000:=awd r
    rw[a4 s r]at C;omega
   .obtain⟨c,l⟩:=axQ.1 r
    rw[R s c l]at C;have:=(M s c l).2;rw[<-C,a6 k a]at this;cases this
  .obtain⟨c,l⟩:=axQ.1 a
   rw[R k c l]at C;rcases r with r|r
   .have r:s<1000:=awd r
    rw[a4 s r]at C;have:=(M k c l).2;rw[C,a6 s r]at this;cases this
   .obtain⟨c',ai⟩:=axQ.1 r
    rw[R s c' ai]at C;subst C;exact ar _ _ _ l ai
 have ay:∀(H:Hp),od D H=true->∀k ob,bc H k=some ob->KG D k=true/\obX D ob=true:=by
  intro H
  induction H with
  |nil=>intro _ k ob hh;simp[bc]at hh
  |cons q H ih=>
   intro A k ob a;obtain⟨i,o⟩:=q;simp only[od,axb,av4]at A;by_cases P:k=i
   .subst P
    rw[bf]at a;subst a;exact⟨A.1.1,A.1.2⟩
   .rw[bd P]at a
    exact ih (by simpa[od]using A.2) k ob a
 have aC:∀(H:Hp),od D H=true->∀k,(lO (gC D B) H).any (λq=>q.1==k)=true->∃j,KG D j=true/\gC D B j=k/\bc (lO (gC D B) H) k=(bc H j).map (Ob.jh (gC D B)):=by
  intro H
  induction H with
  |nil=>intro _ k G;simp[lO]at G
  |cons q H ih=>
   intro A k G;obtain⟨i,o⟩:=q;simp only[od,axb,av4]at A;simp only[lO,axY,aw2,ayX]at G;by_cases P:gC D B i=k
   .refine⟨i,A.1.1,P,?_⟩
    simp only[lO,bc,P,awG]
   .obtain⟨j,j1,j2,j3⟩:=ih (by simpa[od]using A.2) k (G.resolve_left P)
    refine⟨j,j1,j2,?_⟩;have ax:¬j=i:=λe=>P (by rw[<-e];exact j2);have az:¬k=gC D B i:=λe=>P e.symm;simp only[lO,bc,az,aw1,ax,j3]
 have av:∀(D:bu) k,bc (qo D) k=none:=by
  intro D k
  induction D with
  |nil=>rfl
  |cons q D ih=>
   simp only[qo,awo,bc];split
   .rfl
   .exact ih
 have au:∀k,(qo D).any (λq=>q.1==k)=false->UQ D k=none:=by
  intro k a;cases L:UQ D k with
  |none=>rfl
  |some p=>
   have:=Xa L;rw[List.any_eq_false]at a;exact absurd d5 (a (k,none) (awe.2 ⟨_,this,rfl⟩))
 have Z:∀k ob,bc (lO (gC D B) H++(qo D++iR (oY B) h)) k=some ob->(∃j f,KG D j=true/\obX D f=true/\k=gC D B j/\bc H j=some f/\ob=f.jh (gC D B))\/(oY B k=false/\UQ D k=none/\∃f,bc h k=some f/\ob=f.lB (oY B)):=by
  intro k ob a;rw[eP]at a;split at a
  next G=>obtain⟨j,j1,j2,j3⟩:=aC H A k G;rw[j3]at a;obtain⟨f,n,rfl⟩:=awC.1 a;exact .inl ⟨j,f,j1,(ay H A j f n).2,j2.symm,n,rfl⟩
  .rw[eP]at a
   split at a
   .rw[av]at a;cases a
   next _ G=>
    have G:(qo D).any (λq=>q.1==k)=false:=(Bool.not_eq_true _).mp G;rw[xE]at a;split at a
    .cases a
    next v=>obtain⟨f,n,rfl⟩:=awC.1 a;exact .inr ⟨by simpa using v,au k G,f,n,rfl⟩
 have af:∀b,(cB D B e w).iP b->w0.iP b:=by
  rintro b (m|⟨p,c,l,m⟩)
  .exact J.ext.iP m
  .obtain⟨⟨ob,F⟩,_⟩:=hp p c l
   exact(J.base c ob b F m).1
 have a7:∀k f b,UQ D k=none->bc h k=some f->e.ca k=some b->¬(cB D B e w).iP b:=by
  rintro k f b L n m (Y|⟨p,c,l,ab⟩)
  .have:=(J.base k f b n m).2
   simp only[cB]at Y;omega
  .obtain⟨⟨ob,F⟩,_⟩:=hp p c l
   have:=J.inj _ _ _ _ _ n F m ab;subst this;rw[oe d3 (gU l)]at L;cases L
 have aw:∀b o u,bT w0 Rd0 e h w b o u->¬(cB D B e w).iP b:=by
  rintro b o u ⟨W,X,h3⟩ (Y|⟨p,c,l,ab⟩)
  .have:=ax7 w _ W
   simp only[cB]at Y;simp only at this;omega
  .obtain⟨⟨ob,F⟩,hl⟩:=hp p c l
   have:=h3 c ob F ab;omega
 have a5:∀b o u,bT w0 Rd0 e h w b o u->bT w0 Rd0 (e.eX D B e2) (lO (gC D B) H++(qo D++iR (oY B) h)) w' b o u:=by
  rintro b o u L;have am:=aw b o u L;have aB:=L;obtain⟨W,X,h3⟩:=aB;refine⟨by rw[ayw (w:=w) (y.ext.block b am)];exact W,X,λk ob a m=>?_⟩;rcases Z k ob a with⟨j,f,E,_,rfl,n,rfl⟩|⟨v,I,f,n,rfl⟩
  .rw[O j E]at m
   exact absurd (y.base _ _ _ n m).1 am
  .rw[Q k v]at m
   rw[ae k v I];exact h3 k f n m
 have ah:∀b o u,bT (cB D B e w) (cRd D B w0 Rd0 e h w) e2 H w' b o u->bT w0 Rd0 (e.eX D B e2) (lO (gC D B) H++(qo D++iR (oY B) h)) w' b o u:=by
  rintro b o u ⟨W,X,h3⟩;refine⟨W,λal=>(X λY=>al (af b Y)).1.2.1 al,λk ob a m=>?_⟩;rcases Z k ob a with⟨j,f,E,_,rfl,n,rfl⟩|⟨v,I,f,n,rfl⟩
  .rw[O j E]at m
   rw[aj j E];exact h3 j f n m
  .rw[Q k v]at m
   rw[ae k v I];exact(X (a7 k f b I n m)).1.2.2 k f n m
 refine⟨⟨?_,J.lA,λk ob a=>?_,λk ob b a m=>?_,λk s ob ap b a r m N=>?_,λk a=>?_⟩,a5,ah,λk a=>⟨O k a,ak k a⟩⟩
 .exact J.ext.step y.ext.os y.ext.tape y.ext.output y.ext.size (λb m _=>y.ext.block b λY=>m (af b Y)) y.ext.drawn
 .rcases Z k ob a with⟨j,f,E,hx,rfl,n,rfl⟩|⟨v,I,f,n,rfl⟩
  .have F:=(y.ob j f n).mono ah
   have aA:OR (bT w0 Rd0 (e.eX D B e2) (lO (gC D B) H++(qo D++iR (oY B) h)) w') ⟨λk=>(e.eX D B e2).ca (gC D B k),λk=>(e.eX D B e2).sv (gC D B k),λk=>(e.eX D B e2).cX (gC D B k)⟩ w' j f:=by
    have:=F.KT (e':=⟨λk=>(e.eX D B e2).ca (gC D B k),λk=>(e.eX D B e2).sv (gC D B k),λk=>(e.eX D B e2).cX (gC D B k)⟩) (λk=> !KG D k) (by simpa using E)
     (λi K=>O i (by simpa using K)) (λi K=>ak i (by simpa using K)) (aj j E)
    have C:f.lB (λk=> !KG D k)=f:=by
     cases f with
     |box t cs=>
      simp only[Ob.lB];refine awh (Ob.box t) ?_;rw[aw3 (g:=id),ayc];intro c l;obtain⟨i,K,rfl⟩:=awV l;exact mj (fJ hx i _ (awf K))
     |arr=>rfl
     |mp=>rfl
     |nr t cs=>
      simp only[Ob.lB];refine awh (Ob.nr t) ?_;rw[aw3 (g:=id),ayc];intro c l;obtain⟨i,K,rfl⟩:=awV l;exact mj (fJ hx i _ (awf K))
    rw[C]at this;exact this
   exact aA.jh (gC D B) (λ_=>rfl) (λ_=>rfl) (λ_=>rfl)
  .refine OR.KT (oY B) (e:=e) ?_ v Q an (ae k v I)
   have x:=J.ob k f n;have hx:∀{b:Nat} {o:Obj},e.ca k=some b->w.heap[b]? =some o->w'.heap[b]? =some o:=λ{b o} m F=>(y.ext.block b (a7 k f b I n m)).trans F;cases f with
   |box t cs=>
    obtain⟨S,b,us,U,a2,z⟩:=x;exact⟨S,b,us,U,a2.ext (λo F=>hx U F),z.imp λ_ _ hv=>hv.mono a5⟩
   |arr t sz aE wr=>
    obtain⟨S,U,a2,z⟩:=x;refine⟨S,U,a2,?_⟩;rcases z with z|⟨b,a9,aa,b1,b2,b3,b4,b5,b6,b7,b8⟩
    .exact .inl z
    .exact .inr ⟨b,a9,aa,b1,b2,b3,b4,hx b1 b5,b6,b7.imp λ_ _ hv=>hv.mono a5,b8⟩
   |mp d es=>
    obtain⟨S,b,arr,aq,U,a2,z⟩:=x;exact⟨S,b,arr,aq,U,hx U a2,z.mono a5⟩
   |nr t cs=>
    obtain⟨S,z⟩:=x;refine⟨S,?_⟩;rcases z with z|⟨b,a9,aa,b1,b2,b3,b4,b5,b6,b7⟩
    .exact .inl z
    .exact .inr ⟨b,a9,aa,b1,b2,b3,b4,hx b1 b5,b6,b7.imp λ_ _ hv=>hv.mono a5⟩
 .rcases Z k ob a with⟨j,f,E,_,rfl,n,rfl⟩|⟨v,I,f,n,rfl⟩
  .rw[O j E]at m
   have:=y.base _ _ _ n m;exact⟨af b this.1,this.2⟩
  .rw[Q k v]at m
   have:=J.base _ _ _ n m;exact⟨this.1,ax9 this.2 y.ext.size⟩
 .rcases Z k ob a with⟨j,f,E,_,rfl,n,rfl⟩|⟨v,I,f,n,rfl⟩
  .rw[O j E]at m
   rcases Z s ap r with⟨j',a8,ad,_,rfl,V,rfl⟩|⟨ac,ao,a8,V,rfl⟩
   .rw[O j' ad]at N
    rw[y.inj _ _ _ _ _ n V m N]
   .rw[Q s ac]at N
    exact absurd (y.base _ _ _ n m).1 (a7 s a8 b ao V N)
  .rw[Q k v]at m
   rcases Z s ap r with⟨j',a8,ad,_,rfl,V,rfl⟩|⟨ac,ao,a8,V,rfl⟩
   .rw[O j' ad]at N
    exact absurd (y.base _ _ _ V N).1 (a7 k f b I n m)
   .rw[Q s ac]at N
    exact J.inj _ _ _ _ _ n V m N
 .have v:oY B k=false:=by
   cases K:oY B k with
   |false=>rfl
   |true=>have:=(fj k).1 K;omega
  rw[Q k v,an k v];exact J.yz k a
end
variable{M:Code}{U:FuncId}{X:a_}
def fnc:cn->Fence
 |none=>Fence.wide
 |some l=>Fence.wide.inRound l
def UX(r:cn)(f:FuncId):(fnc r).fn f:=by cases r<;>trivial
def Lg(r:cn):(fnc r).depth=none:=by cases r<;>rfl
def UY(P:Fd)(r:cn):Machine.fenced P (fnc r)=Machine.fenced P Fence.wide:=by cases r<;>rfl
def PX{r:cn}{n:Nat}{P:Fd}{c:ey}{w:GE}{R:Ending->GE->Prop}(h:Calls P U c w R):CallsIn (fnc r) n P U c w R:=by
 cases r with
 |none=>exact az3.2 h
 |some l=>exact(az3.2 h).inRound l
def UZ{r:cn}{n:Nat}{P:Fd}{e:String}{d:ey}{w:GE}{R:Id->GE->Prop}(h:Rows P e d w R):RowsIn (fnc r) n P e d w R:=λc cs _=>by
 obtain⟨v,g,f,s⟩:=h c cs;refine⟨v,g,f,?_⟩;rw[UY];exact stepsIn_wide.2 s
def HV:bq->a_
 |[]=>[]
 |o::l=>match o.dst with
  |some d=>d::HV l
  |none=>HV l
def Lh(d:D.dst=some c):∀{l:bq},D∈l->c∈HV l:=by
 intro l
 induction l with
 |nil=>intro h;cases h
 |cons f l e=>
  intro h;unfold HV;rcases awr.1 h with h|h
  .subst h
   rw[d];exact ayY
  .have:=e h
   split
   .exact aw5 _ this
   .exact this
def wrL:Code->a_
 |.region _ ops _=>HV ops.toList
 |.seq a b=>wrL a++wrL b
 |.cond _ a b=>wrL a++wrL b
 |.block _ a=>wrL a
 |.loop a=>wrL a
 |.scope a=>wrL a
 |_=>[]
def Kp(l:a_)(a c:Act):Prop:=∀i,i∉l->c.tmps[i]? =a.tmps[i]?
def Kp.refl(l:a_)(a:Act):Kp l a a:=λ_ _=>rfl
def Kp.trans{l:a_}{a b c:Act}(h:Kp l a b)(k:Kp l b c):Kp l a c:=λi d=>(k i d).trans (h i d)
def Kp.mono{l m:a_}{a b:Act}(h:Kp l a b)(e:∀i,i∈l->i∈m):Kp m a b:=λi d=>h i λc=>d (e i c)
def Kp.left{l m:a_}{a b:Act}(h:Kp l a b):Kp (l++m) a b:=h.mono λi c=>az4 _ c
def Kp.right{l m:a_}{a b:Act}(h:Kp m a b):Kp (l++m) a b:=h.mono λi c=>az5 _ c
def Kp.put{l:a_}{a:Act}{d:cn}{v:Id}(h:∀x,d=some x->x∈l):Kp l a (a.put d v):=λi c=>by
 cases d with
 |none=>rfl
 |some x=>
  have f:x≠i:=λe=>c (e▸h x rfl);simp only[Act.put];rw[azj f]
def kW(a:Act)(d:cn)(v:Id):(a.put d v).defers=a.defers:=by cases d<;>rfl
section
variable{P:Fd}{b:Frame}{a:Act}{k:Do Item}{cs:Do Frame}{w:GE}{Q:IR->Act->GE->Prop}{F:Fence}{n:Nat}
def PY:step P (lone (b.atR a (.code (.scope M)::k)) cs w)=.next (lone (b.atR a (.code M:: .inScope M::k)) cs w):=
 step_lone_go (by simp[stepG,stepG.exec,Frame.atR])
def KU:step P (lone (b.atR a (.inScope M::k)) cs w)=.next (lone (b.atR a k) cs w):=
 step_lone_go (by simp[stepG,stepG.exec,Frame.atR])
def yl(h:M.wpIn F n P (Exit.noGoto Q) a w):(Code.scope M).wpIn F n P Q a w:=by
 intro b k cs p j o;obtain⟨e,f,i,d,c⟩:=h b (.inScope M::k) cs p j o;have g:StepsIn (Machine.fenced P F) P (lone (b.atR a (.code (.scope M)::k)) cs w) (lone (b.atR a (.code M:: .inScope M::k)) cs w):=.one (fenced_calm j o rfl) PY;cases e with
 |normal=>exact⟨.normal,f,i,d,.of_steps g (StepsIn.trans c (.one (fenced_calm j o rfl) KU))⟩
 |exit id=>exact⟨.exit id,f,i,d,.of_steps g ⟨λs m=>c.1 s (by simp[exitTo,m]),λq m=>c.2 q (by simp[exitTo,m])⟩⟩
 |goto l=>exact d.elim
 |_=>exact⟨_,f,i,d,.of_steps g c⟩
end
section
variable{P:Fd}{ops:yy}{r:cn}
def PZ{a:Act}{next:Act->GE->Prop}{Q:IR->Act->GE->Prop}(g:∀d i,next d i->d.defers.length<=c)(j:∀x d i,Q x d i->x=.normal){res:Result Next}(h:D.upon P a next Q res):a.defers.length<=c:=by
 unfold Oper.upon at h;split at h
 .have:=g _ _ h;rwa[kW]at this
 .have:=g _ _ h;rwa[kW]at this
 .have:=g _ _ h;rw[kW]at this;simp at this;omega
 .obtain⟨e,m,p,f,_⟩:=h []
  cases e with
  |returned v=>have:=g _ _ f;rwa[kW]at this
  |panicked o=>cases j _ _ _ f
  |outgrown=>obtain⟨d,i,l⟩:=f;cases j _ _ _ l
 .obtain⟨v,m,f,_⟩:=h default []
  have:=g _ _ f;rwa[kW]at this
 .cases j _ _ _ h
 .cases h
def GM{Q:IR->Act->GE->Prop}(d:∀x c e,Q x c e->x=.normal):¬LetsOut Q:=λ⟨a,w,h⟩=>by cases d _ _ _ h
def ap8{a:Act}{w:GE}{next:Act->GE->Prop}{Q:IR->Act->GE->Prop}(o:∀i e,next i e->i.defers.length<=a.defers.length)(l:∀x i e,Q x i e->x=.normal)(h:D.wp P a w next Q):
 D.wpIn (fnc r) 0 P a w next Q:=by
 refine⟨λf _=>UX r f,?_⟩;unfold Oper.wp at h;have p:D.semAt (fnc r).round a.eval=execOp a.eval D:=by
  refine Oper.semAt_eq _ _ _ λc m=>?_;have q:(execOp a.eval D).run P w=((resolve a.eval c D.type).run P w).andThen λd e=>.ok (.defer d) e:=by
   unfold execOp;rw[m];simp only[awi,awm]
  rw[q]at h;cases j:(resolve a.eval c D.type).run P w with
  |ok d e=>
   rw[j]at h;have:=o _ _ h;rw[kW]at this;simp at this;omega
  |halt x e=>
   rw[j]at h;cases x<;>first|exact h.elim|(cases l _ _ _ h)
 rw[p];generalize(execOp a.eval D).run P w=res at h;unfold Oper.upon at h;unfold Oper.uponIn;split at h
 .exact h
 .exact h
 .exact h
 .exact⟨λg=>by(rw[Lg]at g;cases g),PX h⟩
 .exact⟨λg=>by(rw[Lg]at g;cases g),UZ h⟩
 .exact h
 .exact h.elim
def zK{Q:IR->Act->GE->Prop}{m:Nat}(d:∀x c e,Q x c e->x=.normal/\c.defers.length<=m):∀(l:bq) (a:Act) (w:GE),wpList P ops Q l a w->a.defers.length<=m
 |[],a,w,h=>(d _ _ _ h).2
 |o::l,a,w,h=>by
  unfold wpList at h;split at h
  .rcases h with h|⟨_,h⟩
   .exact PZ (zK d l) (λx c e f=>(d x c e f).1) h
   .exact absurd h (GM λx c e f=>(d x c e f).1)
  .have:=zK d l _ _ h
   rwa[kW]at this
def abN{F:Fence}{n:Nat}{a:Act}{w:GE}{next m:Act->GE->Prop}{Q p:IR->Act->GE->Prop}(g:∀x j f,Q x j f->x=.normal)(h:D.wpIn F n P a w next Q)
 (d:∀(i:Act) (v:Id) (f:GE),i.tmps=a.tmps->a.defers.length<=i.defers.length->next (i.put D.dst v) f->m (i.put D.dst v) f):D.wpIn F n P a w m p:=by
 refine⟨h.1,?_⟩;have h:=h.2;generalize(D.semAt F.round a.eval).run P w=res at h;unfold Oper.uponIn at h⊢;split at h
 .exact d _ _ _ rfl (av5 _) h
 .exact d _ _ _ rfl (av5 _) h
 .exact d {a with defers:=_::a.defers} _ _ rfl d5 h
 .exact⟨h.1,h.2.mono λe o c=>by
   cases e with
   |returned v=>exact d _ _ _ rfl (av5 _) c
   |panicked q=>cases g _ _ _ c
   |outgrown=>obtain⟨j,f,l⟩:=c;cases g _ _ _ l⟩
 .exact⟨h.1,h.2.mono λv o c=>d _ _ _ rfl (av5 _) c⟩
 .exact⟨h.1,h.2.mono λe o c=>by
   cases e with
   |returned v=>exact d _ _ _ rfl (av5 _) c
   |panicked q=>cases g _ _ _ c
   |outgrown=>obtain⟨j,f,l⟩:=c;cases g _ _ _ l⟩
 .cases g _ _ _ h
 .exact h.elim
def HW{a j:Act}{w:GE}{next o:Act->GE->Prop}{Q p:IR->Act->GE->Prop}(l:∀x e f,Q x e f->x=.normal)(y:∀e f,next e f->e.defers.length<=c)(t:∀d,D.dst=some d->d∈X)
 (z:c<=a.defers.length) (u:Kp X j a) (h:D.wp P a w next Q) (A:∀e f,next e f->c<=e.defers.length->Kp X j e->o e f):D.wpIn (fnc r) 0 P a w o p:=by
 have s:=ap8 (r:=r) (λe f g=>awH (y e f g) z) l h;refine abN l s λq v f B C g=>A _ _ g ?_ ?_
 .rw[kW];omega
 .intro i m
  rw[Kp.put (a:=q) (v:=v) t i m,B];exact u i m
def Li{F:Fence}{n:Nat}{a:Act}{w:GE}{next m:Act->GE->Prop}{Q l:IR->Act->GE->Prop}(f:∀x a w,Q x a w->l x a w)(d:∀a w,next a w->m a w)(h:D.wpIn F n P a w next Q):D.wpIn F n P a w m l:=by
 refine⟨h.1,?_⟩;have h:=h.2;generalize(D.semAt F.round a.eval).run P w=res at h;unfold Oper.uponIn at h⊢;split at h
 .exact d _ _ h
 .exact d _ _ h
 .exact d _ _ h
 .exact⟨h.1,h.2.mono λe o c=>by
   cases e with
   |returned v=>exact d _ _ c
   |panicked p=>exact f _ _ _ c
   |outgrown=>obtain⟨g,j,i⟩:=c;exact⟨g,j,f _ _ _ i⟩⟩
 .exact⟨h.1,h.2.mono λv o c=>d _ _ c⟩
 .exact⟨h.1,h.2.mono λe o c=>by
   cases e with
   |returned v=>exact d _ _ c
   |panicked p=>exact f _ _ _ c
   |outgrown=>obtain⟨g,j,i⟩:=c;exact⟨g,j,f _ _ _ i⟩⟩
 .exact f _ _ _ h
 .exact h.elim
def DV{Q:IR->Act->GE->Prop}{m:Nat}(g:∀x c e,Q x c e->x=.normal/\c.defers.length<=m){l0:a_}{a0:Act}:∀(l:bq) (a:Act) (w:GE),(∀o∈l,∀d,o.dst=some d->d∈l0)->m<=a.defers.length->Kp l0 a0 a->wpList P ops Q l a w->
 wpListIn (fnc r) 0 P ops (λx c e=>Q x c e/\Kp l0 a0 c) l a w
 |[],a,w,_,_,j,h=>⟨h,j⟩
 |o::l,a,w,p,v,j,h=>by
  unfold wpList at h;unfold wpListIn;have u:∀x,o.dst=some x->x∈l0:=λx A=>p o d5 x A;split at h
  next s=>
   rw[av3 s];rcases h with h|⟨_,h⟩
   .exact HW (λx c e i=>(g x c e i).1) (zK g l) u v j h λc e i z y=>DV g l c e (λt q=>p t (by simp[q])) z y i
   .exact absurd h (GM λx c e i=>(g x c e i).1)
  next s=>rw[av2 s];exact⟨λf _=>UX r f,DV g l _ w (λt q=>p t (by simp[q])) (by rw[kW];exact v) (j.trans (Kp.put u)) h⟩
def qq{F:Fence}{n:Nat}{Q e:IR->Act->GE->Prop}(c:∀x a w,Q x a w->e x a w):∀(l:bq) (a:Act) (w:GE),wpListIn F n P ops Q l a w->wpListIn F n P ops e l a w
 |[],a,w,h=>c _ _ _ h
 |o::l,a,w,h=>by
  unfold wpListIn at h⊢;split at h
  next d=>rw[av3 d];exact Li c (λa w f=>qq c l a w f) h
  next d=>rw[av2 d];exact⟨h.1,qq c l _ _ h.2⟩
def nE{F:Fence}{n:Nat}{m:Region.Mode}{Q l:IR->Act->GE->Prop}(e:∀x a w,Q x a w->l x a w):∀(d:Nat) (j:Array In) (a:Act) (w:GE),wpAnyIn F n P m ops Q d j a w->wpAnyIn F n P m ops l d j a w
 |0,_,a,w,h=>⟨h.1,e _ _ _ h.2⟩
 |d+1,j,a,w,h=>by
  refine⟨λs=>e _ _ _ (h.1 s),λi q=>?_⟩;have c:=h.2 i q;unfold wpOpIn at c⊢;split
  next f=>rw[f]at c;exact nE e d _ a w c
  next o f=>
   rw[f]at c;simp only at c;split at c
   next g=>rw[av3 g];exact Li e (λa w p=>nE e d _ a w p) c
   next g=>rw[av2 g];exact⟨c.1,nE e d _ _ _ c.2⟩
def xF{p:Region.Mode}{Q:IR->Act->GE->Prop}{m:Nat}(d:∀x e g,Q x e g->x=.normal/\e.defers.length<=m):∀(f:Nat) (l:Array In) (a:Act) (w:GE),wpAny P p ops Q f l a w->a.defers.length<=m
 |0,_,a,w,h=>(d _ _ _ h.2).2
 |f+1,l,a,w,h=>by
  obtain⟨q,s⟩:=h;cases o:Region.ready p ops l with
  |nil=>exact(d _ _ _ (q o)).2
  |cons i t=>
   have c:=s i (by rw[o];simp);unfold wpOp at c;split at c
   .exact xF d f _ _ _ c
   .split at c
    .rcases c with c|⟨_,c⟩
     .exact PZ (xF d f _) (λx e g j=>(d x e g j).1) c
     .exact absurd c (GM λx e g j=>(d x e g j).1)
    .have:=xF d f _ _ _ c
     rwa[kW]at this
def AO{z:Region.Mode}{Q:IR->Act->GE->Prop}{m:Nat}(l:∀x c g,Q x c g->x=.normal/\c.defers.length<=m){l0:a_}{a0:Act}(q:∀(i:Nat) o,ops[i]? =some o->∀d,o.dst=some d->d∈l0):∀(j:Nat) (y:Array In) (a:Act) (w:GE),m<=a.defers.length->Kp l0 a0 a->wpAny P z ops Q j y a w->
 wpAnyIn (fnc r) 0 P z ops (λx c g=>Q x c g/\Kp l0 a0 c) j y a w
 |0,_,a,w,_,p,h=>⟨h.1,h.2,p⟩
 |j+1,y,a,w,u,p,h=>by
  obtain⟨A,B⟩:=h;refine⟨λG=>⟨A G,p⟩,λi C=>?_⟩;have e:=B i C;unfold wpOp at e;unfold wpOpIn;split at e
  next t=>rw[t];exact AO l q j _ a w u p e
  next o t=>
   rw[t];simp only;split at e
   next v=>
    rw[av3 v];rcases e with e|⟨_,e⟩
    .exact HW (λx c g s=>(l x c g s).1) (xF l j _) (q i o t) u p e λc g s E D=>AO l q j _ c g E D s
    .exact absurd e (GM λx c g s=>(l x c g s).1)
   next v=>rw[av2 v];exact⟨λf _=>UX r f,AO l q j _ _ w (by rw[kW];exact u) (p.trans (Kp.put (q i o t))) e⟩
end
variable{Y:St}{S:yy}
def Enters(P:Fd)(f:FuncId):Prop:=∃a,P.funcs[f]? =some a/\(a.name== "runtime.NumGoroutine")=false/\a.body.isNone=false
def Gq(P:Fd)(f:FuncId)(b:Hp)(h:Do AV)(H:Hp)(r:AV):Prop:=
 Enters P f/\∀B Rd e w c,SR B Rd e b w->LR (VR (bT B Rd e b w) (some e)) h c->Calls P f c.toArray w λx g=>∃v a,x=.returned v/\SR B Rd a H g/\VR (bT B Rd a H g) (some a) r v
section
variable{P:Fd}{st:St}{d:Nat}{ty:EQ}{pos:String}{af:dY}{gd:gg}{K:St->Prop}
def hX(h:Enters P U)(a:ey)(w:GE):(callFunc U a).run P w=.ok (.enter U a) w:=by
 obtain⟨b,c,e,g⟩:=h;have f:¬(b.name== "runtime.NumGoroutine")=true:=by rw[e];simp
 have i:¬b.body.isNone=true:=by rw[g];simp
 simp only[callFunc,awi];have:(program).run P w=.ok P w:=rfl;rw[this];simp only[awk,c];rw[av2 f,av2 i];rfl
mutual
def AV.pu:AV->In
 |.un=>true
 |.v _=>true
 |.sl _ _ c=>c.isEmpty
 |.ow _=>true
 |.pt _ _=>true
 |.pe _ _ _ _=>true
 |.sw _ _ _ _=>true
 |.fp _=>false
 |.mp _=>true
 |.ag a=>AV.KI a
 |.tu a=>AV.KI a
 |.cl _ b a=>AV.KI b && AV.KI a
def AV.KI:Do AV->In
 |[]=>true
 |c::a=>AV.pu c && AV.KI a
end
def se:∀{a:Do AV},AV.KI a=true->∀(j:Nat) c,a[j]? =some c->c.pu=true
 |[],_,j,c,h=>by simp at h
 |x::a,b,j,c,h=>by
  simp only[AV.KI,av4]at b;cases j with
  |zero=>simp at h;exact h▸b.1
  |succ j=>exact se b.2 j c (by simpa using h)
def VR.pure{Rd m:bL}(h:VR Rd O B g)(f:B.pu=true):VR m O B g:=by
 induction h with
 |un=>exact .un
 |v=>exact .v
 | @sl O tight D u a x i C y e l b c n z k=>
  have q:u=[]:=by simpa[AV.pu]using f
  subst q;have r:i=[]:=by simpa using e
  subst r;exact .sl (rows:=[]) [] d5 d5 rfl d5 b c n d5
 |ow=>exact .ow
 |pt h=>exact .pt h
 |pe h=>exact .pe h
 |sw h p b c=>exact .sw h p b c
 |fp=>simp[AV.pu]at f
 |ag i e l k=>exact .ag i e λj B g b c=>k j B g b c (se (by simpa[AV.pu]using f) j B b)
 |tu i e l k=>exact .tu i e λj B g b c=>k j B g b c (se (by simpa[AV.pu]using f) j B b)
 |mp h=>exact .mp h
 |cl i w e o l A k s=>
  simp only[AV.pu,av4]at f;exact .cl i w e o (λj B g b c=>k j B g b c (se f.1 j B b)) (λj B g b c=>s j B g b c (se f.2 j B b))
def ap9:Ob->Prop
 |.box _ a=>AV.KI a=true
 |.arr _ _ e _=>∀c∈e.flatten,c.pu=true
 |.mp _ b=>∀p∈b,p.2.pu=true
 |.nr _ a=>AV.KI a=true
def OR.pure{Rd E:bL}{e:Env}{w:GE}{k:Nat}{ob:Ob}(h:OR Rd e w k ob)(p:ap9 ob):OR E e w k ob:=by
 cases ob with
 |box t H=>
  obtain⟨g,b,I,l,n,a⟩:=h;exact⟨g,b,I,l,n,a.1,λj c u f o=>(a.2 j c u f o).pure (se p j c f)⟩
 |arr t M L wr=>
  obtain⟨g,l,n,a⟩:=h;refine⟨g,l,n,?_⟩;rcases a with a|⟨b,A,B,q,r,s,v,y,z,i,F⟩
  .exact .inl a
  .exact .inr ⟨b,A,B,q,r,s,v,y,z,⟨i.1,λj c u f o=>(i.2 j c u f o).pure (p c (awg f))⟩,F⟩
 |mp d J=>
  obtain⟨g,b,arr,G,l,n,a⟩:=h;exact⟨g,b,arr,G,l,n,a.len,λj x m C D=>⟨(a.key j x m C D).1,(a.key j x m C D).2.pure (p x (awg C))⟩,a.isk,a.lG,a.UP,a.clk⟩
 |nr t H=>
  obtain⟨g,a⟩:=h;refine⟨g,?_⟩;rcases a with a|⟨b,A,B,q,r,s,v,y,z,i⟩
  .exact .inl a
  .exact .inr ⟨b,A,B,q,r,s,v,y,z,⟨i.1,λj c u f o=>(i.2 j c u f o).pure (se p j c f)⟩⟩
def ans(H:Hp):Prop:=∀k ob,bc H k=some ob->ap9 ob
def SR.pure{B:Bs}{Rd b:bL}{e:Env}{H:Hp}{w:GE}(h:SR B b e H w)(f:ans H)(c:Good Rd B):SR B Rd e H w:=
 ⟨h.ext,c,λk ob a=>(h.ob k ob a).pure (f k ob a),h.base,h.inj,h.yz⟩
def Xb(st:St)(D:bu)(B:Nat)(f j:Hp)(k l:Do AV):Prop:=
 ∀g b e w i,SR g b e st.h w->LR (VR (bT g b e st.h w) (some e)) l i->
  ∃a,qn g b e st.h w a f/\Handed D a f/\
   (∀p ob,bc j p=some ob->∃c h,yA D p=some c/\bc f c=some h/\∀Rd,OR Rd a w c h->OR Rd a w c (ob.jh (gC D B)))/\
   LR (VR (bT g b a f w) (some a)) (k.map (AV.jh (gC D B))) i
def RB(D:bu)(B:Nat)(e:Env)(w:GE)(b o:Nat)(u:Id):Prop:=w.cell? ⟨b,o,none⟩=some u/\¬(cB D B e w).iP b
def U0(st:St)(D:bu)(B:Nat)(g:Hp)(h i:Do AV):Prop:=
 ∀f a e w b,SR f a e st.h w->LR (VR (bT f a e st.h w) (some e)) i b->
  Handed D e st.h/\(∀p ob,bc g p=some ob->∃c j,yA D p=some c/\bc st.h c=some j/\OR (RB D B e w) e w c (ob.jh (gC D B)))/\
   LR (VR (RB D B e w) (some e)) (h.map (AV.jh (gC D B))) b
def Ga.args(a:Ga G h u st C I)(args:gV):LR (VR (bT G h u st.h I) (some u)) (args.toList.map st.ev) (args.toList.map C.eval):=by
 refine⟨d5,λj c b f e=>?_⟩;rw[awp]at f e;obtain⟨x,g,rfl⟩:=awC.1 f;rw[g]at e;simp at e;subst e;exact a.ev x
def U1(c:Enters P U){a:gV}{e:jP}:
 (execOp C.eval ⟨some d,.call ⟨.value (.func U),a,e⟩,ty,pos,af,gd⟩).run P I=.ok (.enter U (a.toList.map C.eval).toArray) I:=by
 have:=hX c (a.map C.eval) I;have b:(a.toList.map C.eval).toArray=a.map C.eval:=by rw[<-axP]
 rw[b];simpa[execOp,resolve,Act.eval,Deferred.ofValue,invoke]using this
def PF(P:Fd)(o:Oper)(st:St)(f:FuncId)(i:Do AV):Prop:=
 Enters P f->∀h b e a w,Ga h b e st a w->∃c,LR (VR (bT h b e st.h w) (some e)) i c/\∀g,(execOp a.eval o).run P g=.ok (.enter f c.toArray) g
def PF.func{f:FuncId}{args:gV}{ts:jP}:PF P ⟨some d,.call ⟨.value (.func f),args,ts⟩,ty,pos,af,gd⟩ st f (args.toList.map st.ev):=λb i c e a w h=>
 ⟨_,h.args args,λg=>U1 b⟩
def HX{x:If}{args:gV}{ts:jP}{a:Act}{w:GE}{us xs:bI}(h:Enters P U)(c:a.eval x=.func (.func U) us.toArray xs.toArray):
 (execOp a.eval ⟨some d,.call ⟨.value x,args,ts⟩,ty,pos,af,gd⟩).run P w=.ok (.enter U (us++args.toList.map a.eval++xs).toArray) w:=by
 have:=hX h (us.toArray++args.map a.eval++xs.toArray) w;have b:(us++args.toList.map a.eval++xs).toArray=us.toArray++args.map a.eval++xs.toArray:=by
  rw[<-azk];simp
 rw[b];simpa[execOp,resolve,c,Deferred.ofValue,invoke]using this
def PF.val{f:FuncId}{args:gV}{ts:jP}(g:st.ev A=.v (.func (.func f) #[] #[])):PF P ⟨some d,.call ⟨.value A,args,ts⟩,ty,pos,af,gd⟩ st f (args.toList.map st.ev):=λc k j e a w h=>by
 refine⟨_,h.args args,λi=>?_⟩;have b:=h.ev A;rw[g]at b;have:=HX (P:=P) (d:=d) (ty:=ty) (pos:=pos) (af:=af) (gd:=gd) (x:=A) (args:=args) (ts:=ts) (a:=a) (w:=i) (us:=[]) (xs:=[]) c b.bS;simpa using this
def PF.cl{x:If}{f:FuncId}{args:gV}{ts:jP}{fs cs:Do AV}(m:st.ev x=.cl (.func f) fs cs):PF P ⟨some d,.call ⟨.value x,args,ts⟩,ty,pos,af,gd⟩ st f (fs++args.toList.map st.ev++cs):=λj q n e a w h=>by
 have b:=h.ev x;rw[m]at b;generalize c:a.eval x=u at b;cases b with
 |cl o r k l g i=>
  exact⟨_,(LR.append ⟨k,g⟩ (h.args args)).append ⟨l,i⟩,λp=>HX j c⟩
def LR.ra{Rd a:bL}{e:Env}{D:bu}{B:Nat}{f:Do AV}{g:bI}(h:LR (VR Rd (some e)) (f.map (AV.jh (gC D B))) g)(i:∀b o u,Rd b o u->a b o u):LR (VR a (some (e.pi D B))) f g:=
 ⟨by simpa using h.1,λj c u k l=>((h.2 j (c.jh (gC D B)) u (by simp[k]) l).mono i).ra (gC D B) (e':=e.pi D B) (λ_=>rfl) (λ_=>rfl) rfl rfl⟩
def Ga.back{e f:Env}{w l:GE}{D:bu}{H:Hp}(b:Ga G h e st C w)(q:Handed D e st.h)(m:PE c D=true)(r:SR (cB D c e w) (cRd D c G h e st.h w) f H l)
 (s:VR (bT (cB D c e w) (cRd D c G h e st.h w) f H l) (some f) B g) (n:od D H=true) (p:B.hL (λk=> !KG D k)=true) (o:d<st.n):
 Ga G h (e.eX D c f) ⟨st.n,(d,B.jh (gC D c))::tZ (oY c) st.t,lO (gC D c) H++(qo D++iR (oY c) st.h)⟩ (C.put (some d) g) l:=by
 obtain⟨j1,j2,j3,j4⟩:=SR.eX b.sr q m r n;refine⟨by simpa[Act.put]using b.n,b.d,j1,TR.put (λi=>?_) (by rw[b.n.1];exact o) ?_⟩
 .rw[nR]
  exact((((b.tr i).mono j2).lB _).KT rfl (oY c) (q_ _ _) (λj a=>by simp[Env.eX,a]) (λj a=>by simp[Env.eX,a]))
 .exact(s.mono j3).atG _ p (gC D c) (λj a=>(j4 j (by simpa using a)).1) (λj a=>(j4 j (by simpa using a)).2)
def SS.ap_{op:Op}{D:bu}{n i H:Hp}{m:Do AV}(z:Gq P U i m H B)(I:PF P ⟨some d,op,ty,pos,af,gd⟩ st U y)(J:Xb st D (1000*(d+1)) n i m y)(r:PE (1000*(d+1)) D=true)(C:od D H=true)(M:B.hL (λk=> !KG D k)=true)(G:d<st.n)
 (E:K ⟨st.n,(d,B.jh (gC D (1000*(d+1))))::tZ (oY (1000*(d+1))) st.t,lO (gC D (1000*(d+1))) H++(qo D++iR (oY (1000*(d+1))) n)⟩):SS P ⟨some d,op,ty,pos,af,gd⟩ st K:=by
 intro A j e a w next Q h N
 obtain⟨us,W,R⟩:=I z.1 A j e a w h;obtain⟨e1,l,g,s,X⟩:=J A j e w _ h.sr W;have q:=h.cX l;have S:=q.sr.qp g r s;have F:=z.2 _ _ _ w us S (X.ra λb o u L=>L.qp g λp ob O=>by
  obtain⟨c,a0,x,f,_⟩:=s p ob O;exact⟨c,x,a0,f⟩)
 unfold Oper.wp;rw[R w];show Calls P U _ w _;refine F.mono λx w' Z=>?_;obtain⟨v,e2,rfl,V,Y⟩:=Z;exact N _ E _ _ _ (q.back g r V Y C M G)
def SS.Xc{op:Op}{D:bu}{r H:Hp}{E:Do AV}(M:Gq P U r E H B)(a5:B.pu=true)(a3:ans H)(Y:PF P ⟨some d,op,ty,pos,af,gd⟩ st U y)(l:U0 st D (1000*(d+1)) r E y)(s:PE (1000*(d+1)) D=true)(S:od D H=true)(hn:B.hL (λk=> !KG D k)=true)(X:d<st.n)
 (V:K ⟨st.n,(d,B.jh (gC D (1000*(d+1))))::tZ (oY (1000*(d+1))) st.t,lO (gC D (1000*(d+1))) H++(qo D++iR (oY (1000*(d+1))) st.h)⟩):SS P ⟨some d,op,ty,pos,af,gd⟩ st K:=by
 intro O C e a w next Q h a0
 obtain⟨us,a8,a6⟩:=Y M.1 O C e a w h;obtain⟨A,n,hv⟩:=l O C e w _ h.sr a8;have Z:Good (RB D (1000*(d+1)) e w) (cB D (1000*(d+1)) e w):=⟨λb o u j=>j,λb o u l=>⟨(h.sr.HO l).1,h.sr.PW A l⟩⟩;have F:∀b o u,RB D (1000*(d+1)) e w b o u->bT (cB D (1000*(d+1)) e w) (RB D (1000*(d+1)) e w) (e.pi D (1000*(d+1))) r w b o u:=λb o u j=>⟨j.1,λ_=>j,λp ob m i=>by
  obtain⟨c,q,x,f,_⟩:=n p ob m;refine absurd (.inr ⟨p,c,x,?_⟩) j.2;have R:gC D (1000*(d+1)) p=c:=by simp[gC,x]
  simpa only[Env.pi,R]using i⟩
 have z:∀{p c},yA D p=some c->gC D (1000*(d+1)) p=c:=λ{p c} g=>by simp[gC,g]
 have hs:SR (cB D (1000*(d+1)) e w) (RB D (1000*(d+1)) e w) (e.pi D (1000*(d+1))) r w:=by
  refine⟨⟨rfl,rfl,rfl,av5 _,λ_ _=>rfl,av5 _⟩,Z,λp ob m=>?_,λp ob b m i=>?_,λp p' ob q b m a4 i G=>?_,λk _=>⟨rfl,rfl⟩⟩
  .obtain⟨c,q,g,L,J⟩:=n p ob m
   rw[<-z g]at J;exact(OR.ra (gC D (1000*(d+1))) J (e':=e.pi D (1000*(d+1))) (λ_=>rfl) (λ_=>rfl) rfl).mono F
  .obtain⟨c,q,g,L,_⟩:=n p ob m
   simp only[Env.pi,z g]at i;exact⟨.inr ⟨p,c,g,i⟩,(h.sr.base c q b L i).2⟩
  .obtain⟨c,aa,g,a1,_⟩:=n p ob m
   obtain⟨c',ab,I,a2,_⟩:=n p' q a4;simp only[Env.pi,z g]at i;simp only[Env.pi,z I]at G;have:=h.sr.inj _ _ _ _ _ a1 a2 i G;subst this;simp only[PE,av4]at s;have r1:=oe s.1.2 (gU g);have N:=oe s.1.2 (gU I);rw[r1]at N;exact av_ N
 have W:=M.2 _ _ _ w us hs (hv.ra F);unfold Oper.wp;rw[a6 w];show Calls P U _ w _;refine W.mono λx w' hx=>?_;obtain⟨v,e2,rfl,a7,a9⟩:=hx;exact a0 _ V _ _ _ (h.back A s (a7.pure a3 ⟨λb o u j=>⟨j.1.1,j.2⟩,λb o u l=>⟨h.sr.HO l,h.sr.PW A l⟩⟩) (a9.pure a5) S hn X)
def GS(P:Fd)(j:yy)(o:Oper)(st:St)(K:St->Prop):Prop:=
 ∀h b e a w next Q,Ga h b e st a w->(∀f,K f->∀i c g,Ga h b i f c g->next c g)->
  if Region.wanted o (yielded j a.tmps)then o.wp P a w next Q else next (a.put o.dst undef) w
def GS.plain(c:D.guard=none)(h:SS P D st K):GS P S D st K:=by
 intro i b e a w next Q f g
 rw[av3 (by simp[Region.wanted,c])];exact h i b e a w next Q f g
def Ga.yielded{f:yy}{n:Bs}{g:bL}{e:Env}{a:Act}{w:GE}(h:Ga n g e st a w){j s:Nat}{b:In}(k:(f[j]?).bind (·.dst)=some s)(l:s<st.n)(m:bO st.t s=.v (.bool b)):yielded f a.tmps j=some b:=by
 have:=h.tr s;rw[m]at this;have:=this.bS;have c:s<a.tmps.size:=by rw[h.n.1];exact l
 have i:a.tmps[s]? =some (.bool b):=by
  rw[awU c];simp[axm,awU c]at this;rw[this]
 unfold Go.yielded;rw[k];simp[i]
def GS.taken(g:D.guard=some (c,F))(i:(S[c]?).bind (·.dst)=some v)(k:v<st.n)(l:bO st.t v=.v (.bool F))(h:SS P D st K):GS P S D st K:=by
 intro m f e a w next Q b j
 rw[av3 (by simp[Region.wanted,g,b.yielded i k l])];exact h m f e a w next Q b j
def GS.left{g:Op}{b c:In}(k:gd=some (v,b))(l:(S[v]?).bind (·.dst)=some W)(n:W<st.n)(o:bO st.t W=.v (.bool c))(i:(c==b)=false)(j:∀d,H=some d->d<st.n)
 (h:K ⟨st.n,match H with|some d=>(d,.v undef)::st.t|none=>st.t,st.h⟩):GS P S ⟨H,g,ty,pos,af,gd⟩ st K:=by
 intro r q e a w next Q f m
 have p:¬Region.wanted (⟨H,g,ty,pos,af,gd⟩:Oper) (Go.yielded S a.tmps)=true:=by
  simp only[Region.wanted,k,f.yielded l n o];simpa using i
 rw[av2 p];refine m _ h e _ _ ?_;cases H with
 |none=>exact f
 |some d=>exact f.put (j d rfl) .v
def GS.amz{h:Op}{b:In}(l:gd=some (c,b))(m:(S[c]?).bind (·.dst)=some v)(o:v<st.n)(p:bO st.t v=.v undef)(k:∀d,H=some d->d<st.n)
 (j:K ⟨st.n,match H with|some d=>(d,.v undef)::st.t|none=>st.t,st.h⟩):GS P S ⟨H,h,ty,pos,af,gd⟩ st K:=by
 intro u s e a w next Q f n
 have r:Go.yielded S a.tmps c=none:=by
  have:=f.tr v;rw[p]at this;have:=this.bS;have g:v<a.tmps.size:=by rw[f.n.1];exact o
  have i:a.tmps[v]? =some undef:=by
   rw[awU g];simp[axm,awU g]at this;rw[this]
  unfold Go.yielded;rw[m];simp[i,undef]
 have q:¬Region.wanted (⟨H,h,ty,pos,af,gd⟩:Oper) (Go.yielded S a.tmps)=true:=by
  simp only[Region.wanted,l,r];simp
 rw[av2 q];refine n _ j e _ _ ?_;cases H with
 |none=>exact f
 |some d=>exact f.put (k d rfl) .v
def AL(P:Fd)(j:yy)(l:bq)(st:St)(K:St->Prop):Prop:=
 ∀h b e a w Q,Ga h b e st a w->(∀f,K f->∀i c g,Ga h b i f c g->Q .normal c g)->wpList P j Q l a w
def AL.nil(h:K st):AL P S [] st K:=λg f e a w Q b c=>c _ h e a w b
def AL.cons{c:bq}(h:∀f:St->Prop,(∀b,AL P S c b K->f b)->GS P S D st f):AL P S (D::c) st K:=by
 intro k g e a w Q o q;refine ayZ λl n=>?_;exact h (λb=>AL P S c b K) (λ_ h=>h) k g e a w l Q o λb r m i j p=>n i j (r k g m i j Q p q)
def mark(D:Nat):Deferred:={target:=.collected D,args:= #[]}
def Xd(B:Bs):Prop:=∃l:a_,B.df=l.map mark/\l.Nodup/\∀D∈l,¬B.iP D/\B.w.heap[D]? =some (.deferred (some []))
structure Bk(t:Bool)(w0:Bs)(Rd0:bL)(w1:Bs)(Rd1:bL):Prop where
 sr:∀e h w,SR w1 Rd1 e h w->SR w0 Rd0 e h w
 rd:∀e h w b o u,bT w1 Rd1 e h w b o u->bT w0 Rd0 e h w b o u
 sz:w0.w.heap.size<=w1.w.heap.size
 df:Xd w0->Xd w1/\∀D,mark D∈w1.df->mark D∈w0.df\/w0.w.heap.size<=D
 ne:t=false->w1=w0/\Rd1=Rd0
def Bk.refl{t:In}:Bk t G h G h:=⟨λ_ _ _ a=>a,λ_ _ _ _ _ _ a=>a,av5 _,λa=>⟨a,λ_ b=>.inl b⟩,λ_=>⟨rfl,rfl⟩⟩
def Bk.trans{t:In}{j l m:Bs}{c f g:bL}(h:Bk t j c l f)(k:Bk t l f m g):Bk t j c m g:=
 ⟨λe H w v=>h.sr e H w (k.sr e H w v),λe H w b o u s=>h.rd e H w b o u (k.rd e H w b o u s),awH h.sz k.sz,λr=>by
  obtain⟨x,n⟩:=h.df r;obtain⟨y,p⟩:=k.df x;refine⟨y,λD q=>?_⟩;rcases p D q with a|a
  .exact n D a
  .exact .inr (awH h.sz a),λi=>by
  obtain⟨rfl,rfl⟩:=h.ne i;exact k.ne i⟩
def AC(t:In)(P:Fd)(c:Code)(st:St)(dO:IR->St->Prop):Prop:=
 ∀(r:cn) j f e a w Q,(t=true->r=none)->Ga j f e st a w->
  (∀x h,dO x h->∀k g,Bk t j f k g->∀l b i,Ga k g l h b i->Kp (wrL c) a b->Q x b i)->c.wpIn (fnc r) 0 P Q a w
variable{t:In}{dO:IR->St->Prop}
def P0(next:St->Prop)(dO:IR->St->Prop):IR->St->Prop
 |.normal,st=>next st
 |x,st=>dO x st
def U2(id:Nat)(dO:IR->St->Prop):IR->St->Prop
 |.exit i,st=>if i=id then dO .normal st else dO (.exit i) st
 |x,st=>dO x st
def AC.region{id:Nat}{l:bq}(h:AL P l.toArray l st (dO .normal)):AC t P (.region id l.toArray false) st dO:=λr i n e a w Q B q z=>by
 refine wpIn_region_lit ?_;have s:=h i n e a w (λx b g=>x=.normal/\b.defers.length<=i.df.length/\∃c f,dO .normal c/\Ga i n f c b g) q λc p f b g j=>⟨rfl,by rw[j.d];exact av5 _,c,f,p,j⟩;have u:=DV (r:=r) (m:=i.df.length) (l0:=HV l) (a0:=a) (λx b g k=>⟨k.1,k.2.1⟩) l a w (λo A d v=>Lh v A) (by rw[q.d];exact av5 _) (Kp.refl _ _) s;refine qq (λx b g k=>?_) l a w u;obtain⟨⟨rfl,_,c,f,p,j⟩,y⟩:=k;exact z .normal c p i n Bk.refl f b g j y
def AC.seq{x y:Code}(h:AC t P x st (P0 (λb=>AC t P y b dO) dO)):AC t P (.seq x y) st dO:=λr H s e a w Q q E m=>by
 refine wpIn_seq (h r H s e a w _ q E λA b n p c i g f o j k=>?_);cases A with
 |normal=>exact n r p c g f o Q q j λL G B I u C z v J D F=>m L G B I u (i.trans C) z v J D (k.left.trans F.right)
 |_=>exact m _ b n p c i g f o j k.left
def AC.amA{x y:Code}(l:st.ev A=.v (.bool true))(h:AC t P x st dO):AC t P (.cond A x y) st dO:=λr v f e a w Q p b o=>by
 have c:=b.ev A;rw[l]at c;exact wpIn_cond_true c.bS (h r v f e a w Q p b λx s q z g k j i u m n=>o x s q z g k j i u m n.left)
def AC.amB{x y:Code}(l:st.ev A=.v (.bool false))(h:AC t P y st dO):AC t P (.cond A x y) st dO:=λr v f e a w Q p b o=>by
 have c:=b.ev A;rw[l]at c;exact wpIn_cond_false c.bS (h r v f e a w Q p b λx s q z g k j i u m n=>o x s q z g k j i u m n.right)
def AC.block{id:Nat}(h:AC t P M st (U2 id dO)):AC t P (.block id M) st dO:=λr x q e a w Q v u m=>by
 refine wpIn_block (h r x q e a w _ v u λs n b p c i g f o j k=>?_);cases s with
 |normal=>exact m _ n b p c i g f o j k
 |exit z=>
  simp only[U2]at b;simp only[Exit.inBlock];split at b
  next hid=>rw[av3 hid];exact m _ n b p c i g f o j k
  next hid=>rw[av2 hid];exact m _ n b p c i g f o j k
 |_=>exact m _ n b p c i g f o j k
def AC.scope(h:AC t P M st λx s=>(∀l,x≠.goto l)/\dO x s):AC t P (.scope M) st dO:=λr z q e a w Q y v m=>
 yl (h r z q e a w _ y v λu n b p c i g f o j k=>by
  cases u with
  |goto l=>exact absurd rfl (b.1 l)
  |normal=>exact m _ n b.2 p c i g f o j k
  |exit id=>exact m _ n b.2 p c i g f o j k
  |ret=>exact m _ n b.2 p c i g f o j k
  |panic A=>exact m _ n b.2 p c i g f o j k
  |outgrown=>exact m _ n b.2 p c i g f o j k)
def AC.skip(h:dO .normal st):AC t P .skip st dO:=λr i f e a w Q g b c=>wpIn_skip (c _ st h _ _ Bk.refl e a w b (Kp.refl _ _))
def AC.label(h:dO .normal st):AC t P (.label c) st dO:=λr j g e a w Q i b f=>wpIn_label (f _ st h _ _ Bk.refl e a w b (Kp.refl _ _))
def AC.exit{id:Nat}(h:dO (.exit id) st):AC t P (.exit id) st dO:=λr i f e a w Q g b c=>wpIn_exit (c _ st h _ _ Bk.refl e a w b (Kp.refl _ _))
def AC.ret(h:dO .ret st):AC t P .ret st dO:=λr i f e a w Q g b c=>wpIn_ret (c _ st h _ _ Bk.refl e a w b (Kp.refl _ _))
def cG(P:Fd)(st g:St):Prop:=∀c b e a w,Ga c b e st a w->∃f,Ga c b f g a w
def cG.refl{P:Fd}{st:St}:cG P st st:=λ_ _ e _ _ h=>⟨e,h⟩
def cG.trans{P:Fd}{c f g:St}(h:cG P c f)(k:cG P f g):cG P c g:=λi b e a w l=>let⟨j,m⟩:=h i b e a w l;k i b j a w m
def AC.le(l:cG P st Y)(h:AC t P M Y dO):AC t P M st dO:=λr c b e a w Q k i j=>let⟨f,g⟩:=l c b e a w i;h r c b f a w Q k g j
def GS.le(k:cG P st Y)(h:GS P S D Y K):GS P S D st K:=λc b e a w next Q i j=>let⟨f,g⟩:=k c b e a w i;h c b f a w next Q g j
def AC.mono{c:IR->St->Prop}(h:AC t P M st dO)(j:∀x b,dO x b->c x b):AC t P M st c:=λr m f e a w Q k g i=>h r m f e a w Q k g λx b l=>i x b (j x b l)
def AC.loop{α:Type}(I:α->St)(μ:α->Nat)(D:α)(L:cG P st (I D))
 (Z:∀x,AC t P M (I x) (P0 (λf=>∃y,cG P f (I y)/\μ y<μ x) dO)):AC t P (.loop M) st dO:=by
 intro r B z e a w Q V S s;obtain⟨e0,O⟩:=L B z e a w S;have Y:∀n x,μ x<n->∀v u,Bk t B z v u->∀F A C,Ga v u F (I x) A C->Kp (wrL M) a A->Code.roundsIn (fnc r) 0 P M Q n A C:=by
  intro n
  induction n with
  |zero=>intro x W;omega
  |succ n X=>
   intro x W v u j G E a0 N o;refine Z x r v u G E a0 (Exit.then (Code.roundsIn (fnc r) 0 P M Q n) Q) V N λJ f q g b k i c h m p=>?_;cases J with
   |normal=>
    obtain⟨y,U,a3⟩:=q;obtain⟨H,R⟩:=U g b i c h m;exact X y bv g b (j.trans k) H c h R (o.trans p)
   |_=>exact s _ f q g b (j.trans k) i c h m (o.trans p)
 exact wpIn_loop_rounds _ (Y _ D (azl _) B z Bk.refl e0 a w O (Kp.refl _ _))
end
def AP{Rd:bL}(a:cellsOf B=some y)(c:VR Rd none B g):∃b,g.cells=b.toArray/\LR (VR Rd none) y b:=by
 cases B with
 |ag i=>
  simp only[cellsOf,av6]at a;subst a;obtain⟨b,rfl,h⟩:=c.fI;exact⟨b,rfl,h⟩
 |_=>
  simp only[cellsOf]at a;split at a
  next e=>simp only[av6]at a;subst a;have:=c.kT e (λj k f l=>by cases f);exact⟨[g],by rw[ql this],LR.cons c LR.nil⟩
  .cases a
def chunk(a:Nat):Nat->Do AV->Do (Do AV)
 |0,_=>[]
 |n+1,b=>b.take a::chunk a n (b.drop a)
def HY(sz:Nat):∀(n:Nat) (a:Do AV),a.length=n*sz->(chunk sz n a).flatten=a/\(chunk sz n a).length=n/\∀r∈chunk sz n a,r.length=sz
 |0,a,h=>by simp at h;subst h;simp[chunk]
 |n+1,a,h=>by
  have g:a.length=n*sz+sz:=by rw[h,awK,aya]
  obtain⟨c,e,f⟩:=HY sz n (a.drop sz) d7;refine⟨by rw[chunk,awI,c,axw],by rw[chunk,aws,e],λr b=>?_⟩;rw[chunk]at b;rcases awr.1 b with rfl|b
  .simp;omega
  .exact f r b
def mN:a_->Do AV->At (Do (Nat×Do AV))
 |[],[]=>some []
 |i::b,c::a=>match cellsOf c,mN b a with
  |some x,some r=>some ((i,x)::r)
  |_,_=>none
 |_,_=>none
def DW{Rd:bL}:∀(e:a_) (n:Do AV) (b:bI) (h:Do (Nat×Do AV)),mN e n=some h->LR (VR Rd none) n b->e.length=b.length->
 h.length=(e.zip b).length/\∀(j:Nat) p q,h[j]? =some p->(e.zip b)[j]? =some q->p.1=q.1/\LR (VR Rd none) p.2 q.2.cells.toList
 |[],[],b,h,a,g,_=>by simp only[mN,av6]at a;subst a;simp
 |i::e,c::o,b,h,a,g,v=>by
  cases b with
  |nil=>have:=g.1;simp at this
  |cons u b=>
   simp only[mN]at a;cases f:cellsOf c with
   |none=>simp[f]at a
   |some x=>
    cases l:mN e o with
    |none=>simp[f,l]at a
    |some r=>
     simp only[f,l,av6]at a;subst a;obtain⟨s,t⟩:=DW e o b r l ⟨by simpa using g.1,λj c u f m=>g.2 (j+1) c u (by simpa using f) (by simpa using m)⟩ (by simpa using v);refine⟨by simpa using s,λj p q k a=>?_⟩;cases j with
     |zero=>
      simp at k a;subst k;subst a;obtain⟨y,m,w⟩:=AP f (g.2 0 c u rfl rfl);exact⟨rfl,by simpa[m]using w⟩
     |succ j=>exact t j p q (by simpa using k) (by simpa using a)
 |[],_::_,_,_,a,_,_=>by simp[mN]at a
 |_::_,[],_,_,a,_,_=>by simp[mN]at a
section
variable{P:Fd}{st:St}{d:Nat}{ty:EQ}{pos:String}{af:dY}{gd:gg}{K:St->Prop}
def SR.froze{w c:GE}{b:Hp}(e:SR G h u b w){us:bI}{t:EQ}(n:Ext w c)(f:c.heap[w.heap.size]? =some (.cells us.toArray t (0,0))):
 ∀(j:Nat) a,us[j]? =some a->bT G h u b c w.heap.size j a:=λj a i=>by
 refine⟨?_,λm=>?_,λk ob l g=>?_⟩
 .rw[aw8 c w.heap.size j us.toArray t (0,0) f];simpa using i
 .exact absurd (e.ext.iP (av5 _)) m
 .have:=(e.base _ _ _ l g).2;omega
def Ga.later{g:Bs}{w f:GE}{b:bL}{e:Env}{a:Act}(h:Ga g b e st a w)(c:Ext w f):Ga g b e st a f:=
 ⟨h.n,h.d,(h.sr.later c).1,h.tr.mono (h.sr.later c).2⟩
def mO(w:GE)(t e:EQ)(b:Nat)(g:Array (Nat×Id))(a:TypeInfo)(z:Id)
 (m:P.underlying t=some (.slice e)) (k:P.info? e=some a) (n:a.zero=some z) (o:b*a.size<=16777216):
 ∃j:ey,j.size=b*a.size/\∀c,Instr.fill (λi=>some (i*a.size,a.size)) j g.toList=some c->
 (Instr.buildSlice t b g).run P w=.ok (.slice (some ⟨w.heap.size,0,none⟩) b b) (w.alloc (.cells c e)):=by
 have l:¬b*a.size>2^24:=bv
 by_cases f:b*a.size=0
 .refine⟨#[],by simp[f],λc h=>?_⟩
  have e0:Array.range 0= #[]:=Array.range_zero';simp only[Instr.buildSlice,awi,aww m,awk,cT w k,l,aw1,f,awG];simp[h,newRow,f,e0,newObj,Sem.run]
 .refine⟨(Array.range (b*a.size)).map (z.cells[· % z.cells.size]!),d5,λc h=>?_⟩
  exact run_buildSlice w t e b g c a z m k n l f h
def SS.buildSlice{t E:EQ}{len g N:Nat}{parts:HL}{h':Hp}{aS cs:Do AV}{qs:Do (Nat×Do AV)}(ht:KF P t=some (E,g,N,s))
 (hl:qm st.h (parts.toList.map λp=>st.ev p.2)=some (h',aS)) (hq:mN (parts.toList.map (·.1)) aS=some qs) (H:hQ (λi=>some (i*g,g)) (List.replicate (len*g) .un) qs=some cs)
 (z:cs.all AV.one=true) (V:len*g<=16777216) (a3:0<g) (X:d<st.n) (S:K ⟨st.n,(d,.sl true g (chunk g len cs))::st.t,h'⟩):SS P ⟨some d,.buildSlice t len parts,ty,pos,af,gd⟩ st K:=by
 intro B r e a w next Q h hn
 obtain⟨i,zv,n,O,R,h5,rfl,_,_⟩:=c_ ht;have U:LR (VR (bT B r e st.h w) (some e)) (parts.toList.map λp=>st.ev p.2) (parts.toList.map λp=>a.eval p.2):=by
  refine⟨d5,λj c u z n=>?_⟩;rw[awp]at z n;obtain⟨x,o,rfl⟩:=awC.1 z;rw[o]at n;simp at n;subst n;exact h.ev x.2
 obtain⟨q,l,D⟩:=DU _ _ _ _ _ _ h.sr U hl;have C:=h.cX l;obtain⟨p1,p2⟩:=DW _ _ _ _ hq D d5;obtain⟨G,W,a4⟩:=mO (P:=P) w t E len (parts.map λ(i,x)=>(i,a.eval x)) i zv n O R V;have a2:LR (VR (bT B r q h' w) none) (List.replicate (len*i.size) .un) G.toList:=by
  refine⟨by simp[W],λj c u f hu=>?_⟩;rw[ayB]at f;split at f
  .simp at f;subst f;exact .un
  .cases f
 obtain⟨b,I,J⟩:=kU (place:=λj=>some (j*i.size,i.size)) qs _ _ cs G a2 p1 p2 H;have a5:(parts.toList.map (·.1)).zip (parts.toList.map λp=>a.eval p.2)=(parts.map λ(i,x)=>(i,a.eval x)).toList:=by
  rw[axP,List.zip_map']
 rw[a5]at I;have a0:cs.length=len*i.size:=by
  have o:=J.1;have:∀(A:Do (Nat×Do AV)) (c y:Do AV),hQ (λj=>some (j*i.size,i.size)) c A=some y->y.length=c.length:=by
   intro A
   induction A with
   |nil=>intro c y m;simp only[hQ,av6]at m;rw[m]
   |cons p A ih=>
    intro c y m;obtain⟨k,xs⟩:=p;simp only[hQ]at m;split at m
    .rw[ih _ _ m,mM]
    .cases m
  rw[this _ _ _ H];simp
 obtain⟨M,F,k3⟩:=HY i.size len cs a0;have o:Ext w (w.alloc (.cells b E)):=(Ext.refl w).alloc _;have Z:=C.later o;have Y:=C.sr.froze (us:=b.toList) (t:=E) o (by simpa using abL w (.cells b E));refine eO (v:=.slice (some ⟨w.heap.size,0,none⟩) len len) (w':=w.alloc (.cells b E)) ?_ (hn _ S q _ _ (Z.put X ?_))
 .simp only[execOp,awi,a4 b I,awk,awm]
 .have a1:len<=maxLen:=by
   unfold maxLen;have:len*1<=len*i.size:=axZ _ a3;omega
  have L:LR (VR (bT B r q h' (w.alloc (.cells b E))) none) (chunk i.size len cs).flatten b.toList:=by
   rw[M];exact J.imp λ_ _ D=>D.mono (C.sr.later o).2
  have:=VR.sl (E:=some q) (Rd:=bT B r q h' (w.alloc (.cells b E))) (tight:=true) (a:=some ⟨w.heap.size,0,none⟩) (cap:=len) b.toList k3 (λc f=>by rw[M]at f;exact awt.1 z c f) L.1 L.2 (by rw[F];exact av5 _) a1 (λ_=>F.symm) (λ_=>⟨_,0,rfl,λj u hj=>by rw[awB];exact Y j u hj⟩);rw[F]at this;exact this
def ve(st:St)(a:Nat):jO->cn
 |none=>some a
 |some x=>match st.ev x with
  |.v (.int _ i)=>if 0<=i then some i.toNat else none
  |_=>none
def AQ(a:Ga G h u st C I)(b:ve st c (some A)=some v):∃k,C.eval A=.int k v:=by
 simp only[ve]at b;split at b
 next k i g=>
  split at b
  next f=>simp only[av6]at b;subst b;have e:=a.ev A;rw[g]at e;exact⟨k,by rw[e.bS,azm f]⟩
  .cases b
 .cases b
def fK{i:TypeInfo}(u:P.underlying m=some (.slice Q))(y:P.info? Q=some i)(c:At Addr)(n g l h:Nat)(a:cn)(b:Nat)(q o r:At Id)(w:GE)
 (z:(q=none/\l=0)\/∃k,q=some (.int k (l:Int))) (x:(o=none/\h=n)\/∃k,o=some (.int k (h:Int))) (A:(r=none/\b=g)\/((∃k,r=some (.int k (b:Int)))/\o≠none))
 (B:l<=h) (C:h<=n) (D:h<=b) (E:b<=g) (F:n<=g):
 (Instr.sliceAt m (.slice c n g) q o r).run P w=.ok (.slice (if b=l then c else c.map (·.add (l*i.size))) (h - l) (b - l)) w:=by
 have e:P.elem m=Q:=by simp[Program.elem,u]
 have f:P.underlying m=some (.slice (P.elem m)):=by rw[e];exact u
 rw[run_sliceAt_slice w m _ q o r f];have j:=cT (P:=P) w y;rcases z with⟨rfl,rfl⟩|⟨s,rfl⟩<;>rcases x with⟨rfl,rfl⟩|⟨p,rfl⟩<;>rcases A with⟨rfl,rfl⟩|⟨⟨v,rfl⟩,t⟩
 .rw[run_slice_all w m c h b f];simp[e,j,sliced]
 .exact absurd rfl t
 .rw[run_slice_h w m c n b f p h bv bv];simp[e,j,sliced]
 .rw[run_slice_hm w m c n g f p v h b bv bv bv];simp[e,j,sliced]
 .rw[run_slice_l w m c h b f s l bv bv];simp[e,j,sliced]
 .exact absurd rfl t
 .rw[run_slice_lh w m c n b f s p l h bv bv bv];simp[e,j,sliced]
 .rw[run_slice_lhm w m c n g f s p v l h b bv bv bv bv];simp[e,j,sliced]
end
def mP{c:Nat}:∀(a:Do (Do AV)) (h:Nat),(∀r∈a,r.length=c)->(a.take h).flatten=a.flatten.take (h*c)
 |[],h,_=>by simp
 |r::a,0,_=>by simp
 |r::a,h+1,b=>by
  have e:=b r d5;rw[List.take_succ_cons,awI,awI,mP a h (λx f=>b x (by simp[f])),awK,aya,List.take_append];rw[awA (l:=r) bv,e,Nat.add_sub_cancel]
def mQ{c:Nat}:∀(a:Do (Do AV)) (h:Nat),(∀r∈a,r.length=c)->(a.drop h).flatten=a.flatten.drop (h*c)
 |[],h,_=>by simp
 |r::a,0,_=>by simp
 |r::a,h+1,b=>by
  have e:=b r d5;rw[List.drop_succ_cons,awI,mQ a h (λx f=>b x (by simp[f])),awK,aya,List.drop_append];rw[List.drop_of_length_le (l:=r) bv,e,Nat.add_sub_cancel,awL]
def abO{Rd:bL}{E E':At Env}(M:VR Rd E (.sl F c N) g){l h:Nat}{m:cn}(O:l<=h)(Q:h<=N.length)(I:∀x,m=some x->h<=x/\x<=N.length):
 ∃i f,g=.slice i N.length f/\N.length<=f/\VR Rd E' (zJ F N c l h m) (.slice (if m.getD f=l then i else i.map (·.add (l*c))) (h - l) (m.getD f - l)):=by
 obtain⟨i,f,w,rfl,v,B,H,D,U,L,C⟩:=M.n_;refine⟨i,f,rfl,D,?_⟩;have S:h<=m.getD f/\m.getD f<=f:=by
  cases m with
  |none=>simp;omega
  |some x=>have:=I x rfl;simp;omega
 have y:((N.take h).drop l).flatten=(N.flatten.take (h*c)).drop (l*c):=by
  rw[mQ _ _ (λr q=>v r (ax0 q)),mP _ _ v]
 have p:((N.take h).drop l).length=h - l:=d7
 have s:=(H.take (h*c)).drop (l*c);rw[<-y]at s;have:=VR.sl (E:=E') (Rd:=Rd) (tight:=zI F N.length h m) (a:=if m.getD f=l then i else i.map (·.add (l*c))) (cap:=m.getD f - l) (rows:=(N.take h).drop l) (sz:=c) ((w.take (h*c)).drop (l*c))
  (λr q=>v r (ax0 (ayC q))) (λe k=>by
   rw[y]at k;exact B e (ax0 (ayC k))) s.1 s.2 (by rw[p];omega) bv (λt=>?_) (λA=>?_)
 .rw[p]at this
  exact this
 .rw[p]
  cases m with
  |none=>
   simp only[zI,av4,ayX]at t;have:=L t.1;simp only[Option.getD_none];omega
  |some x=>
   simp only[zI,ayX]at t;simp only[az6];omega
 .have J:w≠[]:=by rintro rfl;simp at A
  obtain⟨b,o,rfl,k⟩:=C J;have R:l<h:=by
   rcases axF l h with z|z
   .exact z
   .have:l=h:=bv
    subst this;have G:(List.drop (l*c) (List.take (l*c) w))=[]:=awZ (by rw[awM];omega);exact absurd G A
  rw[av2 bv];refine⟨b,o+l*c,by simp[awT],λj u n=>?_⟩;rw[axt,awP]at n;split at n
  .have:=k _ u n
   rw[ayW];exact this
  .cases n
section
variable{P:Fd}{st:St}{d:Nat}{ty:EQ}{pos:String}{af:dY}{gd:gg}{K:St->Prop}
def mxA(st:St):jO->At cn
 |none=>some none
 |some x=>(ve st 0 (some x)).map some
def SS.slice{t E:EQ}{p f n:jO}{h':Hp}{tt:In}{rows:Do (Do AV)}{l h:Nat}{m:cn}(R:KF P t=some (E,c,v,s))
 (J:iQ st.h (st.ev A)=some (h',.sl tt c rows)) (r:ve st 0 p=some l) (q:ve st rows.length f=some h) (o:mxA st n=some m) (M:n.isSome=true->f.isSome=true)
 (x:l<=h) (z:h<=rows.length) (B:∀A,m=some A->h<=A/\A<=rows.length) (H:d<st.n) (F:K ⟨st.n,(d,zJ tt rows c l h m)::st.t,h'⟩):
 SS P ⟨some d,.slice t A p f n,ty,pos,af,gd⟩ st K:=by
 intro Z W e a w next Q b N
 obtain⟨i,zv,p2,p3,p4,Y,rfl,_,_⟩:=c_ R;obtain⟨u,V,S⟩:=q9 b.sr (b.ev A) J;obtain⟨D,g,U,G,O⟩:=abO (E':=some u) S (m:=m) x z B;have I:=b.cX V;refine eO ?_ (N _ F u _ _ (I.put H O));have C:h<=m.getD g/\m.getD g<=g:=by
  cases m with
  |none=>simp;omega
  |some A=>have:=B A rfl;simp;omega
 have:=fK (P:=P) p2 p3 D rows.length g l h none (m.getD g) (p.map a.eval) (f.map a.eval) (n.map a.eval) w
  (by
   cases p with
   |none=>simp[ve]at r;exact .inl ⟨rfl,r.symm⟩
   |some y=>obtain⟨k,j⟩:=AQ b r;exact .inr ⟨k,by simp[j]⟩)
  (by
   cases f with
   |none=>simp[ve]at q;exact .inl ⟨rfl,q.symm⟩
   |some y=>obtain⟨k,j⟩:=AQ b q;exact .inr ⟨k,by simp[j]⟩)
  (by
   cases n with
   |none=>simp[mxA]at o;subst o;exact .inl ⟨rfl,rfl⟩
   |some y=>
    simp only[mxA]at o;obtain⟨X,L,rfl⟩:=awC.1 o;obtain⟨k,j⟩:=AQ b L;refine .inr ⟨⟨k,by simp[j]⟩,?_⟩;have:=M rfl;cases f with
    |none=>cases this
    |some y=>simp)
  x z C.1 C.2 G
 simp only[execOp,awi,U,this,awk,awm]
def SS.make{t E:EQ}{M N:IntKind}{n:Nat}(ht:KF P t=some (E,c,v,s))(hx:st.ev A=.v (.int M n))(z:st.ev Z=.v (.int N n))
 (a4:v*n<=140737488355328) (H:n<=maxLen) (a6:s.all Value.oneCell'=true) (a3:s.all (λb=>(na b).one)=true) (a0:0<c) (W:d<st.n)
 (R:K ⟨st.n,(d,.ow d)::dm d st.t,(d,some (.arr E c (List.replicate n (s.map na)) true))::bx d st.h⟩):SS P ⟨some d,.makeSlice t A Z,ty,pos,af,gd⟩ st K:=by
 intro w0 O e a w next Q l hn
 obtain⟨i,g,p2,p3,p4,o,rfl,rfl,rfl⟩:=c_ ht;have x:=l.ev A;rw[hx]at x;have x:=x.bS;have y:=l.ev Z;rw[z]at y;have y:=y.bS;have I:=run_make (P:=P) w t E i g p2 p3 p4 M N n n bv (axx _) (by
  have h:((i.bytes*n:Nat):Int)<=281474976710656:=bv
  rwa[ax1]at h) (by unfold maxLen at H;omega)
 simp only[av9]at I;obtain⟨a1,S⟩:=l.sr.kill d;have a7:g.cells.toList.length=i.size:=by simpa using o
 have J:∀r∈List.replicate n (g.cells.toList.map na),r.length=i.size:=λr hr=>by
  rw[aAM hr];simp[o]
 have F:(List.replicate n (g.cells.toList.map na)).length=n:=d5
 have C:=eM J;rw[F]at C;have bc:∀(n j:Nat) f,(List.replicate n (g.cells.toList.map na)).flatten[j]? =some f->∃b,g.cells.toList[j % i.size]? =some b/\f=na b:=by
  intro n
  induction n with
  |zero=>intro j f h;simp at h
  |succ n ih=>
   intro j f h;rw[axG,awI]at h;by_cases p:j<i.size
   .rw[awY (by simpa[o]using p),awp]at h
    obtain⟨b,m,rfl⟩:=awC.1 h;exact⟨b,by rw[ayq p];exact m,rfl⟩
   .rw[axl (by simp[o];omega)]at h
    have X:(g.cells.toList.map na).length=i.size:=by simpa using o
    rw[X]at h;obtain⟨b,m,rfl⟩:=ih _ f h;refine⟨b,?_,rfl⟩;rw[<-m,az7 (ayD p)]
 have U:∀(j:Nat) u,(madeCells g.cells (n*i.size)).toList[j]? =some u->g.cells.toList[j % i.size]? =some u:=by
  intro j u h;simp only[madeCells,axP,awp]at h;obtain⟨Z,z,rfl⟩:=awC.1 h;have a5:j<n*i.size:=by
   have:=(av7.1 z).1;simpa using this
  have a2:Z=j:=by
   have:=(av7.1 z).2;simpa using this.symm
  subst a2;have Y:Z % i.size<i.size:=ayE _ a0;rw[o];have:Z % i.size<g.cells.size:=by rw[o];exact Y
  simp[this]
 obtain⟨L,G⟩:=a1.Nj d E i.size n (rows:=List.replicate n (g.cells.toList.map na)) (cur:=madeCells g.cells (n*i.size)) J (λf B=>by
  obtain⟨j,p,rfl⟩:=awV B;obtain⟨b,m,V⟩:=bc n j _ (awf p);rw[V];exact awt.1 a3 b (awg m))
  ⟨by rw[C];simp[az8,C],λj f u B q=>by
   obtain⟨b,m,rfl⟩:=bc n j f B;rw[awP]at q;split at q
   .have:=U j u q
    rw[m]at this;simp at this;subst this;exact HQ b
   .cases q⟩ (by rw[F];exact av5 _) H (by rw[az8]) (eC d st.h) (by have:=l.n.2;omega) (w.alloc (.cells (madeCells g.cells (n*i.size)) E)) rfl (l.sr.ext.alloc _)
 rw[F]at L G;refine eO (v:=.slice (some ⟨w.heap.size,0,none⟩) n n) (w':=w.alloc (.cells (madeCells g.cells (n*i.size)) E)) ?_ (hn _ R _ _ _ ⟨by simpa[Act.put]using l.n,l.d,L,TR.put ?_ (by rw[l.n.1];exact W) ?_⟩)
 .simp only[execOp,awi,x,y,I,awk,awm]
 .exact(((l.tr.kill d).mono S).mono G).env d (ef d st.t) (λ_ D=>Env.bE D) (λ_ D=>Env.dy D)
 .have:=VR.ow (Rd:=bT w0 O (e.cR d (some w.heap.size) (.slice (some ⟨w.heap.size,0,none⟩) n n) 0) ((d,some (.arr E i.size (List.replicate n (g.cells.toList.map na)) true))::bx d st.h) (w.alloc (.cells (madeCells g.cells (n*i.size)) E))) (e:=e.cR d (some w.heap.size) (.slice (some ⟨w.heap.size,0,none⟩) n n) 0) (k:=d)
  rw[Env.dZ]at this;exact this
end
def mR(st:St)(p:AV)(n:Nat):At (Do AV):=
 match p with
 |.pt k o=>match bc st.h k with
  |some (.box t a)=>if t≠HN/\o+n<=a.length then some ((a.drop o).take n)else none
  |_=>none
 |.pe k i e o=>match bc st.h k with
  |some (.arr _ g f _)=>match f[i]? with
   |some r=>if o+n<=r.length/\g=e then some ((r.drop o).take n)else none
   |none=>none
  |some (.nr _ a)=>match a[i]? with
   |some c=>if e=1/\o=0/\n=1 then some [c]else none
   |none=>none
  |_=>none
 |.fp b=>if n<=b.length then some (b.take n)else none
 |_=>none
def abP{st:St}(h:mR st B c=some y):GK st B c y:=by
 unfold mR at h;split at h
 next k o=>
  split at h
  next t f e=>
   split at h
   next b=>simp only[av6]at h;exact⟨t,f,e,b.1,b.2,h.symm⟩
   .cases h
  .cases h
 next k i m o=>
  split at h
  next t n l wr e=>
   split at h
   next r j=>
    split at h
    next b=>obtain⟨b,rfl⟩:=b;simp only[av6]at h;exact .inl ⟨t,l,wr,r,e,j,b,h.symm⟩
    .cases h
   .cases h
  next t f e=>
   split at h
   next a g=>
    split at h
    next b=>simp only[av6]at h;exact .inr ⟨t,f,a,e,g,b.1,b.2.1,b.2.2,h.symm⟩
    .cases h
   .cases h
  .cases h
 next f=>
  split at h
  next b=>simp only[av6]at h;exact⟨b,h.symm⟩
  .cases h
 .cases h
def aek:In->Do AV->At AV
 |true,a=>some (.ag a)
 |false,[c]=>some c
 |false,_=>none
def AR(P:Fd)(st:St)(p:AV)(t:EQ):At AV:=
 match UW P t with
 |some (a,n)=>match mR st p n with
  |some b=>aek a b
  |none=>none
 |none=>none
def P1{P:Fd}{st:St}{p c:AV}(h:AR P st p m=some c):∃a n b,UW P m=some (a,n)/\GK st p n b/\((a=true/\c=.ag b)\/(a=false/\b=[c])):=by
 unfold AR at h;split at h
 next a n f=>
  split at h
  next b e=>
   refine⟨a,n,b,f,abP e,?_⟩;unfold aek at h;split at h
   .simp only[av6]at h;exact .inl ⟨rfl,h.symm⟩
   .simp only[av6]at h;subst h;exact .inr ⟨rfl,rfl⟩
   .cases h
  .cases h
 .cases h
section
variable{P:Fd}{st:St}{d:jQ}{ty:EQ}{pos:String}{af:dY}{gd:gg}{K:St->Prop}
def RS.AR(h:AR P st (st.ev A) m=some B):RS P ⟨d,.load m A,ty,pos,af,gd⟩ st B:=by
 obtain⟨e,n,f,a,b,c⟩:=P1 h;exact RS.load a b c
def HZ(P:Fd)(st:St):Do ResultVar->At (Do AV)
 |[]=>some []
 |.tmp i::e=>match HZ P st e with
  |some b=>some (bO st.t i::b)
  |none=>none
 |.cell a t::e=>match AR P st (bO st.t a) t,HZ P st e with
  |some c,some b=>some (c::b)
  |_,_=>none
def P2:Do AV->AV
 |[c]=>c
 |a=>.tu a
def mS(b:ey)(r:ResultVar):Sem Id:=
 match r with
 |.tmp t=>pure (b.getD t undef)
 |.cell a t=>do loadVar t (<-asAddr (b.getD a undef))
def zL(b:Func)(c:ey):results b c=(do
 let a<-b.results.mapM (mS c)
 pure (if h:a.size=1 then a[0]else .tuple a)):=by
 unfold results;congr 1
def GN{B:Bs}{y:bL}{e:Env}{a:Act}{w:GE}(h:Ga B y e st a w):∀(j:Do ResultVar) (k:Do AV),HZ P st j=some k->
 ∃g,(j.mapM (mS a.tmps)).run P w=.ok g w/\LR (VR (bT B y e st.h w) (some e)) k g
 |[],k,f=>by
  simp only[HZ,av6]at f;subst f;exact⟨[],d5,LR.nil⟩
 |.tmp i::j,k,f=>by
  simp only[HZ]at f;split at f
  next r v=>simp only[av6]at f;subst f;obtain⟨g,m,l⟩:=GN h j r v;refine⟨_::g,?_,LR.cons (h.tr i) l⟩;rw[ay0];simp only[mS,awi,awm,awk,m]
  .cases f
 |.cell x t::j,k,f=>by
  simp only[HZ]at f;split at f
  next c r G v=>
   simp only[av6]at f;subst f;obtain⟨g,m,l⟩:=GN h j r v;obtain⟨I,n,J,C,D,E⟩:=P1 G;obtain⟨b,o,q,A,H,p,F⟩:=HS h D (h.tr x);have z:=sb (P:=P) C (b:=b) (o:=o) (us:=q) (w:=w) H F;rcases E with⟨s,rfl⟩|⟨s,rfl⟩
   .refine⟨_::g,?_,LR.cons (.ag q p.1 p.2) l⟩
    rw[ay0];simp only[mS,awi,A,asAddr,awm,awk,z.1 s,m]
   .obtain⟨u,rfl⟩:∃u,q=[u]:=by
     match q,p.1 with
     |[u],_=>exact⟨u,rfl⟩
    refine⟨_::g,?_,LR.cons (p.2 0 c u rfl rfl) l⟩;rw[ay0];simp only[mS,awi,A,asAddr,awm,awk,z.2 s u rfl,m]
  .cases f
def atJ(P:Fd)(a:Func)(H:Hp)(r:AV)(x:IR)(st:St):Prop:=
 (x=.normal\/x=.ret)/\∃c b,cG P st ⟨a.ntmps,c,H⟩/\HZ P ⟨a.ntmps,c,H⟩ a.results.toList=some b/\P2 b=r
def vu:Nat->Do AV->Do (Nat×AV)
 |_,[]=>[]
 |i,c::a=>(i,c)::vu (i+1) a
def AS:∀(a:Do AV) (k i:Nat),bO (vu k a) i=if k<=i then a.getD (i - k) .un else .un
 |[],k,i=>by simp[vu,bO]
 |c::a,k,i=>by
  simp only[vu,bO];by_cases b:i=k
  .subst b;simp
  .rw[av2 b,AS a (k+1) i]
   by_cases e:k+1<=i
   .have:k<=i:=bv
    simp only[e,this,awG];rw[show i - k=(i - (k+1))+1 by omega];rfl
   .have:¬k<=i:=bv
    simp[e,this]
def U3:Obj->In
 |.deferred _=>true
 |.loop _=>true
 |_=>false
def OR.keep{Rd:bL}{w v:GE}{ob:Ob}(h:OR Rd u w c ob)(j:∀(b:Nat) o,w.heap[b]? =some o->U3 o=false->v.heap[b]? =some o):OR Rd u v c ob:=by
 cases ob with
 |box t A=>
  obtain⟨a,b,D,f,g,e⟩:=h;refine⟨a,b,D,f,?_,e⟩;rcases g with⟨a,h⟩|⟨a,y,C,B,i,seen,f,h,g⟩
  .exact .inl ⟨a,j _ _ h rfl⟩
  .exact .inr ⟨a,y,C,B,i,seen,f,j _ _ h rfl,g⟩
 |arr t G F wr=>
  obtain⟨a,f,g,e⟩:=h;refine⟨a,f,g,?_⟩;rcases e with e|⟨b,s,i,k,l,m,n,p,q,r,x⟩
  .exact .inl e
  .exact .inr ⟨b,s,i,k,l,m,n,j _ _ p rfl,q,r,x⟩
 |mp d E=>
  obtain⟨a,b,arr,z,f,g,e⟩:=h;exact⟨a,b,arr,z,f,j _ _ g rfl,e⟩
 |nr t A=>
  obtain⟨a,e⟩:=h;refine⟨a,?_⟩;rcases e with e|⟨b,s,i,k,l,m,n,p,q,r⟩
  .exact .inl e
  .exact .inr ⟨b,s,i,k,l,m,n,j _ _ p rfl,q,r⟩
def abQ{w c:GE}{p:Addr}(e:∀(b:Nat) o,w.heap[b]? =some o->U3 o=false->c.heap[b]? =some o)(h:w.cell? p=some g):c.cell? p=some g:=by
 unfold World.cell? at h⊢;cases a:w.heap[p.block]? with
 |none=>rw[a]at h;cases h
 |some o=>
  rw[a]at h;have:U3 o=false:=by cases o<;>first|rfl|(simp at h)
  rw[e _ _ a this];exact h
def P3{i o:Obj}(h:I.heap[c]? =some i)(j:U3 i=true):∀(b:Nat) a,I.heap[b]? =some a->U3 a=false->(I.putObj c o).heap[b]? =some a:=λb a f g=>by
 have k:b≠c:=λe=>by rw[e,h]at f;cases f;rw[j]at g;cases g
 rw[az9 k];exact f
def SR.putObj{a:Bs}{c:bL}{e:Env}{h:Hp}{w:GE}(f:SR a c e h w){D:Nat}{n:Obj}(o:Obj)(s:w.heap[D]? =some n)(t:U3 n=true)(v:a.iP D):
 SR a c e h (w.putObj D o)/\∀b g u,bT a c e h w b g u->bT a c e h (w.putObj D o) b g u:=by
 have m:=P3 (o:=o) s t;have l:∀b g u,bT a c e h w b g u->bT a c e h (w.putObj D o) b g u:=λb g u ⟨p,q,r⟩=>⟨abQ m p,q,r⟩;refine⟨⟨f.ext.step rfl rfl rfl d5 λb i _=>az9 λe=>i (e▸v),f.lA,λk ob j=>((f.ob k ob j).mono l).keep m,λk ob b j i=>?_,f.inj,f.yz⟩,l⟩;have:=f.base k ob b j i;exact⟨this.1,by simpa using this.2⟩
def Ga.putObj{c:Bs}{f:bL}{e:Env}{st:St}{a:Act}{w:GE}(b:Ga c f e st a w){D:Nat}{j:Obj}(o:Obj)(g:w.heap[D]? =some j)(h:U3 j=true)(i:c.iP D):Ga c f e st a (w.putObj D o):=
 ⟨b.n,b.d,(b.sr.putObj o g h i).1,b.tr.mono (b.sr.putObj o g h i).2⟩
def AT{h:Func}{k:ey}{R:Ending->GE->Prop}(I:GE->Prop)(i:∀w,I w->∃v,(results h k).run P w=.ok v w/\R (.returned v) w):∀(l:a_) (w:GE),l.Nodup->(∀D∈l,w.heap[D]? =some (.deferred (some [])))->I w->
 (∀w D,D∈l->I w->w.heap[D]? =some (.deferred (some []))->I (w.putObj D (.deferred none)))->LeavesInM Fence.wide 0 P h k R (l.map mark) .returning w
 |[],w,_,_,f,_=>i w f
 |D::l,w,g,c,f,j=>by
  refine⟨d8,.inl ⟨D,w.putObj D (.deferred none),rfl,run_takeDeferred (c D d5),?_⟩⟩;rw[axc]at g;refine AT I i l _ g.2 (λa b=>?_) (j w D d5 f (c D d5)) λw a b=>j w a (by simp[b]);have m:a≠D:=λe=>g.1 (by rw[<-e];exact b);rw[az9 m];exact c a (by simp[b])
def Gq.intro{f:FuncId}{a:Func}{c:Code}{G:Hp}{m:Do AV}{H:Hp}{r:AV}(hf:P.funcs[f]? =some a)(ah:(a.name== "runtime.NumGoroutine")=false)(hb:a.body=some c)(ap:m.length<=a.ntmps)(a6:a.ntmps<=1000000)
 (h:AC true P c ⟨a.ntmps,vu 0 m,G⟩ (atJ P a H r)):Gq P f G m H r:=by
 refine⟨⟨a,hf,ah,by rw[hb];rfl⟩,λB Rd e w F q am=>az3.1 (callsIn_of_wp_marks (n:=0) hf hb trivial ?_)⟩;obtain⟨j,J⟩:∃j:Bs,j=⟨B.w,B.own,B.ca,B.sv,[]⟩:=⟨_,rfl⟩;have al:SR j Rd e G w:=by
  subst J;exact⟨⟨q.ext.os,q.ext.tape,q.ext.output,q.ext.size,q.ext.block,q.ext.drawn⟩,q.lA,q.ob,q.base,q.inj,q.yz⟩
 have a4:∀e h w,SR j Rd e h w->SR B Rd e h w:=by
  subst J;exactλe h w p=>⟨⟨p.ext.os,p.ext.tape,p.ext.output,p.ext.size,p.ext.block,p.ext.drawn⟩,p.lA,p.ob,p.base,p.inj,p.yz⟩
 have a5:∀e h w b o u,bT j Rd e h w b o u->bT B Rd e h w b o u:=by subst J;exactλ_ _ _ _ _ _ h=>h
 have W:LR (VR (bT j Rd e G w) (some e)) m F:=by subst J;exact am
 have N:j.df=[]:=by subst J;rfl
 have aa:Ga j Rd e ⟨a.ntmps,vu 0 m,G⟩ {tmps:=F.toArray++Array.replicate (a.ntmps - F.toArray.size) undef,defers:=[]} w:=by
  refine⟨⟨by simp[W.1];omega,a6⟩,by rw[N],al,λi=>?_⟩;rw[AS];simp only[awy,awG,ay1];by_cases V:i<m.length
  .have hc:m[i]? =some m[i]:=awf V
   obtain⟨u,hu,hr⟩:=W.get hc;have O:m.getD i .un=m[i]:=by simp[List.getD,hc]
   have y:(F.toArray++Array.replicate (a.ntmps - F.toArray.size) undef).getD i undef=u:=by
    have a0:i<F.length:=by rw[W.1];exact V
    simp[axm,ay2,a0];rw[awf a0]at hu;simpa using hu
   rw[O,y];exact hr
  .have O:m.getD i .un=.un:=by simp[List.getD,awO (ayD V)]
   rw[O];exact .un
 refine h none j Rd _ _ w _ (λ_=>rfl) aa λx aq X w1 a1 S I t z a8 _=>?_;obtain⟨X,Y,A,ac,ai,rfl⟩:=X;obtain⟨y,L⟩:=ac w1 a1 I t z a8;obtain⟨ae,ad⟩:=S.df ⟨[],by rw[N];rfl,List.nodup_nil,d5⟩;obtain⟨l,hl,ag,ab⟩:=ae;have a9:∀M:Act,M.tmps=t.tmps->M.defers=[]->Ga j Rd y ⟨a.ntmps,Y,H⟩ M z:=λM s Q=>⟨by rw[s];exact L.n,by rw[Q,N],S.sr _ _ _ L.sr,by rw[s];exact L.tr.mono λb o u U=>S.rd _ _ _ b o u U⟩;have aj:∀k,Ga j Rd y ⟨a.ntmps,Y,H⟩ {tmps:=t.tmps,defers:=[]} k->∃v,(results a t.tmps).run P k=.ok v k/\VR (bT j Rd y H k) (some y) (P2 A) v:=by
  intro k C;obtain⟨E,ak,g⟩:=GN (P:=P) C _ _ ai;have hm:(a.results.mapM (mS t.tmps)).run P k=.ok E.toArray k:=by
   rw[az_];simp only[ay3,ak];rfl
  rw[zL];simp only[awi,hm,awk,awm];refine⟨_,rfl,?_⟩
  match A,E,g with
  |[],[],g=>exact .tu [] rfl d5
  |[c],[u],g=>simpa[P2]using g.2 0 c u rfl rfl
  |c::Z::A,u::u2::E,g=>
   have:¬(u::u2::E).toArray.size=1:=d5
   rw[dif_neg this];exact .tu _ g.1 g.2
  |[],u::E,g=>have:=g.1;simp at this
  |[c],[],g=>have:=g.1;simp at this
  |[c],u::u2::E,g=>have:=g.1;simp at this
  |c::Z::A,[],g=>have:=g.1;simp at this
  |c::Z::A,[u],g=>have:=g.1;simp at this
 have a7:LeavesInM Fence.wide 0 P a t.tmps (λx z=>∃v I,x=.returned v/\SR B Rd I H z/\VR (bT B Rd I H z) (some I) (P2 A) v) t.defers .returning z:=by
  rw[L.d,hl];refine AT (λk=>Ga j Rd y ⟨a.ntmps,Y,H⟩ {tmps:=t.tmps,defers:=[]} k) (λk C=>?_) l z ag (λD R=>?_) (a9 _ rfl rfl) λk D R C a3=>?_
  .obtain⟨v,an,ao⟩:=aj k C
   exact⟨v,an,v,y,rfl,a4 _ _ _ C.sr,ao.mono λb o u U=>a5 _ _ _ b o u U⟩
  .obtain⟨s,Q⟩:=ab D R
   rw[L.sr.ext.block D s,Q]
  .refine C.putObj _ a3 rfl (.inl ?_)
   rcases ad D (by rw[hl];exact awe.2 ⟨D,R,rfl⟩)with s|s
   .rw[N]at s;cases s
   .exact s
 rcases X with rfl|rfl<;>exact a7
def cG.DX{t n:Do (Nat×AV)}{h h2:Hp}(B:∀i,bO n i=bO t i\/bO n i=.un)(z:∀k,bc h2 k=bc h k\/bc h2 k=none):cG P ⟨c,t,h⟩ ⟨c,n,h2⟩:=by
 intro v p e a w j;have l:∀k ob,bc h2 k=some ob->bc h k=some ob:=λk ob f=>by
  rcases z k with g|g
  .rw[<-g];exact f
  .rw[g]at f;cases f
 have q:∀b o u,bT v p e h w b o u->bT v p e h2 w b o u:=λb o u ⟨g,h2,x⟩=>⟨g,h2,λk ob f m=>x k ob (l k ob f) m⟩;refine⟨e,j.n,j.d,⟨j.sr.ext,j.sr.lA,λk ob f=>(j.sr.ob k ob (l k ob f)).mono q,λk ob b f m=>j.sr.base k ob b (l k ob f) m,λk r ob s b f A m y=>j.sr.inj k r ob s b (l k ob f) (l r s A) m y,j.sr.yz⟩,λi=>?_⟩;show VR _ _ (bO n i) _;rcases B i with g|g
 .rw[g];exact(j.tr i).mono q
 .rw[g];exact .un
def yB(t:Do (Nat×AV)):a_->Do (Nat×AV)
 |[]=>[]
 |i::a=>(i,bO t i)::yB t a
def Xe(h:Hp):a_->Hp
 |[]=>[]
 |k::a=>(k,bc h k)::Xe h a
def cG.UU(i:Nat){g:Hp}{c:AV}(m:kV st.h (bO st.t i)=some (g,c)):cG P st ⟨st.n,(i,c)::st.t,g⟩:=by
 intro p o e a w f;obtain⟨h,l,n⟩:=vp f.sr (f.tr i) m;have b:=f.cX l;refine⟨h,b.n,b.d,b.sr,λj=>?_⟩;simp only[bO];split
 next k=>subst k;exact n.c9
 .exact b.tr j
def cG.same{n:Nat}{t b:Do (Nat×AV)}{h a:Hp}(e:∀i,bO b i=bO t i)(c:∀k,bc a k=bc h k):cG P ⟨n,t,h⟩ ⟨n,b,a⟩:=.DX (λi=>.inl (e i)) (λk=>.inl (c k))
end
def swp(a b k:Nat):Nat:=if k=a then b else if k=b then a else k
def si(a b k:Nat):swp a b (swp a b k)=k:=by
 unfold swp;by_cases e:k=a
 .subst e
  by_cases c:b=k<;>simp[c]
 .by_cases c:k=b
  .subst c;simp[e]
  .simp[e,c]
def Xf(a b:Nat):∀i j,swp a b i=swp a b j->i=j:=λi j h=>by
 have:=awh (swp a b) h;rwa[si,si]at this
section
variable{P:Fd}{st:St}
def cG.swap(x y:Nat)(H:x<4294967296)(I:y<4294967296):cG P st ⟨st.n,PR (swp x y) st.t,lO (swp x y) st.h⟩:=by
 intro v q e a w l;let g:Env:=⟨λk=>e.ca (swp x y k),λk=>e.sv (swp x y k),λk=>e.cX (swp x y k)⟩;have s:∀j,g.ca (swp x y j)=e.ca j:=λj=>by simp[g,si]
 have t:∀j,g.sv (swp x y j)=e.sv j:=λj=>by simp[g,si]
 have E:∀j,g.cX (swp x y j)=e.cX j:=λj=>by simp[g,si]
 have C:∀k,bc (lO (swp x y) st.h) k=(bc st.h (swp x y k)).map (Ob.jh (swp x y)):=λk=>by
  have:=PU (swp x y) (Xf x y) st.h (swp x y k);rwa[si]at this
 have m:∀k ob,bc (lO (swp x y) st.h) k=some ob->∃f,bc st.h (swp x y k)=some f/\ob=f.jh (swp x y):=λk ob c=>by
  rw[C]at c;obtain⟨f,h,n⟩:=awC.1 c;exact⟨f,h,n.symm⟩
 have r:∀b o u,bT v q e st.h w b o u->bT v q g (lO (swp x y) st.h) w b o u:=λb o u ⟨n,z,A⟩=>⟨n,z,λk ob c p=>by
  obtain⟨f,h,_⟩:=m k ob c;exact A _ f h p⟩
 refine⟨g,l.n,l.d,⟨l.sr.ext,l.sr.lA,λk ob c=>?_,λk ob b c p=>?_,λk F ob G b c D p B=>?_,λk c=>?_⟩,λi=>?_⟩
 .obtain⟨f,h,rfl⟩:=m k ob c
  have:=((l.sr.ob _ f h).mono r).jh (e':=g) (swp x y) s t E;rwa[si]at this
 .obtain⟨f,h,rfl⟩:=m k ob c
  exact l.sr.base _ f b h p
 .obtain⟨f,h,rfl⟩:=m k ob c
  obtain⟨J,n,rfl⟩:=m F G D;exact Xf x y _ _ (l.sr.inj _ _ _ _ _ h n p B)
 .have:swp x y k=k:=by unfold swp;rw[av2 bv,av2 bv]
  simp only[g,this];exact l.sr.yz k c
 .show VR _ _ (bO (PR (swp x y) st.t) i) _
  rw[PT];exact((l.tr i).mono r).jh rfl (swp x y) s t
def cG.own(i k:Nat)(r:k<4294967296)(t:EQ)(h:Nat)(f:bO st.t i=.sl true c [])(fj:i<st.n):cG P st ⟨st.n,(i,.ow k)::dm k st.t,(k,some (.arr t h [] true))::bx k st.h⟩:=by
 intro x n e a w b;have m:=b.tr i;rw[f]at m;obtain⟨g,y,z,l,_,_,_,_,_,v,_⟩:=m.n_;have:=v rfl;simp only[aw4]at this l;subst this;obtain⟨s,o⟩:=b.sr.kill k;obtain⟨u,p⟩:=s.HP k t h g (eC k st.h) r;refine⟨_,b.n,b.d,u,λj=>?_⟩;simp only[bO];split
 next q=>subst q;rw[l];have:=VR.ow (Rd:=bT x n (e.cR k none (.slice g 0 0) 0) ((k,some (.arr t h [] true))::bx k st.h) w) (e:=e.cR k none (.slice g 0 0) 0) (k:=k);rw[Env.dZ]at this;exact this
 .exact((((b.tr.kill k).mono o).mono p).env k (ef k st.t) (λ_ f=>Env.bE f) (λ_ f=>Env.dy f)) j
end
section
variable{P:Fd}{st:St}{d:jQ}{ty t t2:EQ}{pos:String}{af:dY}{gd:gg}{x y:If}{k:IntKind}{a b:Int}
def RS.amC{c:AV}(h:st.ev x=c):RS P ⟨d,.move x,ty,pos,af,gd⟩ st c:=h▸RS.move x
def RS.aqa(c:st.ev A=.v (.bool true))(h:st.ev x=B):RS P ⟨d,.pick A x y,ty,pos,af,gd⟩ st B:=by
 have:=RS.pick (P:=P) (st:=st) (d:=d) (ty:=ty) (pos:=pos) (af:=af) (gd:=gd) A x y true c;simpa[h]using this
def RS.aqb(c:st.ev A=.v (.bool false))(h:st.ev y=B):RS P ⟨d,.pick A x y,ty,pos,af,gd⟩ st B:=by
 have:=RS.pick (P:=P) (st:=st) (d:=d) (ty:=ty) (pos:=pos) (af:=af) (gd:=gd) A x y false c;simpa[h]using this
def Xg(a b:Int):(a==b)=decide (a=b):=by
 by_cases h:a=b<;>simp[h]
def Xh(a b:Int):(a !=b)=decide (¬a=b):=by
 by_cases h:a=b<;>simp[h]
def e8(c:BinOp)(t:EQ)(x y:If)(k e:IntKind)(a b:Int)(w:GE):(eqGuard c t x y (.int k a) (.int e b)).run P w=.ok () w:=by
 cases c<;>simp[eqGuard]
def RS.bin{c:BinOp}{u v z:Id}(l:st.ev x=.v u)(m:st.ev y=.v v)(i:∀w,(eqGuard c t x y u v).run P w=.ok () w)(j:∀w,(binOp c t u v).run P w=.ok z w):RS P ⟨d,.binOp c t x y t2,ty,pos,af,gd⟩ st (.v z):=λp n e a w h=>by
 have f:=h.ev x;have g:=h.ev y;rw[l]at f;rw[m]at g;refine⟨z,.v,λo _=>?_⟩;simp only[execOp,f.bS,g.bS,awi,i,j,awk,awm]
def RS.lss(c:st.ev x=.v (.int k a))(e:st.ev y=.v (.int k b)):RS P ⟨d,.binOp .lss t x y t2,ty,pos,af,gd⟩ st (.v (.bool (decide (a<b)))):=
 RS.bin c e (e8 _ _ _ _ _ _ _ _) λw=>by simp[binOp_lss]
def RS.leq(c:st.ev x=.v (.int k a))(e:st.ev y=.v (.int k b)):RS P ⟨d,.binOp .leq t x y t2,ty,pos,af,gd⟩ st (.v (.bool (decide (a<=b)))):=
 RS.bin c e (e8 _ _ _ _ _ _ _ _) λw=>by simp[binOp_leq]
def RS.gtr(c:st.ev x=.v (.int k a))(e:st.ev y=.v (.int k b)):RS P ⟨d,.binOp .gtr t x y t2,ty,pos,af,gd⟩ st (.v (.bool (decide (b<a)))):=
 RS.bin c e (e8 _ _ _ _ _ _ _ _) λw=>by simp[binOp_gtr]
def RS.geq(c:st.ev x=.v (.int k a))(e:st.ev y=.v (.int k b)):RS P ⟨d,.binOp .geq t x y t2,ty,pos,af,gd⟩ st (.v (.bool (decide (b<=a)))):=
 RS.bin c e (e8 _ _ _ _ _ _ _ _) λw=>by simp[binOp_geq]
def RS.eql(c:st.ev x=.v (.int k a))(e:st.ev y=.v (.int k b)):RS P ⟨d,.binOp .eql t x y t2,ty,pos,af,gd⟩ st (.v (.bool (decide (a=b)))):=
 RS.bin c e (e8 _ _ _ _ _ _ _ _) λw=>by simp only[binOp_eql,awm,Xg]
def RS.neq(c:st.ev x=.v (.int k a))(e:st.ev y=.v (.int k b)):RS P ⟨d,.binOp .neq t x y t2,ty,pos,af,gd⟩ st (.v (.bool (decide (¬a=b)))):=
 RS.bin c e (e8 _ _ _ _ _ _ _ _) λw=>by simp only[binOp_neq,awm,Xh]
def RS.add(c:st.ev x=.v (.int k a))(e:st.ev y=.v (.int k b)):RS P ⟨d,.binOp .add t x y t2,ty,pos,af,gd⟩ st (.v (.int k (k.wrap (a+b)))):=
 RS.bin c e (e8 _ _ _ _ _ _ _ _) λw=>by simp[binOp_add,Op.intArith]
def RS.sub(c:st.ev x=.v (.int k a))(e:st.ev y=.v (.int k b)):RS P ⟨d,.binOp .sub t x y t2,ty,pos,af,gd⟩ st (.v (.int k (k.wrap (a - b)))):=
 RS.bin c e (e8 _ _ _ _ _ _ _ _) λw=>by simp[binOp_sub,Op.intArith]
def RS.mul(c:st.ev x=.v (.int k a))(e:st.ev y=.v (.int k b)):RS P ⟨d,.binOp .mul t x y t2,ty,pos,af,gd⟩ st (.v (.int k (k.wrap (a*b)))):=
 RS.bin c e (e8 _ _ _ _ _ _ _ _) λw=>by simp[binOp_mul,Op.intArith]
def RS.rem(e:st.ev x=.v (.int k a))(f:st.ev y=.v (.int k b))(c:¬b=0):RS P ⟨d,.binOp .rem t x y t2,ty,pos,af,gd⟩ st (.v (.int k (a.tmod b))):=
 RS.bin e f (e8 _ _ _ _ _ _ _ _) λw=>by simp[binOp_rem,Op.intDiv,c]
def RS.quo(e:st.ev x=.v (.int k a))(f:st.ev y=.v (.int k b))(c:¬b=0):RS P ⟨d,.binOp .quo t x y t2,ty,pos,af,gd⟩ st (.v (.int k (k.wrap (a.tdiv b)))):=
 RS.bin e f (e8 _ _ _ _ _ _ _ _) λw=>by simp[binOp_quo,Op.intDiv,c]
def RS.not{b:In}(g:st.ev x=.v (.bool b)):RS P ⟨d,.unOp .not t x,ty,pos,af,gd⟩ st (.v (.bool (!b))):=λl i e a w h=>by
 have c:=h.ev x;rw[g]at c;refine⟨_,.v,λj _=>?_⟩;have f:=c.bS;simp only[execOp,f,unary_not,awi,awm,awk]
def RS.atM{b c:In}(e:P.underlying t=some .bool)(f:st.ev x=.v (.bool b))(g:st.ev y=.v (.bool c)):RS P ⟨d,.binOp .eql t x y t2,ty,pos,af,gd⟩ st (.v (.bool (b==c))):=
 RS.bin f g (λw=>by simp[eqGuard]) λw=>run_eql_bool w t b c e
def RS.min2{p:jP}{m n:Int}(l:st.ev x=.v (.int k m))(o:st.ev y=.v (.int k n)):RS P ⟨d,.call ⟨.builtin .min, #[x,y],p⟩,ty,pos,af,gd⟩ st (.v (.int k (if n<m then n else m))):=λs q e a w h=>by
 have c:=h.ev x;have f:=h.ev y;rw[l]at c;rw[o]at f;refine⟨_,.v,λr _=>?_⟩;have g:=c.bS;have i:=f.bS;have j:(#[x,y]:gV).map a.eval= #[.int k m,.int k n]:=by simp only[ayr,awo,axd,g,i]
 simp only[execOp,resolve,j,awi,awm,awk,invoke,builtin,Builtin.min_,ayF,ayG,Builtin.min2]
end
variable{R:Fd}
structure En where
 d:cn
 c:AV
 os:Hp
 us:a_
 fr:Nat->Bool
 al:Nat->Ob->Prop
def fj(k:Nat)(h:Hp):In:=h.any λp=>p.1==k
def H2(a:fj c K=false)(h':Hp):bc (K++h') c=bc h' c:=by
 rw[eP,av2 (by unfold fj at a;rw[a];simp)]
def Lj(a:fj c K=true)(h':Hp):bc (K++h') c=bc K c:=by
 rw[eP,av3 (by unfold fj at a;rw[a])]
def Ob.hL(p:Nat->In):Ob->In
 |.box _ a=>AV.oa p a
 |.arr .. =>true
 |.mp .. =>true
 |.nr _ a=>AV.oa p a
def sj(p:Nat->In)(h:Hp):In:=h.all λq=> !p q.1 && (match q.2 with|some ob=>ob.hL p|none=>true)
def Xi(p:Nat->In)(h:Hp):In:=h.all λq=>(match q.2 with|some ob=>ob.hL p|none=>true)
def DY(p:Nat->In)(t:Do (Nat×AV)):In:=t.all λq=>q.2.hL p
def H3{p:Nat->In}:∀{t:Do (Nat×AV)},DY p t=true->∀i,(bO t i).hL p=true
 |[],_,i=>rfl
 |(j,c)::t,h,i=>by
  simp only[DY,axb,av4]at h;simp only[bO];split
  .exact h.1
  .exact H3 (by simpa[DY]using h.2) i
def P4{p:Nat->In}:∀{h:Hp},Xi p h=true->∀k ob,bc h k=some ob->ob.hL p=true
 |[],_,k,ob,h=>by simp[bc]at h
 |(j,o)::t,h,k,ob,a=>by
  simp only[Xi,axb,av4]at h;by_cases b:k=j
  .subst b
   rw[bf]at a;subst a;exact h.1
  .rw[bd b]at a
   exact P4 (by simpa[Xi]using h.2) k ob a
def kX:cn->AV->Do (Nat×AV)->Do (Nat×AV)
 |some d,c,t=>(d,c)::t
 |none,_,t=>t
def Gr(t:Do (Nat×AV)):Do En->Do (Nat×AV)
 |[]=>t
 |u::a=>Gr (kX u.d u.c t) a
def DZ(h:Hp):Do En->Hp
 |[]=>h
 |u::a=>DZ (u.os++h) a
def aj9(a:a_)(o:Oper):Nat:=o.after.toList.foldl (λm e=>if Region.binds .any e then m|||(2^e.on)|||a.getD e.on 0 else m) 0
def ael:a_->bq->a_
 |a,[]=>a
 |a,o::l=>ael (a++[aj9 a o]) l
def eF(l:bq)(j i:Nat):In:=((ael [] l).getD j 0).testBit i
def sn(l:bq)(S:Nat->In):Prop:=∀(j:Nat) o,l[j]? =some o->S j=true->∀e∈o.after,Region.binds .any e=true->S e.on=true
def aem(h:(aj9 X D).testBit c=true):∃e∈D.after,Region.binds .any e=true/\(e.on=c\/(X.getD e.on 0).testBit c=true):=by
 have j:∀(d:Do Edge) (m:Nat),(d.foldl (λm e=>if Region.binds .any e then m|||(2^e.on)|||X.getD e.on 0 else m) m).testBit c=true->m.testBit c=true\/∃e∈d,Region.binds .any e=true/\(e.on=c\/(X.getD e.on 0).testBit c=true):=by
  intro d
  induction d with
  |nil=>intro m h;exact .inl h
  |cons e d i=>
   intro m h;rw[List.foldl_cons]at h;rcases i _ h with a|⟨g,f,b⟩
   .split at a
    next b=>
     simp only[Nat.testBit_or,aw2]at a;rcases a with(a|a)|a
     .exact .inl a
     .rw[Nat.testBit_two_pow]at a
      exact .inr ⟨e,d5,b,.inl (by simpa using a)⟩
     .exact .inr ⟨e,d5,b,.inr a⟩
    .exact .inl a
   .exact .inr ⟨g,by simp[f],b⟩
 rcases j _ _ h with a|⟨e,f,b⟩
 .simp at a
 .exact⟨e,by simpa using f,b⟩
def fL{l:bq}{S:Nat->In}(n:sn l S):∀(j i:Nat),eF l j i=true->S j=true->S i=true:=by
 have v:∀(l2 c:bq) (a:a_),l=c++l2->a.length=c.length->(∀j i,(a.getD j 0).testBit i=true->S j=true->S i=true)->∀j i,((ael a l2).getD j 0).testBit i=true->S j=true->S i=true:=by
  intro l2
  induction l2 with
  |nil=>intro c a _ _ h;exact h
  |cons o l2 u=>
   intro c a k m h;refine u (c++[o]) _ (by simp[k]) (by simp[m]) λj i b g=>?_;by_cases s:j<a.length
   .simp only[List.getD,awY s]at b
    exact h j i b g
   .by_cases r:j=a.length
    .subst r
     simp[List.getD]at b;obtain⟨e,q,p,d⟩:=aem b;have t:l[a.length]? =some o:=by rw[k,m];simp
     have f:=n _ o t g e q p;rcases d with rfl|d
     .exact f
     .exact h _ i d f
    .have:(a++[aj9 a o]).getD j 0=0:=by
      simp[List.getD,awO (show(a++[aj9 a o]).length<=j by simp;omega)]
     rw[this]at b;simp at b
 exactλj i=>v l [] [] rfl rfl (λj i h=>by simp at h) j i
def aen(l:bq)(j x:Nat):In:=(List.range l.length).all λi=>match l[i]? with
 |some o=>o.dst !=some x||Nat.beq i j||eF l i j
 |none=>true
structure Kn(l:bq)(oZ:St)(done:List En)(o:Oper)(u:En)(st:St):Prop where
 n:st.n=oZ.n
 t0:∀x,(l.all λo=>o.dst !=some x)=true->bO st.t x=bO oZ.t x
 t1:∀x,aen l done.length x=true->bO st.t x=bO oZ.t x
 ts:∀e∈o.after,Region.binds .any e=true->∀v d,done[e.on]? =some v->v.d=some d->bO st.t d=v.c
 h:∀k,u.us.contains k=true->bc st.h k=bc (DZ oZ.h done) k\/∃ob,bc st.h k=some ob/\u.al k ob
 ft:∀x,(bO st.t x).hL u.fr=true
 fh:∀k ob,bc st.h k=some ob->ob.hL u.fr=true
 fk:∀k,u.fr k=true->bc st.h k=none
def DS(P:Fd)(l:bq)(a:St)(done:Do En)(o:Oper)(u:En):Prop:=
 ∀st,Kn l a done o u st->GS P l.toArray o st (λs=>s=⟨st.n,kX u.d u.c st.t,u.os++st.h⟩)
def ant(v u:En):Prop:=
 v.os.all (λp=> !fj p.1 u.os && !u.us.contains p.1)=true/\∀k,fj k u.os=true->v.us.contains k=true->∃ob,bc u.os k=some ob/\v.al k ob
def P5(l:bq)(i j:Nat)(v u:En):Prop:=ant v u\/eF l j i=true
def aeo(l:bq)(i j:Nat)(v u:En):Prop:=
 (v.c.hL u.fr=true/\sj u.fr v.os=true)/\((u.c.hL v.fr=true/\sj v.fr u.os=true)\/eF l j i=true)
def aj_(l:bq)(u:En)(j:Nat):Nat->Do En->Prop
 |_,[]=>True
 |i,v::done=>P5 l i j v u/\aeo l i j v u/\aj_ l u j (i+1) done
def P6{l:bq}{u:En}{j:Nat}:∀{a:Nat} {done:Do En},aj_ l u j a done->∀(i:Nat) v,done[i]? =some v->P5 l (a+i) j v u/\aeo l (a+i) j v u
 |a,[],_,i,v,h=>by simp at h
 |a,x::done,b,i,v,h=>by
  cases i with
  |zero=>simp at h;subst h;exact⟨b.1,b.2.1⟩
  |succ i=>
   have:=P6 b.2.2 i v (by simpa using h);rw[show a+(i+1)=a+1+i by omega];exact this
def Fe:bq->In
 |[]=>true
 |o::l=>(match o.dst with|some d=>l.all λp=>p.dst !=some d|none=>true) && Fe l
def iv:∀{l:bq},Fe l=true->∀(i j:Nat) o p d,l[i]? =some o->l[j]? =some p->o.dst=some d->p.dst=some d->i=j
 |[],_,i,j,o,p,d,h,_,_,_=>by simp at h
 |x::l,c,i,j,o,p,d,a,b,e,f=>by
  simp only[Fe,av4]at c;have m:∀(k:Nat) y,l[k]? =some y->x.dst=some d->y.dst≠some d:=λk y n q r=>by
   have g:=c.1;simp only[q]at g;have:=awt.1 g y (awg n);simp[r]at this
  cases i with
  |zero=>
   simp at a;subst a;cases j with
   |zero=>rfl
   |succ j=>exact absurd f (m j p (by simpa using b) e)
  |succ i=>
   cases j with
   |zero=>simp at b;subst b;exact absurd e (m i o (by simpa using a) f)
   |succ j=>rw[iv c.2 i j o p d (by simpa using a) (by simpa using b) e f]
structure Nl(P:Program)(l:bq)(oZ:St)(pl:List En):Prop where
 len:pl.length=l.length
 step:∀(j:Nat) o u,l[j]? =some o->pl[j]? =some u->o.dst=u.d/\DS P l oZ (pl.take j) o u
 fit:∀(i j:Nat) v u,i<j->pl[i]? =some v->pl[j]? =some u->P5 l i j v u/\aeo l i j v u
 P7:∀(j:Nat) u,pl[j]? =some u->DY u.fr oZ.t=true/\sj u.fr oZ.h=true
 inj:Fe l=true
 back:∀(j:Nat) o,l[j]? =some o->∀e∈o.after,Region.binds .any e=true->e.on<j
structure P8(l:bq)(oZ:St)(pl:List En):Prop where
 len:pl.length=l.length
 dst:∀(j:Nat) o u,l[j]? =some o->pl[j]? =some u->o.dst=u.d
 fit:∀(i j:Nat) v u,i<j->pl[i]? =some v->pl[j]? =some u->P5 l i j v u/\aeo l i j v u
 P7:∀(j:Nat) u,pl[j]? =some u->DY u.fr oZ.t=true/\sj u.fr oZ.h=true
 inj:Fe l=true
 back:∀(j:Nat) o,l[j]? =some o->∀e∈o.after,Region.binds .any e=true->e.on<j
def Nl.w{l:bq}{a:Do En}(h:Nl R l Y a):P8 l Y a:=⟨h.len,λj o u b c=>(h.step j o u b c).1,h.fit,h.P7,h.inj,h.back⟩
structure Inv(oZ:St)(pl:List En)(S:Nat->Bool)(st:St):Prop where
 n:st.n=oZ.n
 t0:∀x,(∀i u,pl[i]? =some u->S i=true->u.d≠some x)->bO st.t x=bO oZ.t x
 ts:∀(i:Nat) u d,pl[i]? =some u->S i=true->u.d=some d->bO st.t d=u.c
 h0:∀k,(∀(i:Nat) u,pl[i]? =some u->S i=true->fj k u.os=false)->bc st.h k=bc oZ.h k
 hs:∀k (i:Nat) u,pl[i]? =some u->S i=true->fj k u.os=true->(∀(i':Nat) u',i<i'->pl[i']? =some u'->S i'=true->fj k u'.os=false)->bc st.h k=bc u.os k
def so{p:Nat->In}:∀{h:Hp} {k:Nat},sj p h=true->p k=true->fj k h=false
 |[],k,_,_=>rfl
 |(j,o)::h,k,a,b=>by
  simp only[sj,axb,av4]at a;simp only[fj,axY,ax8];refine⟨?_,so (h:=h) (by simpa[sj]using a.2) b⟩;have:p j=false:=by simpa using a.1.1
  simp;rintro rfl;rw[b]at this;cases this
def H4{p:Nat->In}(a:sj p K=true){ob:Ob}(b:bc K c=some ob):ob.hL p=true:=by
 refine P4 (p:=p) (h:=K) ?_ c ob b;simp only[sj,awt,av4]at a;simp only[Xi,awt];exactλq d=>(a q d).2
def qt:∀{h:Hp} {k:Nat},fj k h=false->bc h k=none
 |[],_,_=>rfl
 |(j,o)::h,k,a=>by
  simp only[fj,axY,ax8]at a;have:¬k=j:=λb=>by have:=a.1;simp[b]at this
  simp only[bc,this,aw1];exact qt a.2
def Nn(p:Nat->Prop):∀N,(∃i,i<N/\p i)->∃i,i<N/\p i/\∀a,i<a->a<N->¬p a
 |0,⟨i,h,_⟩=>by omega
 |N+1,⟨i,h,e⟩=>by
  by_cases b:p N
  .exact⟨N,bv,b,λa f d=>by omega⟩
  .obtain⟨i,f,d,g⟩:=Nn p N ⟨i,by
    rcases axF i N with c|c
    .exact c
    .have:i=N:=bv
     subst this;exact absurd e b,e⟩
   refine⟨i,bv,d,λa j l=>?_⟩;by_cases k:a=N
   .subst k;exact b
   .exact g a j bv
def xG:∀(a:Do En) (h:Hp) (k:Nat),(∀u∈a,fj k u.os=false)->bc (DZ h a) k=bc h k
 |[],h,k,_=>rfl
 |u::a,h,k,b=>by rw[DZ,xG a _ k (λv c=>b v (by simp[c])),H2 (b u d5)]
def D0:∀(a:Do En) (h:Hp) (k i:Nat) (u:En),a[i]? =some u->fj k u.os=true->(∀(c:Nat) d,i<c->a[c]? =some d->fj k d.os=false)->bc (DZ h a) k=bc u.os k
 |[],h,k,i,u,b,_,_=>by simp at b
 |v::a,h,k,0,u,b,f,e=>by
  simp at b;subst b;rw[DZ,xG a _ k (λw m=>by
   obtain⟨j,l,rfl⟩:=awV m;exact e (j+1) _ bv (by simp[awf l])),Lj f]
 |v::a,h,k,i+1,u,b,f,e=>by
  rw[DZ];exact D0 a _ k i u (by simpa using b) f λc d n g=>e (c+1) d bv (by simpa using g)
def kx:bO (kX H B J) c=if H=some c then B else bO J c:=by
 cases H with
 |none=>simp[kX]
 |some H=>
  simp only[kX,bO];by_cases h:c=H
  .subst h;simp
  .have:¬H=c:=λe=>h e.symm
   simp[h,this]
def D1:∀(a:Do En) (t:Do (Nat×AV)) (x:Nat),(∀u∈a,u.d≠some x)->bO (Gr t a) x=bO t x
 |[],t,x,_=>rfl
 |u::a,t,x,b=>by rw[Gr,D1 a _ x (λv c=>b v (by simp[c])),kx,av2 (b u d5)]
def Lk:∀(a:Do En) (t:Do (Nat×AV)) (x i:Nat) (u:En),a[i]? =some u->u.d=some x->(∀(c:Nat) d,i<c->a[c]? =some d->d.d≠some x)->bO (Gr t a) x=u.c
 |[],t,x,i,u,b,_,_=>by simp at b
 |v::a,t,x,0,u,b,f,e=>by
  simp at b;subst b;rw[Gr,D1 a _ x (λw k=>by
   obtain⟨j,h,rfl⟩:=awV k;exact e (j+1) _ bv (by simp[awf h])),kx,av3 f]
 |v::a,t,x,i+1,u,b,f,e=>by
  rw[Gr];exact Lk a _ x i u (by simpa using b) f λc d l g=>e (c+1) d bv (by simpa using g)
section
section
variable{P:Fd}{l:bq}{oZ:St}{pl:Do En}{S:Nat->In}{st:St}
def og(n:P8 l oZ pl)(q:Nat->En->Prop)(h:∃i u,pl[i]? =some u/\q i u):∃i u,pl[i]? =some u/\q i u/\∀a b,i<a->pl[a]? =some b->¬q a b:=by
 obtain⟨i,u,e,c⟩:=h;obtain⟨i,m,⟨u,k,c⟩,f⟩:=Nn (λi=>∃u,pl[i]? =some u/\q i u) pl.length ⟨i,(av7.1 e).1,u,e,c⟩;exact⟨i,u,k,c,λa b g d j=>f a g (av7.1 d).1 ⟨b,d,j⟩⟩
def Inv.kn(m:P8 l oZ pl)(n:Inv oZ pl S st){u:En}(W:l[c]? =some D)(y:pl[c]? =some u)(Q:sn l S)(E:S c=false)(X:∀e∈D.after,Region.binds .any e=true->S e.on=true):
 Kn l oZ (pl.take c) D u st:=by
 have a7:c<pl.length:=(av7.1 y).1;have a0:(pl.take c).length=c:=d7
 have a1:sn l (λi=>S i||i==c):=λi C B b e H A=>by
  by_cases w:i=c
  .subst w
   obtain rfl:=av_ (W.symm.trans B);simp[X e H A]
  .have:S i=true:=by simpa[w]using b
   simp[Q i C B this e H A]
 have a2:∀i,eF l c i=true->i≠c->S i=true:=λi A w=>by
  have:=fL a1 c i A d5;simpa[w]using this
 have L:∀i,S i=true->eF l i c=false:=λi b=>by
  cases h:eF l i c with
  |false=>rfl
  |true=>rw[fL Q i c h b]at E;cases E
 have M:∀(i:Nat) v,pl[i]? =some v->S i=true->v.c.hL u.fr=true/\sj u.fr v.os=true:=λi v a b=>by
  rcases axH i c with h|h|h
  .exact(m.fit i c v u h a y).2.1
  .subst h;rw[E]at b;cases b
  .rcases(m.fit c i u v h y a).2.2 with f|f
   .exact f
   .rw[L i b]at f;cases f
 have R:∀(i:Nat) v,pl[i]? =some v->∃C,l[i]? =some C/\C.dst=v.d:=λi v a=>by
  have J:i<l.length:=by rw[<-m.len];exact(av7.1 a).1
  exact⟨l[i],awf J,m.dst i _ v (awf J) a⟩
 have a3:∀k,u.fr k=true->bc st.h k=none:=λk r=>by
  rw[n.h0 k λi v a b=>so (M i v a b).2 r];exact qt (so (m.P7 c u y).2 r)
 refine⟨n.n,λx K=>?_,λx K=>?_,λe H A v d a s=>?_,λk r=>?_,λx=>?_,λk ob r=>?_,a3⟩
 .refine n.t0 x λi v a _ s=>?_
  obtain⟨C,B,N⟩:=R i v a;have:=awt.1 K C (awg B);rw[N,s]at this;simp at this
 .rw[a0]at K
  refine n.t0 x λi v a b s=>?_;obtain⟨C,B,N⟩:=R i v a;have J:i<l.length:=(av7.1 B).1;have:=awt.1 K i (by simpa using J);simp only[B,N,s,L i b,Bool.or_false,aw2]at this;rcases this with h|h
  .simp at h
  .have:i=c:=by simpa using h
   subst this;rw[E]at b;cases b
 .have I:=m.back c D W e H A
  rw[awP,av3 I]at a;exact n.ts e.on v d a (X e H A) s
 ·
  have Y:∀(i:Nat) v,pl[i]? =some v->fj k v.os=true->(i<c->S i=true)/\(S i=true->i<c\/∃ob,bc v.os k=some ob/\u.al k ob):=λi v a j=>by
   obtain⟨p,a4,O⟩:=axR.1 j;have O:p.1=k:=by simpa using O
   refine⟨λI=>?_,λb=>?_⟩
   .rcases(m.fit i c v u I a y).1 with f|f
    .have:=awt.1 f.1 p a4
     simp only[av4,O,r]at this;simp at this
    .exact a2 i f bv
   .rcases axH i c with h|h|h
    .exact .inl h
    .subst h;rw[E]at b;cases b
    .rcases(m.fit c i u v h y a).1 with f|f
     .exact .inr (f.2 k j r)
     .rw[L i b]at f;cases f
  by_cases U:∃i v,pl[i]? =some v/\(S i=true/\c<i/\fj k v.os=true)
  .obtain⟨i,v,a,⟨b,a6,j⟩,F⟩:=og m (λi v=>S i=true/\c<i/\fj k v.os=true) U
   rcases(Y i v a j).2 b with h|⟨ob,f,q⟩
   .omega
   .exact .inr ⟨ob,(n.hs k i v a b j λz o G h4 h5=>by
     cases g:fj k o.os with
     |false=>rfl
     |true=>exact absurd ⟨h5,bv,g⟩ (F z o G h4)).trans f,q⟩
  refine .inl ?_;have Z:∀(i:Nat) v,pl[i]? =some v->fj k v.os=true->S i=true->i<c:=λi v a j b=>by
   rcases axH i c with h|h|h
   .exact h
   .subst h;rw[E]at b;cases b
   .exact absurd ⟨i,v,a,b,h,j⟩ U
  by_cases t:∃i v,pl[i]? =some v/\(i<c/\fj k v.os=true)
  .obtain⟨i,v,a,⟨w,j⟩,F⟩:=og m (λi v=>i<c/\fj k v.os=true) t
   rw[n.hs k i v a ((Y i v a j).1 w) j λz o f q G=>?_]
   .refine(D0 _ _ k i v (by rw[awP,av3 w];exact a) j λz o f q=>?_).symm
    rw[awP]at q;split at q
    next I=>
     cases g:fj k o.os with
     |false=>rfl
     |true=>exact absurd ⟨I,g⟩ (F z o f q)
    .cases q
   .cases g:fj k o.os with
    |false=>rfl
    |true=>exact absurd ⟨Z z o q g G,g⟩ (F z o f q)
  .rw[n.h0 k λi v a b=>?_,xG _ _ k λv a=>?_]
   .obtain⟨i,V,rfl⟩:=awV a
    have w:i<c:=by rw[a0]at V;exact V
    have a5:pl[i]? =some ((pl.take c)[i]):=by
     rw[List.getElem_take];exact awf bv
    cases g:fj k ((pl.take c)[i]).os with
    |false=>rfl
    |true=>exact absurd ⟨i,_,a5,w,g⟩ t
   .cases g:fj k v.os with
    |false=>rfl
    |true=>exact absurd ⟨i,v,a,Z i v a g b,g⟩ t
 .by_cases t:∃(i:Nat) (v:En),pl[i]? =some v/\S i=true/\v.d=some x
  .obtain⟨i,v,a,b,s⟩:=t
   rw[n.ts i v x a b s];exact(M i v a b).1
  .rw[n.t0 x λi v a b s=>t ⟨i,v,a,b,s⟩]
   exact H3 (m.P7 c u y).1 x
 .by_cases t:∃i v,pl[i]? =some v/\(S i=true/\fj k v.os=true)
  .obtain⟨i,v,a,⟨b,j⟩,F⟩:=og m (λi v=>S i=true/\fj k v.os=true) t
   rw[n.hs k i v a b j λz o f q G=>by
    cases g:fj k o.os with
    |false=>rfl
    |true=>exact absurd ⟨G,g⟩ (F z o f q)]at r
   exact H4 (M i v a b).2 r
  .rw[n.h0 k λi v a b=>by
    cases g:fj k v.os with
    |false=>rfl
    |true=>exact absurd ⟨i,v,a,b,g⟩ t]at r
   exact H4 (m.P7 c u y).2 r
def Inv.step(n:P8 l oZ pl)(j:Inv oZ pl S st){u:En}(W:l[c]? =some D)(g:pl[c]? =some u)(L:sn l S)(C:S c=false):
 Inv oZ pl (λi=>S i||i==c) ⟨st.n,kX u.d u.c st.t,u.os++st.h⟩:=by
 have M:∀i,S i=true->eF l i c=false:=λi b=>by
  cases h:eF l i c with
  |false=>rfl
  |true=>rw[fL L i c h b]at C;cases C
 have w:∀i,S i=true->(S i||i==c)=true:=λi h=>by simp[h]
 have z:∀(i:Nat) v,pl[i]? =some v->∃o,l[i]? =some o/\o.dst=v.d:=λi v a=>by
  have B:i<l.length:=by rw[<-n.len];exact(av7.1 a).1
  exact⟨l[i],awf B,n.dst i _ v (awf B) a⟩
 refine⟨j.n,λx I=>?_,λi v d a b t=>?_,λk E=>?_,λk i v a b m F=>?_⟩
 .simp only[kx]
  rw[av2 (I c u g d5)];exact j.t0 x λi v a b=>I i v a (w i b)
 .simp only[kx]
  by_cases f:i=c
  .subst f
   obtain rfl:=av_ (g.symm.trans a);rw[av3 t]
  .have O:u.d≠some d:=λR=>by
    obtain⟨o,e,r⟩:=z i v a;obtain⟨U,s,K⟩:=z c u g;exact f (iv n.inj i c o U d e s (r.trans t) (K.trans R))
   rw[av2 O];exact j.ts i v d a (by simpa[f]using b) t
 .show bc (u.os++st.h) k=_
  rw[H2 (E c u g d5)];exact j.h0 k λi v a b=>E i v a (w i b)
 .show bc (u.os++st.h) k=_
  by_cases f:i=c
  .subst f
   obtain rfl:=av_ (g.symm.trans a);exact Lj m _
  .have H:S i=true:=by simpa[f]using b
   have N:fj k u.os=false:=by
    cases A:fj k u.os with
    |false=>rfl
    |true=>
     obtain⟨p,X,G⟩:=axR.1 m;have G:p.1=k:=by simpa using G
     obtain⟨q,Q,y⟩:=axR.1 A;have y:q.1=k:=by simpa using y
     rcases axH i c with h|h|h
     .have:=F c u h g d5
      rw[A]at this;cases this
     .exact absurd h f
     .rcases(n.fit c i u v h g a).1 with e|e
      .have:=awt.1 e.1 q Q
       simp only[av4,y,m]at this;simp at this
      .rw[M i H]at e;cases e
   rw[H2 N];exact j.hs k i v a H m λJ V e r s=>F J V e r (w J s)
def Inv.fin(p:P8 l oZ pl)(f:Inv oZ pl S st)(t:∀j,j<l.length->S j=true):(∀x,bO (Gr oZ.t pl) x=bO st.t x)/\∀k,bc (DZ oZ.h pl) k=bc st.h k:=by
 have r:∀(i:Nat) v,pl[i]? =some v->S i=true:=λi v a=>t i (by rw[<-p.len];exact(av7.1 a).1);refine⟨λx=>?_,λk=>?_⟩
 .by_cases d:∃(i:Nat) (v:En),pl[i]? =some v/\v.d=some x
  .obtain⟨i,v,a,b,o⟩:=og p (λi v=>v.d=some x) d
   rw[Lk pl _ x i v a b o,f.ts i v x a (r i v a) b]
  .rw[D1 pl _ x λv a b=>by
    obtain⟨i,n,rfl⟩:=awV a;exact d ⟨i,_,awf n,b⟩,f.t0 x λi v a _ b=>d ⟨i,v,a,b⟩]
 .by_cases d:∃(i:Nat) (v:En),pl[i]? =some v/\fj k v.os=true
  .obtain⟨i,v,a,b,o⟩:=og p (λi v=>fj k v.os=true) d
   have q:∀(e:Nat) c,i<e->pl[e]? =some c->fj k c.os=false:=λe c g h=>by
    cases m:fj k c.os with
    |false=>rfl
    |true=>exact absurd m (o e c g h)
   rw[D0 pl _ k i v a b q,f.hs k i v a (r i v a) b λe c g h _=>q e c g h]
  .have s:∀(i:Nat) v,pl[i]? =some v->fj k v.os=false:=λi v a=>by
    cases m:fj k v.os with
    |false=>rfl
    |true=>exact absurd ⟨i,v,a,m⟩ d
   rw[xG pl _ k λv a=>by
    obtain⟨i,n,rfl⟩:=awV a;exact s i _ (awf n),f.h0 k λi v a _=>s i v a]
def U4{K:St->Prop}(o:l[c]? =some D)(a:GS P l.toArray D st K){next:Act->GE->Prop}
 (m:Ga G h u st C d) (n:∀f,K f->∀i e g,Ga G h i f e g->next e g):wpOp P l.toArray j c next C d:=by
 have:=a G h u C d next j m n
 unfold wpOp;have k:l.toArray[c]? =some D:=by simpa using o
 rw[k];simp only;split
 next b=>rw[av3 b]at this;exact .inl this
 next b=>rw[av2 b]at this;exact this
def Nl.any(s:Nl P l oZ pl){w0:Bs}{Rd0:bL}{Q:IR->Act->GE->Prop}(V:∀e a w,Ga w0 Rd0 e ⟨oZ.n,Gr oZ.t pl,DZ oZ.h pl⟩ a w->Q .normal a w):
 ∀(k:Nat) (c:Array In) (st:St) (e:Env) (a:Act) (w:GE),c.size=l.length->sn l (λi=>c.getD i false)->(∀m,m=(c.toList.filter (·==false)).length->m=k)->Inv oZ pl (λi=>c.getD i false) st->Ga w0 Rd0 e st a w->
 wpAny P .any l.toArray Q k c a w:=by
 intro k
 induction k with
 |zero=>
  intro c st e a w F x z u B;have M:∀j,j<l.length->c.getD j false=true:=λj g=>by
   have R:(c.toList.filter (·==false)).length=0:=z _ rfl;have f:c.toList.filter (·==false)=[]:=aw6 R;have C:j<c.size:=bv
   have:c[j]∈c.toList:=d5
   have d:=aAN.1 f _ this;have:c[j]=true:=by simpa using d
   simp[C,this]
  have K:=u.fin s.w M;refine⟨?_,?_⟩
  .rw[azn]
   intro j g;obtain⟨f,o,v,_⟩:=ayH.1 g;have E:j<l.length:=by
    have:=(awS.1 v).1;simp at this;exact this
   have d:=M j E;rw[azo f]at d;cases d
  .obtain⟨A,hg⟩:=(cG.same (P:=P) (n:=oZ.n) K.1 K.2) w0 Rd0 e a w (by have:=B;rw[<-u.n];exact this)
   exact V A a w hg
 |succ k ih=>
  intro c st e a w F x z u B;have a9:∃j,j<l.length/\c.getD j false=false:=by
   have f:(c.toList.filter (·==false)).length=k+1:=z _ rfl;have d:c.toList.filter (·==false)≠[]:=λh=>by rw[h]at f;simp at f
   obtain⟨b,p⟩:=ay4 _ d;obtain⟨W,X⟩:=axp.1 p;obtain⟨j,g,a3⟩:=awV W;refine⟨j,by rw[<-F];simp at g;exact g,?_⟩;have C:j<c.size:=by simp at g;exact g
   have:c[j]=b:=by simpa using a3
   have Y:b=false:=by simpa using X
   simp[C,this,Y]
  refine⟨λa8=>?_,λj g=>?_⟩
  ·
   exfalso;obtain⟨j,a1,a2⟩:=a9;have:∀j,j<l.length->c.getD j false=false->False:=by
    intro j
    induction j using Nat.strongRecOn with
    |_ j ae=>
     intro f d;have v:l[j]? =some l[j]:=awf f;by_cases t:∀e∈(l[j]).after,Region.binds .any e=true->c.getD e.on false=true
     .have:j∈Region.ready .any l.toArray c:=ayH.2 ⟨getD_in bv d,l[j],d5,t⟩
      rw[a8]at this;cases this
     .simp only[aAO]at t
      obtain⟨e,Z,p,a7⟩:=t;have y:=s.back j _ v e Z p;exact ae e.on y bv (by simpa using a7)
   exact this j a1 a2
  .obtain⟨f,o,v,t⟩:=ayH.1 g
   have r:l[j]? =some o:=by simpa using v
   have E:j<l.length:=(av7.1 r).1;have a4:j<pl.length:=by rw[s.len];exact E
   have G:pl[j]? =some pl[j]:=awf a4;have D:c.getD j false=false:=azo f;have a5:=u.kn s.w r G x D t;refine U4 r ((s.step j o _ r G).2 st a5) B λaf ac A O w' a0=>?_;subst ac;have I:(λi=>(c.setIfInBounds j true).getD i false)=λi=>c.getD i false||i==j:=by
    funext i;by_cases q:i=j
    .subst q
     simp[axm,show i<c.size by omega]
    .have d:¬j=i:=λh=>q h.symm
     simp[axm,azU,d,q]
   refine ih _ _ A O w' (by simpa using F) ?_ ?_ ?_ a0
   .rw[I]
    intro i oi N aa H J p;by_cases q:i=j
    .subst q
     obtain rfl:=av_ (r.symm.trans N);simp[t H J p]
    .have ab:c.getD i false=true:=by simpa[q]using aa
     have:=x i oi N ab H J p;simp[this]
   .intro m a6
    have d:(c.toList.filter (·==false)).length=k+1:=z _ rfl;have U:∀(L:bw) (j:Nat),L[j]? =some false->((L.set j true).filter (·==false)).length+1=(L.filter (·==false)).length:=by
     intro L
     induction L with
     |nil=>intro j h;simp at h
     |cons b L ad=>
      intro j h;cases j with
      |zero=>simp at h;subst h;simp
      |succ j=>
       have:=ad j (by simpa using h);cases b<;>simp_all<;>omega
    have h4:=U c.toList j (by
     have y:j<c.size:=bv
     have:c[j]=false:=by simpa[y]using D
     simp[y,this])
    rw[ayR]at a6;omega
   .rw[I]
    exact u.step s.w r G x D
def AC.atN{id:Nat}{t:IR->St->Prop}(B:P.follows .mixedOrders=true)(E:Nl P l oZ pl)(h:t .normal ⟨oZ.n,Gr oZ.t pl,DZ oZ.h pl⟩):AC F P (.region id l.toArray true) oZ t:=by
 intro r n s e a w Q G v D;refine wpIn_region_any B (nE (λx c g q=>?_) _ _ _ _ (AO (r:=r) (m:=n.df.length) (l0:=HV l) (a0:=a)
  (Q:=λx c g=>x=.normal/\c.defers.length<=n.df.length/\∃f,Ga n s f ⟨oZ.n,Gr oZ.t pl,DZ oZ.h pl⟩ c g) (λx c g q=>⟨q.1,q.2.1⟩)
  (λi o y d z=>Lh z (l:=l) (awg (by simpa using y))) _ _ a _ (by rw[v.d];exact av5 _) (Kp.refl _ _)
  (E.any (w0:=n) (Rd0:=s) (λf c g p=>⟨rfl,by rw[p.d];exact av5 _,f,p⟩) _ _ oZ e a _ d5 ?_ ?_ ?_ (v.later ((Ext.refl w).drewN 1)))))
 .obtain⟨⟨rfl,_,f,p⟩,A⟩:=q
  exact D .normal _ h n s Bk.refl f c g p (by simpa[wrL]using A)
 .intro j o y b
  have b:(Array.replicate l.toArray.size false).getD j false=true:=b;rw[ay5]at b;cases b
 .intro m C
  rw[C];simp
 .exact⟨rfl,λx _=>rfl,λi u d _ b=>(by
   have b:(Array.replicate l.toArray.size false).getD i false=true:=b;rw[ay5]at b;cases b),λk _=>rfl,λk i u _ b=>(by
   have b:(Array.replicate l.toArray.size false).getD i false=true:=b;rw[ay5]at b;cases b)⟩
