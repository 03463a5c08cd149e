/- part 1 -/
import Derived.Test.YtglncfdpdaageaaGreatDoorRows
import Derived.WalkKit
import Derived.Lib.Hide
import Derived.Deep.Draws
import Derived.Laws.CopyOwn
import Derived.WalkSmall
import Derived.MapKept
import Derived.ChangeKeysEq
import Derived.Deep.Quiet
import Derived.LoopNIn
import Derived.OrdersIn
import Derived.TacticsIn
import Derived.RangeFuncCalls
import Derived.RangeFuncRecord
import Derived.Scope
import Derived.LoopN
import Derived.Great.BuildSlice
import Derived.Laws.MakeOwn
import Derived.StillTail
import Derived.Carry
import Derived.Lib.SliceRun
import Derived.Lib.AppendZeros
import Derived.Laws.IdiomRangeMap
import Derived.RangeFuncMany
import Derived.Laws.StructEq
import Derived.KernelRfl
import Derived.ProofKit
import Derived.OpenShut
import Derived.Lib.LaidTab
import Derived.Deep.DeepHandedRow
import Derived.SizedLaws
import Derived.Test.YtglncfdpdaageaaGreatDoorCards
import Derived.Test.YtglncfdpdaageaaGreatDoorTie
import Derived.Test.YtglncfdpdaageaaGreatDoorProg
import Derived.WalkSpells
import Derived.WalkLawsBesides
import Derived.Recover
import Derived.DefersIn
import Derived.Shelf.SlSortCmp.NoneTotal
import Derived.Shelf.SortM.SortNone
import Derived.Shelf.SortM.Plain
import Derived.Lib.QuietBelow
import Derived.Shelf.Spec.SlicesGrow
import Derived.Laws.BitsLemmas
import Derived.Defers
set_option linter.all false
noncomputable section
open Go Go.RowKit
set_option maxRecDepth 100000
namespace Go.Proofs.YtglncfdpdaageaaGreatDoor
theorem f0{p:Prop}(h:p:=by simp[Op.operands]):p:=h
theorem d9{p:Prop}(h:p:=by intro f;cases f):p:=h
theorem d8{p:Prop}(h:p:=by intro e;cases e):p:=h
theorem d7{p:Prop}(h:p:=by simp;omega):p:=h
theorem d6{p:Prop}(h:p:=by decide):p:=h
theorem d5{p:Prop}(h:p:=by simp):p:=h
theorem bv{p:Prop}(h:p:=by omega):p:=h
open Go Go.RowKit
abbrev At.{u}:Type u->Type u:=Option
abbrev Do.{u}:Type u->Type u:=List
abbrev EQ:=TypeId
abbrev Fd:=Program
abbrev GE:=World
abbrev Id:=Value
abbrev If:=Operand
abbrev In:=Bool
abbrev IO:=Exit
def auU:=@decide_eq_true
def auW:=@decide_eq_false
def auq:=@Nat.le_refl
def avl:=@Nat.le_trans
def ayb:=@Nat.le_succ_of_le
def awo:=@Go.World.block_lt_of_cell?
def au9:=@Array.getElem?_eq_some_iff
def awp:=@Bool.or_eq_false_iff
def aus:=@List.getElem?_eq_some_iff
def auy:=@List.getElem?_eq_getElem
def au7:=@List.getElem?_append_left
def avG:=@List.getElem?_append_right
def au3:=@List.getElem?_take
def avK:=@List.getElem?_drop
def avs:=@List.getElem?_set
def au4:=@List.flatten_cons
def auE:=@List.length_append
def auP:=@List.length_cons
def au6:=@Nat.add_mul
def avx:=@List.all_cons
def aup:=@Bool.and_eq_true
def avf:=@if_false
def awM:=@Go.World.cell?_of_block
def avA:=@Array.getD_eq_getD_getElem?
def axD:=@Array.getElem?_setIfInBounds
def aun:=@if_neg
def awy:=@Array.getElem?_push
def auo:=@if_pos
def aut:=@Option.some.inj
def auS:=@Nat.zero_le
def ayc:=@Go.heap_setCell_other
def auA:=@congrArg
def ayd:=@Go.heap_setCell_same
def aw4:=@List.mem_or_eq_of_mem_set
def awN:=@Array.toList_setIfInBounds
def avM:=@List.length_set
def axE:=@List.take_set
def auZ:=@Nat.zero_add
def avu:=@Go.cell_of_row
def awq:=@Nat.lt_of_lt_of_le
def axF:=@Bool.and_true
def avB:=@Bool.not_false
def auM:=@List.getElem?_map
def auY:=@Option.map_eq_some_iff
def auz:=@List.length_map
def avc:=@List.getElem_of_mem
def awO:=@List.getElem_mem
def auR:=@Go.run_underlying
def aw5:=@Go.setRow_other
def auC:=@List.mem_append
def av2:=@List.flatten_append
def avq:=@List.eq_nil_of_length_eq_zero
def au_:=@List.append_nil
def avg:=@List.length_nil
def awP:=@Nat.mul_pos
def ava:=@Go.Addr.add_lit
def awz:=@Array.size_append
def awa:=@List.size_toArray
def av3:=@Go.size_zeroCells
def awA:=@Array.toList_append
def awr:=@List.take_left
def aye:=@Go.grownCap_le_maxLen
def avd:=@List.nil_append
def avN:=@Go.grownCap_ge
def ayf:=@Go.run_append_nil
def awB:=@Go.run_append_grow
def awC:=@Nat.mul_le_mul_right
def ayg:=@Go.setRow_heap
def avR:=@List.getElem?_toArray
def auV:=@List.append_assoc
def awb:=@List.length_drop
def awD:=@Array.length_toList
def aw6:=@List.take_left'
def aw7:=@Go.growslice_fits
def au8:=@List.length_take
def auI:=@List.mem_of_getElem?
def awQ:=@Nat.zero_mul
def ave:=@List.drop_zero
def aws:=@Nat.one_mul
def ayh:=@Nat.add_comm
def ay0:=@List.drop_length_add_append
def awc:=@List.drop_drop
def awE:=@List.take_take
def auF:=@Go.Sem.run_bind
def auG:=@Go.Result.andThen_ok
def aur:=@Option.some.injEq
def auK:=@Prod.mk.injEq
def au2:=@if_true
def auJ:=@Go.Sem.run_pure
def avO:=@Nat.add_zero
def av4:=@Bool.false_eq_true
def aw8:=@Nat.add_assoc
def ay1:=@List.extract_eq_drop_take'
def awF:=@Option.bind_eq_some_iff
def awR:=@Go.frozen_of_row
def auO:=@List.all_eq_true
def av5:=@Array.toList_map
def ayi:=@Array.toArray_toList
def avH:=@List.cons_append
def awd:=@List.any_cons
def ayj:=@Bool.false_or
def auu:=@Nat.eq_of_beq_eq_true
def auX:=@Nat.beq_refl
def avt:=@List.mem_cons_of_mem
def avC:=@Bool.not_eq_true'
def auT:=@List.mem_cons
def auD:=@List.mem_map
def auL:=@List.map_cons
def auw:=@Nat.le_of_ble_eq_true
def avm:=@Bool.or_eq_true
def avS:=@Option.isSome_iff_exists
def aw9:=@beq_iff_eq
def avi:=@List.map_congr_left
def awe:=@List.map_id
def ayk:=@Go.callsIn_wide
def aw_:=@List.mem_cons_self
def ayl:=@List.mem_append_left
def aym:=@List.mem_append_right
def axG:=@Array.getElem?_setIfInBounds_ne
def axH:=@Array.toList_inj
def avb:=@Array.getElem?_eq_getElem
def axa:=@Go.wpList_step
def axI:=@Nat.lt_succ_self
def awf:=@List.take_append_drop
def awS:=@List.getElem?_replicate
def awg:=@Nat.mul_le_mul_left
def axJ:=@Int.toNat_of_nonneg
def au0:=@List.take_of_length_le
def awG:=@List.mem_of_mem_take
def axb:=@List.mem_of_mem_drop
def awT:=@Nat.lt_or_ge
def avj:=@List.drop_eq_nil_of_le
def awU:=@Int.le_refl
def awh:=@Int.natCast_mul
def auB:=@Int.toNat_natCast
def ay2:=@List.eq_of_mem_replicate
def avT:=@List.replicate_succ
def awH:=@Nat.mod_eq_of_lt
def ayn:=@Nat.mod_eq_sub_mod
def awt:=@Nat.le_of_not_lt
def awV:=@Nat.mod_lt
def ayo:=@Go.size_madeCells
def axc:=@List.mapM_cons
def ayp:=@Go.World.putObj_heap_other
def avD:=@List.nodup_cons
def axd:=@Nat.sub_zero
def axe:=@Array.getElem?_append
def au5:=@List.getElem?_eq_none
def ayq:=@Array.mapM_eq_mapM_toList
def axf:=@Go.Sem.run_map
def awI:=@List.map_toArray
def avy:=@List.map_nil
def awW:=@List.foldlM_cons
def awX:=@List.foldlM_nil
def avU:=@Nat.lt_trichotomy
def av6:=@List.any_eq_true
def ayr:=@List.filter_eq_nil_iff
def awY:=@List.eq_nil_iff_forall_not_mem
def awu:=@Go.mem_ready
def axg:=@Go.getD_both
def axh:=@List.exists_mem_of_ne_nil
def awi:=@List.mem_filter
def ays:=@Classical.not_forall
def awj:=@Go.getD_replicate_false
def avz:=@Option.map_some
def avE:=@List.map_map
def ayt:=@Go.MapKept.run_checkKey
def avn:=@decide_eq_true_eq
def awv:=@Go.run_part_plain
def ayu:=@Go.run_equalIn_int
def axK:=@not_false_eq_true
def auv:=@cond_false
def ay3:=@Array.mem_of_getElem?
def axL:=@List.pairwise_iff_getElem
def ayv:=@Go.MapKept.stamped_iff
def avv:=@Go.MapKept.run_getObj_map
def avV:=@Go.MapKept.run_setObj_map
def ayw:=@Go.MapKept.stamped_modify
def axi:=@Array.getElem_toList
def axM:=@Array.getElem_modify
def av7:=@Array.getElem?_modify
def axN:=@List.getElem?_set_ne
def axj:=@Go.MapKept.heap_set
def ayx:=@Go.Lib.run_eql_slice_nil
def ay4:=@Go.run_sliceAt_array_all
def awk:=@Option.map_none
def ay5:=@Go.run_sliceAt_array_h
def ay6:=@Go.run_sliceAt_array_l
def ay7:=@Go.run_sliceAt_array_lh
def avP:=@Nat.mul_one
def auN:=@List.mem_singleton
def avh:=@List.map_append
def axk:=@Prod.ext
def auQ:=@cond_true
def awl:=@List.map_set
def awJ:=@List.map_take
def awZ:=@List.map_drop
def avo:=@of_decide_eq_true
def ay8:=@List.getElem?_set_self
def aww:=@of_decide_eq_false
def ayy:=@List.all_append
def axl:=@List.set_cons_zero
def ay9:=@List.set_append_left
def ayz:=@List.set_cons_succ
def axO:=@List.set_append_right
def awm:=@List.set_getElem_self
def ayA:=@List.set_set
def ayB:=@Bool.false_and
def axP:=@beq_self_eq_true
def ayC:=@Bool.true_and
def avW:=@List.singleton_append
def avp:=@List.length_singleton
def axm:=@Nat.sub_self
def ayD:=@Nat.ble_eq_true_of_le
def awn:=@List.mem_flatten
def ayE:=@List.map_replicate
def axn:=@List.length_replicate
def axQ:=@List.contains_eq_mem
def avI:=@List.mem_flatMap
def avX:=@List.ext_getElem?
def avL:=@Array.getElem?_toList
def ay_:=@Array.findIdx?_eq_some_iff_getElem
def avJ:=@Nat.min_eq_left
def avY:=@List.headD_cons
def aw0:=@false_iff
def axo:=@List.take_append_of_le_length
def ayF:=@Option.bind_some
def axR:=@Bool.not_eq_false'
def axp:=@List.getElem?_range
def avw:=@List.cons.injEq
def av8:=@List.length_pos_iff
def avZ:=@Nat.mul_le_mul
def avQ:=@List.getD_eq_getElem?_getD
def ayG:=@Go.Proofs.Tryz.func171
def av0:=@Go.wp_seq
def axS:=@Go.calls_of_wp_defers
def av9:=@List.pairwise_cons
def ayH:=@List.mergeSort_perm
def aza:=@List.pairwise_mergeSort
def aw1:=@getElem!_pos
def awK:=@Array.getElem?_append_left
def axq:=@Nat.eq_zero_or_pos
def ayI:=@Nat.div_eq_of_lt
def ayJ:=@Go.Proofs.AnyF.slices_SortFunc_none
def azb:=@List.length_eq_zero_iff
def axr:=@List.pairwise_map
def azc:=@List.length_mergeSort
def avF:=@decide_true
def auH:=@Bool.not_true
def axT:=@List.exists_cons_of_ne_nil
def axs:=@Go.Proofs.Tryz.func121
def axU:=@Go.Proofs.Tryz.func53
def axV:=@List.getElem?_cons_zero
def av_:=@List.getElem?_cons_succ
def ayK:=@Go.callsD_of_wpS
def axW:=@Go.Proofs.Tryz.func104
def axt:=@Go.wp_block
def axX:=@Go.wp_scope_straight
def azd:=@Bool.and_eq_true_iff
def aze:=@List.drop_eq_getElem_cons
def av1:=@decide_eq_decide
def avk:=@List.nodup_append
def axu:=@List.perm_append_comm
def axY:=@List.getElem?_of_mem
def axv:=@Nat.le_total
def axw:=@Nat.min_eq_right
def ayL:=@Nat.max_eq_right
def ayM:=@Nat.max_eq_left
def axx:=@List.forall_mem_cons
def axZ:=@List.getLast?_cons_cons
def awx:=@List.filter_cons
def axy:=@Nat.lt_irrefl
def ax0:=@List.Perm.refl
def azf:=@List.perm_cons_erase
def ayN:=@List.cons.inj
def azg:=@Nat.div_lt_of_lt_mul
def ax1:=@Nat.le_div_iff_mul_le
def azh:=@List.eq_nil_or_concat
def azi:=@List.concat_eq_append
def au1:=@List.flatMap_cons
def avr:=@List.mem_range
def ayO:=@List.nodup_range
def awL:=@List.filter_append
def ayP:=@List.eraseIdx_sublist
def ax2:=@List.flatMap_nil
def ax3:=@List.range_succ
def ayQ:=@Bool.and_self
def axz:=@List.length_filter_le
def azj:=@List.pairwise_append
def ayR:=@Int.fdiv_eq_ediv_of_nonneg
def azk:=@List.getElem?_zipWith
def aw2:=@List.countP_append
def ayS:=@List.countP_singleton
def azl:=@List.countP_pos_iff
def azm:=@List.getElem?_eq_none_iff
def aw3:=@List.sum_cons
def ax4:=@List.flatMap_def
def azn:=@List.nodup_iff_pairwise_ne
def ayT:=@List.perm_append_comm_assoc
def ax5:=@Int.tmod_lt_of_pos
def ayU:=@Int.tmod_nonneg
def axA:=@List.countP_le_length
def ayV:=@List.flatMap_append
def ax6:=@List.filter_eq_self
def ayW:=@Go.IntKind.wrap_u32
def ax7:=@List.sum_append
def axB:=@Nat.add_one_mul
def azo:=@Nat.le_mul_of_pos_right
def azp:=@Nat.div_mul_le_self
def ayX:=@Nat.pow_le_pow_right
def ax8:=@Int.ofNat_eq_natCast
def ayY:=@List.contains_iff_mem
def ax9:=@List.mem_filterMap
def ayZ:=@List.range'_succ
def axC:=@Option.ne_none_iff_exists'
def azq:=@List.range_eq_range'
def azr:=@Nat.testBit_lt_two_pow
def ax_:=@Go.Proofs.Tryz.func3
def aya:=@Go.Proofs.Tryz.params3
def azs:=@Go.DataW.weights_mem_each
abbrev JS:=At (Int×At Nat)
abbrev bF:=Nat->Nat->Id->Prop
abbrev D6:=Do ((Int×Int)×Int)
abbrev D7:=At (Do PanicEntry)
abbrev fU:=Do (Int×Int×Int)
abbrev D8:=Array (Nat×If)
abbrev xj:=Do (Nat×If)
abbrev fH:=At (Nat×In)
abbrev nh:=At ((Do Int))
abbrev Mi:=At (Nat×Nat)
abbrev BD:=At (Int×Int)
abbrev bI:=Do (Nat×Nat)
abbrev bh:=Do (Int×Int)
abbrev jH:=Do PanicEntry
abbrev bP:=Do (Do Int)
abbrev xk:=Array MapEntry
abbrev iB:=At If
abbrev u_:=Do Deferred
abbrev gp:=Array If
abbrev eh:=At (In)
abbrev hX:=Array EQ
abbrev nA:=Do If
abbrev eQ:=At (Int)
abbrev dU:=Array Id
abbrev bX:=At Nat
abbrev bC:=Do Id
abbrev iC:=At Tmp
abbrev dm:=Array Edge
abbrev qZ:=Array Oper
abbrev q8:=At Int
abbrev bp:=Do Oper
abbrev br:=Do In
abbrev a_:=Do Nat
abbrev aX:=Do Int
def eC{α:Type}{p:Prop} [Decidable p]{x y:α}(h:p):cond (decide p) x y=x:=by
 rw[auU h];rfl
def dT{α:Type}{p:Prop} [Decidable p]{x y:α}(h:¬p):cond (decide p) x y=y:=by
 rw[auW h];rfl
def BE{α:Type}{p:Prop} [Decidable p]{x y:α}(h:p):cond (!(decide p)) x y=y:=by
 rw[auU h];rfl
def cnF{α:Type}{p:Prop} [Decidable p]{x y:α}(h:¬p):cond (!(decide p)) x y=x:=by
 rw[auW h];rfl
variable{c:Nat}{J d:GE}
structure Ext(w w':World):Prop where
 Hv:Below w.heap.size w w'
 drawn:w.drawn<=w'.drawn
def Ext.os{a b:GE}(h:Ext a b):b.os=a.os:=h.Hv.os
def Ext.tape{a b:GE}(h:Ext a b):b.tape=a.tape:=h.Hv.tape
def Ext.output{a b:GE}(h:Ext a b):b.output=a.output:=h.Hv.output
def Ext.refl(w:GE):Ext w w:=⟨Below.refl _ _,auq _⟩
def Ext.size{a b:GE}(h:Ext a b):a.heap.size<=b.heap.size:=Below.size h.Hv
def Ext.trans{a b c:GE}(h:Ext a b)(k:Ext b c):Ext a c:=⟨Below.trans h.Hv (Below.mono k.Hv h.size),avl h.drawn k.drawn⟩
def Ext.drew{a w:GE}(h:Ext a w):Ext a w.drew:=⟨Below.drew h.Hv,ayb h.drawn⟩
def Ext.drewN(h:Ext d J)(n:Nat):Ext d (J.drewN n):=⟨⟨h.os,h.tape,h.output,h.size,h.Hv.block⟩,avl h.drawn (Nat.le_add_right _ _)⟩
def Ext.alloc{a w:GE}(h:Ext a w)(o:Obj):Ext a (w.alloc o):=⟨Below.alloc h.Hv h.size o,h.drawn⟩
def Ext.bW(h:Ext d J):∀k,k<d.heap.size->J.heap[k]? =d.heap[k]? :=h.Hv.block
def Ext.cell{a b:GE}(h:Ext a b){p:Addr}{v:Id}(c:a.cell? p=some v):b.cell? p=some v:=
 (Below.cell h.Hv (awo a p c)).trans c
def Ext.block(h:Ext d J){o:Obj}(a:d.heap[c]? =some o):J.heap[c]? =some o:=
 (h.bW c (au9.1 a).1).trans a
def abm:Do (Nat×IntKind×aX):=[(0,(.u8,[0,1,28,2,29,14,24,3,30,22,20,15,25,17,4,8,31,27,13,23,21,19,16,7,26,12,18,6,11,5,10,9]))]
def gNr:bI:=[(40,29),(42,38),(42,41),(73,62)]
def akm:a_:=[]
variable{M:Type}{g:Id}{t:bC}
inductive AV where
 |un
 |v (x:Value)
 |sl (tight:Bool) (sz:Nat) (rows:List (List AV))
 |ow (k:Nat)
 |pt (k o:Nat)
 |pe (k i sz o:Nat)
 |sw (k l n sz:Nat)
 |fp (cs:List AV)
 |ag (cs:List AV)
 |tu (vs:List AV)
 |mp (k:Nat)
 |cl (fn:Fn) (fs cs:List AV)
instance:Inhabited AV:=⟨.un⟩
structure Env where
 bW:Nat->bX
 sv:Nat->Value
 cP:Nat->Nat
def LR(R:M->Id->Prop)(a:Do M)(b:bC):Prop:=b.length=a.length/\∀(j:Nat) c u,a[j]? =some c->b[j]? =some u->R c u
def AV.one:AV->In
 |.v x=>x.oneCell'
 |.sl .. |.ow _|.pt .. |.pe .. |.sw .. |.fp _|.mp _|.cl .. =>true
 |.un|.ag _|.tu _=>false
inductive VR(Rd:bF):Option Env->AV->Value->Prop
 |un {E x}:VR Rd E .un x
 |v {E x}:VR Rd E (.v x) x
 |sl {E tight sz rows a cap} (us:bC) (hw:∀r∈rows,r.length=sz) (h1c:∀c∈rows.flatten,c.one=true) (hl:us.length=rows.flatten.length)
  (hc:∀(j:Nat) c u,rows.flatten[j]? =some c->us[j]? =some u->VR Rd none c u) (h1:rows.length<=cap) (h2:cap<=maxLen) (h3:tight=true->cap=rows.length)
  (ha:us≠[]->∃b o,a=some ⟨b,o,none⟩/\∀(j:Nat) u,us[j]? =some u->Rd b (o+j) u):VR Rd E (.sl tight sz rows) (.slice a rows.length cap)
 |ow {e k}:VR Rd (some e) (.ow k) (e.sv k)
 |pt {e k o b} (h:e.bW k=some b):VR Rd (some e) (.pt k o) (.pointer (some ⟨b,o,none⟩))
 |pe {e k i sz o b} (h:e.bW k=some b):VR Rd (some e) (.pe k i sz o) (.pointer (some ⟨b,i*sz+o,none⟩))
 |sw {e k l n sz b o cap} (h:e.bW k=some b) (ho:0<n->o=l*sz) (h1:n<=cap) (h2:cap<=maxLen):VR Rd (some e) (.sw k l n sz) (.slice (some ⟨b,o,none⟩) n cap)
 |fp {E cs b o} (us:bC) (hl:us.length=cs.length) (hc:∀(j:Nat) c u,cs[j]? =some c->us[j]? =some u->VR Rd none c u)
  (ha:∀(j:Nat) u,us[j]? =some u->Rd b (o+j) u):VR Rd E (.fp cs) (.pointer (some ⟨b,o,none⟩))
 |ag {E cs} (us:bC) (hl:us.length=cs.length) (hc:∀(j:Nat) c u,cs[j]? =some c->us[j]? =some u->VR Rd E c u):VR Rd E (.ag cs) (.agg us.toArray)
 |tu {E cs} (us:bC) (hl:us.length=cs.length) (hc:∀(j:Nat) c u,cs[j]? =some c->us[j]? =some u->VR Rd E c u):VR Rd E (.tu cs) (.tuple us.toArray)
 |mp {e k b} (h:e.bW k=some b):VR Rd (some e) (.mp k) (.map (some b))
 |cl {E fn fs cs} (us xs:bC) (hl:us.length=fs.length) (hl2:xs.length=cs.length) (hc:∀(j:Nat) c u,fs[j]? =some c->us[j]? =some u->VR Rd E c u)
  (hc2:∀(j:Nat) c u,cs[j]? =some c->xs[j]? =some u->VR Rd E c u):VR Rd E (.cl fn fs cs) (.func fn us.toArray xs.toArray)
def VR.mono{Rd n:bF}(p:∀b o g,Rd b o g->n b o g){E:At Env}{c:AV}(h:VR Rd E c g):VR n E c g:=by
 induction h with
 |un=>exact .un
 |v=>exact .v
 |sl e w q a f i k r l d=>
  refine .sl e w q a d i k r λt=>?_;obtain⟨b,o,rfl,h⟩:=l t;exact⟨b,o,rfl,λj g m=>p _ _ _ (h j g m)⟩
 |ow=>exact .ow
 |pt h=>exact .pt h
 |pe h=>exact .pe h
 |sw h u i k=>exact .sw h u i k
 |fp e a f l d=>exact .fp e a d λj g m=>p _ _ _ (l j g m)
 |ag e a f d=>exact .ag e a d
 |tu e a f d=>exact .tu e a d
 |mp h=>exact .mp h
 |cl e y a s f z d x=>exact .cl e y a s d x
def VR.cV{Rd:bF}{E:At Env}{c:AV}(h:VR Rd none c g):VR Rd E c g:=by
 generalize d:(none:At Env)=s at h
 induction h with
 |un=>exact .un
 |v=>exact .v
 |sl f p m e k a b n l i=>exact .sl f p m e k a b n l
 |ow=>cases d
 |pt h=>cases d
 |pe h=>cases d
 |sw h=>cases d
 |fp f e k l i=>exact .fp f e k l
 |ag f e k i=>exact .ag f e λj c g a b=>i j c g a b d
 |tu f e k i=>exact .tu f e λj c g a b=>i j c g a b d
 |mp h=>cases d
 |cl f r e o k t i q=>exact .cl f r e o (λj c g a b=>i j c g a b d) (λj c g a b=>q j c g a b d)
mutual
def AV.gu(k:Nat):AV->In
 |.ow j=>j==k
 |.pt j _=>j==k
 |.pe j _ _ _=>j==k
 |.sw j _ _ _=>j==k
 |.mp j=>j==k
 |.ag a=>AV.mq k a
 |.tu a=>AV.mq k a
 |.cl _ b a=>AV.mq k b||AV.mq k a
 |_=>false
def AV.mq(k:Nat):Do AV->In
 |[]=>false
 |c::a=>AV.gu k c||AV.mq k a
end
def e9{k:Nat}:∀{a:Do AV},AV.mq k a=false->∀(j:Nat) c,a[j]? =some c->c.gu k=false
 |[],_,j,c,h=>by simp at h
 |x::a,b,j,c,h=>by
  simp only[AV.mq,awp]at b;cases j with
  |zero=>simp at h;exact h▸b.1
  |succ j=>exact e9 b.2 j c (by simpa using h)
def VR.env{Rd:bF}{E:At Env}{c:AV}(h:VR Rd E c g){e e':Env}(m:E=some e)(k:Nat)(f:c.gu k=false)
 (u:∀j,j≠k->e'.bW j=e.bW j) (D:∀j,j≠k->e'.sv j=e.sv j):VR Rd (some e') c g:=by
 induction h with
 |un=>exact .un
 |v=>exact .v
 |sl r F z q t a d A w s=>exact .sl r F z q t a d A w
 | @ow e0 j=>
  cases m;have p:j≠k:=by simpa[AV.gu]using f
  rw[<-D j p];exact .ow
 | @pt e0 j o b h=>
  cases m;have p:j≠k:=by simpa[AV.gu]using f
  exact .pt (by rw[u j p];exact h)
 | @pe e0 j i H o b h=>
  cases m;have p:j≠k:=by simpa[AV.gu]using f
  exact .pe (by rw[u j p];exact h)
 | @sw e0 j l n H b o J h C a d=>
  cases m;have p:j≠k:=by simpa[AV.gu]using f
  exact .sw (by rw[u j p];exact h) C a d
 |fp r q t w s=>exact .fp r q t w
 | @ag x y r q t s=>exact .ag r q λj c g a d=>s j c g a d m (e9 (by simpa[AV.gu]using f) j c a)
 | @tu x y r q t s=>exact .tu r q λj c g a d=>s j c g a d m (e9 (by simpa[AV.gu]using f) j c a)
 | @mp e0 j b h=>
  cases m;have p:j≠k:=by simpa[AV.gu]using f
  exact .mp (by rw[u j p];exact h)
 | @cl x K L y r I q B t M s G=>
  simp only[AV.gu,awp]at f;exact .cl r I q B (λj c g a d=>s j c g a d m (e9 f.1 j c a)) (λj c g a d=>G j c g a d m (e9 f.2 j c a))
def VR.iD{Rd:bF}{E:At Env}{c:AV}(h:VR Rd E c g){e e':Env}(f:E=some e)(r:∀j,e'.bW j=e.bW j)(y:∀j,e'.sv j=e.sv j):VR Rd (some e') c g:=by
 induction h with
 |un=>exact .un
 |v=>exact .v
 |sl m z t k q a d u s p=>exact .sl m z t k q a d u s
 | @ow e0 j=>cases f;rw[<-y j];exact .ow
 | @pt e0 j o b h=>cases f;exact .pt (by rw[r j];exact h)
 | @pe e0 j i B o b h=>cases f;exact .pe (by rw[r j];exact h)
 | @sw e0 j l n B b o D h x a d=>cases f;exact .sw (by rw[r j];exact h) x a d
 |fp m k q s p=>exact .fp m k q s
 |ag m k q p=>exact .ag m k λj c g a d=>p j c g a d f
 |tu m k q p=>exact .tu m k λj c g a d=>p j c g a d f
 | @mp e0 j b h=>cases f;exact .mp (by rw[r j];exact h)
 |cl m C k w q F p A=>exact .cl m C k w (λj c g a d=>p j c g a d f) (λj c g a d=>A j c g a d f)
def VR.jI{Rd:bF}{E:At Env}{c:AV}(h:VR Rd E c g)(a:c.one=true)(b:∀e k,E=some e->c=.ow k->(e.sv k).oneCell'=true):g.oneCell'=true:=by
 cases h with
 |un=>simp[AV.one]at a
 |v=>simpa[AV.one]using a
 |sl=>rfl
 |ow=>exact b _ _ rfl rfl
 |pt=>rfl
 |pe=>rfl
 |sw=>rfl
 |fp=>rfl
 |ag=>simp[AV.one]at a
 |tu=>simp[AV.one]at a
 |_=>rfl
def LR.get{R:M->Id->Prop}{a:Do M}(h:LR R a t){j:Nat}{c:M}(b:a[j]? =some c):∃u,t[j]? =some u/\R c u:=by
 have d:j<t.length:=by rw[h.1];exact(aus.1 b).1
 exact⟨t[j],auy d,h.2 j c _ b (auy d)⟩
def LR.imp{R a:M->Id->Prop}{b:Do M}(h:LR R b t)(f:∀c u,R c u->a c u):LR a b t:=⟨h.1,λj c u d e=>f _ _ (h.2 j c u d e)⟩
def LR.nil{R:M->Id->Prop}:LR R [] []:=⟨rfl,d5⟩
def LR.cons{R:M->Id->Prop}{c:M}{d:Do M}(h:R c g)(e:LR R d t):LR R (c::d) (g::t):=
 ⟨by simp[e.1],λj f i a b=>by
  cases j with
  |zero=>simp at a b;subst a;subst b;exact h
  |succ j=>exact e.2 j f i (by simpa using a) (by simpa using b)⟩
def LR.append{R:M->Id->Prop}{d ds:Do M}{f xs:bC}(h:LR R d f)(k:LR R ds xs):LR R (d++ds) (f++xs):=by
 refine⟨by simp[h.1,k.1],λj c u a b=>?_⟩;by_cases e:j<d.length
 ·rw[au7 e]at a
  rw[au7 (by rw[h.1];exact e)]at b;exact h.2 j c u a b
 ·rw[avG bv]at a
  rw[avG (by rw[h.1];omega),h.1]at b;exact k.2 _ c u a b
def LR.take{R:M->Id->Prop}{d:Do M}(h:LR R d t)(n:Nat):LR R (d.take n) (t.take n):=by
 refine⟨by simp[h.1],λj c u a b=>?_⟩;rw[au3]at a b;split at a
 ·rename_i e;simp[e]at b;exact h.2 j c u a b
 ·cases a
def LR.drop{R:M->Id->Prop}{a:Do M}(h:LR R a t)(n:Nat):LR R (a.drop n) (t.drop n):=by
 refine⟨by simp[h.1],λj c u b d=>?_⟩;rw[avK]at b d;exact h.2 _ c u b d
def LR.set{R:M->Id->Prop}{d:Do M}(h:LR R d t)(j:Nat){c:M}{u:Id}(k:R c u):LR R (d.set j c) (t.set j u):=by
 refine⟨by simp[h.1],λi g l a b=>?_⟩;rw[avs]at a b;rw[h.1]at b;by_cases e:j=i
 ·subst e
  by_cases f:j<d.length
  ·simp[f]at a b;subst a;subst b;exact k
  ·simp[f]at a
 ·simp[e]at a b;exact h.2 i g l a b
def VR.e5{Rd:bF}{E:At Env}{cs:Do AV}(h:VR Rd E (.ag cs) g):∃a,g=.agg a.toArray/\LR (VR Rd E) cs a:=by
 cases h with
 |ag a c b=>exact⟨a,rfl,c,b⟩
def VR.D9{Rd:bF}{E:At Env}{cs:Do AV}(h:VR Rd E (.tu cs) g):∃a,g=.tuple a.toArray/\LR (VR Rd E) cs a:=by
 cases h with
 |tu a c b=>exact⟨a,rfl,c,b⟩
def VR.bL{Rd:bF}{E:At Env}{x u:Id}(h:VR Rd E (.v x) u):u=x:=by
 cases h;rfl
variable{v:Env}{O:Do (Do AV)}{K:Do (Nat×AV)}{X y:Nat}{m:EQ}{h:bF}{I:bX}
inductive Ob where
 |box (t:TypeId) (cs:List AV)
 |arr (t:TypeId) (sz:Nat) (rows:List (List AV)) (wr:Bool)
 |mp (d:TypeDesc) (es:List (Value×AV))
 |nr (t:TypeId) (cs:List AV)
abbrev Hp:=Do (Nat×At Ob)
def aZ:Hp->Nat->At Ob
 |[],_=>none
 |(j,o)::h,k=>if k=j then o else aZ h k
def bD:Do (Nat×AV)->Nat->AV
 |[],_=>.un
 |(j,c)::t,i=>if i=j then c else bD t i
structure St where
 n:Nat
 t:List (Nat×AV)
 h:Hp
structure Bs where
 w:World
 own:Nat->Prop
 bW:Nat->bX
 sv:Nat->Value
 df:u_
def Bs.hY(B:Bs)(b:Nat):Prop:=B.w.heap.size<=b\/B.own b
structure Bx(B:Bs)(w:World):Prop where
 os:w.os=B.w.os
 tape:w.tape=B.w.tape
 output:w.output=B.w.output
 size:B.w.heap.size<=w.heap.size
 block:∀b,¬B.hY b->w.heap[b]? =B.w.heap[b]?
 drawn:B.w.drawn<=w.drawn
def Bx.drew{B:Bs}(h:Bx B d):Bx B d.drew:=⟨h.os,h.tape,h.output,h.size,h.block,ayb h.drawn⟩
def Bx.step{B:Bs}(h:Bx B d)(c:J.os=d.os)(e:J.tape=d.tape)(f:J.output=d.output)(g:d.heap.size<=J.heap.size)(i:∀b,¬B.hY b->b<d.heap.size->J.heap[b]? =d.heap[b]?)(j:d.drawn<=J.drawn:=by exact auq _):Bx B J:=
 ⟨c.trans h.os,e.trans h.tape,f.trans h.output,avl h.size g,λb a=>(i b a (by have:=h.size;unfold Bs.hY at a;omega)).trans (h.block b a),avl h.drawn j⟩
def Bx.alloc{B:Bs}(h:Bx B d)(o:Obj):Bx B (d.alloc o):=h.step rfl rfl rfl d5 λb _ a=>Below.heap_alloc _ _ _ a
def Bx.setCell{B:Bs}{w:GE}(h:Bx B w){p:Addr}(c:B.hY p.block)(u:Id):Bx B (w.setCell p u):=
 h.step rfl rfl rfl (by simp[World.setCell]) λb a _=>Below.heap_setCell _ _ _ _ (λe=>a (by rw[e];exact c))
def Bx.later{B:Bs}(h:Bx B d)(a:Ext d J):Bx B J:=h.step a.os a.tape a.output a.size (λb _ c=>a.bW b c) a.drawn
def Bx.hY{B:Bs}(h:Bx B d)(a:d.heap.size<=c):B.hY c:=.inl (avl h.size a)
def YQ:Do (Nat×IntKind×aX)->Nat->At (IntKind×aX)
 |[],_=>none
 |(g,p)::l,k=>cond (Nat.beq k g) (some p) (YQ l k)
def GT(b o:Nat)(u:Id):Prop:=∃k l x,YQ abm b=some (k,l)/\l[o]? =some x/\u=.int k x
def Good(Rd:bF)(B:Bs):Prop:=(∀b o u,Rd b o u->B.w.cell? ⟨b,o,none⟩=some u/\¬B.hY b)/\∀b o u,GT b o u->Rd b o u
def bN(c:Bs)(a:bF)(e:Env)(h:Hp)(w:GE)(b o:Nat)(u:Id):Prop:=
 w.cell? ⟨b,o,none⟩=some u/\(¬c.hY b->a b o u)/\∀k ob,aZ h k=some ob->e.bW k=some b->o<e.cP k
def k4(d:TypeDesc)(v:Id):Prop:=match d with
 |.tuple _=>∃a b:Int,v=.agg #[.int .i64 a,.int .i64 b]
 |d=>MapKept.IsKey d v
structure Hg{α:Type}(R:α->Value->Prop)(d:TypeDesc)(es:List (Value×α))(arr:xk)(clock:Nat):Prop where
 len:arr.size=es.length
 key:∀(j:Nat) x m,es[j]? =some x->arr[j]? =some m->m.key=x.1/\R x.2 m.val
 isk:∀m∈arr.toList,k4 d m.key
 ky:MapKept.Stamped arr clock
 Rk:∀(j:Nat) m,arr[j]? =some m->m.born=j
 clk:clock=arr.size
def Hg.imp{R b:M->Id->Prop}{d:TypeDesc}{f:Do (Id×M)}{e:xk}(h:Hg R d f e c)(k:∀a u,R a u->b a u):Hg b d f e c:=
 ⟨h.len,λj x m i g=>⟨(h.key j x m i g).1,k _ _ (h.key j x m i g).2⟩,h.isk,h.ky,h.Rk,h.clk⟩
abbrev MR(Rd:bF)(d:TypeDesc)(c:Do (Id×AV))(a:xk)(b:Nat):Prop:=Hg (VR Rd none) d c a b
def MR.mono{Rd a:bF}(g:∀b o u,Rd b o u->a b o u){d:TypeDesc}{f:Do (Id×AV)}{c:xk}{e:Nat}(h:MR Rd d f c e):MR a d f c e:=Hg.imp h λ_ _ k=>k.mono g
def D_:EQ:=1152921504606846975
def alg(w:GE)(b:Nat)(f:bC):Prop:=∃(d c e:Nat) (a:Int) (seen:Array Nat),f=[.map (some d),.int .i64 (c:Int),.int .i64 (e:Int),.int .i64 a]/\w.heap[b]? =some (.mapIter (some d) c seen c)/\
 (∀j,seen.contains j=e.testBit j)/\(0<=a->seen.back?=some a.toNat)
def q9(w:GE)(b:Nat)(t:EQ)(a:bC):Prop:=(t≠D_/\w.heap[b]? =some (.cells a.toArray t (0,0)))\/(t=D_/\alg w b a)
def q9.ext(h:q9 d c m t)(b:∀o,d.heap[c]? =some o->J.heap[c]? =some o):q9 J c m t:=by
 rcases h with⟨a,h⟩|⟨a,e,k,j,f,seen,g,h,i⟩
 ·exact .inl ⟨a,b _ h⟩
 ·exact .inr ⟨a,e,k,j,f,seen,g,b _ h,i⟩
def q9.lt(h:q9 d c m t):c<d.heap.size:=by
 rcases h with⟨_,h⟩|⟨_,a,f,e,b,seen,_,h,_⟩
 ·exact(au9.1 h).1
 ·exact(au9.1 h).1
def q9.same(h:q9 d c m t)(b:J.heap[c]? =d.heap[c]?):q9 J c m t:=h.ext λo a=>by rw[b];exact a
def q9.cells(h:q9 d c m t)(b:m≠D_):d.heap[c]? =some (.cells t.toArray m (0,0)):=by
 rcases h with⟨_,h⟩|⟨a,_⟩
 ·exact h
 ·exact absurd a b
def OR(Rd:bF)(e:Env)(w:GE)(k:Nat):Ob->Prop
 |.box t h=>e.cP k=0/\∃b n,e.bW k=some b/\q9 w b t n/\LR (VR Rd (some e)) h n
 |.arr t m g wr=>(∀r∈g,r.length=m)/\(∀c∈g.flatten,c.one=true)/\(wr=true->e.cP k=0)/\
  ((g=[]/\e.bW k=none/\∃a,e.sv k=.slice a 0 0)\/
   ∃b f i,e.bW k=some b/\e.sv k=.slice (some ⟨b,0,none⟩) g.length f/\g.length<=f/\f<=maxLen/\w.heap[b]? =some (.cells i t (0,0))/\
    i.size=f*m/\LR (VR Rd none) g.flatten (i.toList.take g.flatten.length)/\e.cP k<=g.flatten.length)
 |.mp d o=>e.cP k=0/\∃b j l,e.bW k=some b/\w.heap[b]? =some (.map j l)/\MR Rd d o j l
 |.nr t h=>e.cP k=0/\((h=[]/\e.bW k=none/\∃a,e.sv k=.slice a 0 0)\/
  ∃b f i,e.bW k=some b/\e.sv k=.slice (some ⟨b,0,none⟩) h.length f/\h.length<=f/\f<=maxLen/\w.heap[b]? =some (.cells i t (0,0))/\
   i.size=f/\LR (VR Rd (some e)) h (i.toList.take h.length))
structure SR(w0:Bs)(Rd0:bF)(e:Env)(h:Hp)(w:World):Prop where
 ext:Bx w0 w
 kg:Good Rd0 w0
 ob:∀k ob,aZ h k=some ob->OR (bN w0 Rd0 e h w) e w k ob
 base:∀k ob b,aZ h k=some ob->e.bW k=some b->w0.hY b/\b<w.heap.size
 inj:∀k k' ob ob' b,aZ h k=some ob->aZ h k'=some ob'->e.bW k=some b->e.bW k'=some b->k=k'
 rL:∀k,4294967296<=k->e.bW k=w0.bW k/\e.sv k=w0.sv k
def SR.CM{i:Bs}{a:Hp}(b:SR i h v a d)(m:GT c y g):bN i h v a d c y g:=by
 have e:=b.kg.2 _ _ _ m;obtain⟨j,f⟩:=b.kg.1 c y g e;refine⟨?_,λ_=>e,λk ob n l=>absurd (b.base k ob c n l).1 f⟩;rw[<-j];unfold World.cell?;rw[b.ext.block c f]
def TR(Rd:bF)(e:Env)(t:Do (Nat×AV))(a:dU):Prop:=∀i,VR Rd (some e) (bD t i) (a.getD i undef)
def er{sz:Nat}(h:∀r∈O,r.length=sz):O.flatten.length=O.length*sz:=by
 induction O with
 |nil=>simp
 |cons r O b=>
  rw[au4,auE,h r d5,b (λx a=>h x (by simp[a])),auP,au6];omega
def OR.mono{Rd y:bF}(j:∀b o u,Rd b o u->y b o u){e:Env}{w:GE}{k:Nat}{ob:Ob}(h:OR Rd e w k ob):OR y e w k ob:=by
 cases ob with
 |box t B=>
  obtain⟨c,b,C,f,g,a⟩:=h;exact⟨c,b,C,f,g,a.imp λ_ _ i=>i.mono j⟩
 |arr t F E wr=>
  obtain⟨c,f,g,a⟩:=h;refine⟨c,f,g,?_⟩;rcases a with a|⟨b,v,x,l,m,n,p,q,r,s,z⟩
  ·exact .inl a
  ·exact .inr ⟨b,v,x,l,m,n,p,q,r,s.imp λ_ _ i=>i.mono j,z⟩
 |mp d D=>
  obtain⟨c,b,arr,A,f,g,a⟩:=h;exact⟨c,b,arr,A,f,g,a.mono j⟩
 |nr t B=>
  obtain⟨c,a⟩:=h;refine⟨c,?_⟩;rcases a with a|⟨b,v,x,l,m,n,p,q,r,s⟩
  ·exact .inl a
  ·exact .inr ⟨b,v,x,l,m,n,p,q,r,s.imp λ_ _ i=>i.mono j⟩
def Ob.gu(k:Nat):Ob->In
 |.box _ a=>AV.mq k a
 |.arr .. =>false
 |.mp .. =>false
 |.nr _ a=>AV.mq k a
def OR.env{Rd:bF}{e e':Env}{w w':GE}{k j:Nat}{ob:Ob}(h:OR Rd e w j ob)(a:j≠k)(x:ob.gu k=false\/(e'.bW k=e.bW k/\e'.sv k=e.sv k))
 (g:∀i,i≠k->e'.bW i=e.bW i) (n:∀i,i≠k->e'.sv i=e.sv i) (A:∀i,i≠k->e'.cP i=e.cP i)
 (C:∀b,e.bW j=some b->b<w.heap.size->w'.heap[b]? =w.heap[b]?):OR Rd e' w' j ob:=by
 cases ob with
 |box t L=>
  obtain⟨q,b,N,r,s,m⟩:=h;refine⟨by rw[A j a];exact q,b,N,by rw[g j a];exact r,?_,m.1,λi c u v B=>?_⟩
  ·exact s.same (C b r s.lt)
  ·rcases x with x|⟨H,I⟩
   ·exact(m.2 i c u v B).env rfl k (e9 (by simpa[Ob.gu]using x) i c v) g n
   ·exact(m.2 i c u v B).iD rfl (λj=>by by_cases f:j=k;·rw[f];exact H
                                        ·exact g j f) (λj=>by by_cases f:j=k;·rw[f];exact I
                                                              ·exact n j f)
 |arr t Q P wr=>
  obtain⟨q,r,s,m⟩:=h;refine⟨q,r,λM=>by rw[A j a];exact s M,?_⟩;rcases m with⟨l,o,p⟩|⟨b,F,G,l,o,p,D,y,E,z,J⟩
  ·exact .inl ⟨l,by rw[g j a];exact o,by rw[n j a];exact p⟩
  ·refine .inr ⟨b,F,G,by rw[g j a];exact l,by rw[n j a];exact o,p,D,?_,E,z,by rw[A j a];exact J⟩
   rw[C b l (au9.1 y).1];exact y
 |mp d O=>
  obtain⟨q,b,arr,K,r,s,m⟩:=h;exact⟨by rw[A j a];exact q,b,arr,K,by rw[g j a];exact r,by rw[C b r (au9.1 s).1];exact s,m⟩
 |nr t L=>
  obtain⟨q,m⟩:=h;refine⟨by rw[A j a];exact q,?_⟩;rcases m with⟨l,o,p⟩|⟨b,F,G,l,o,p,D,y,E,z⟩
  ·exact .inl ⟨l,by rw[g j a];exact o,by rw[n j a];exact p⟩
  ·refine .inr ⟨b,F,G,by rw[g j a];exact l,by rw[n j a];exact o,p,D,?_,E,⟨z.1,λi c u v B=>?_⟩⟩
   ·rw[C b l (au9.1 y).1];exact y
   ·rcases x with x|⟨H,I⟩
    ·exact(z.2 i c u v B).env rfl k (e9 (by simpa[Ob.gu]using x) i c v) g n
    ·exact(z.2 i c u v B).iD rfl (λj=>by by_cases f:j=k;·rw[f];exact H
                                         ·exact g j f) (λj=>by by_cases f:j=k;·rw[f];exact I
                                                               ·exact n j f)
def Env.cO(e:Env)(k:Nat)(b:bX)(s:Id)(l:Nat):Env:=
 ⟨λi=>if i=k then b else e.bW i,λi=>if i=k then s else e.sv i,λi=>if i=k then l else e.cP i⟩
def Env.bY:(v.cO c I g y).bW c=I:=by simp[Env.cO]
def Env.dK:(v.cO c I g y).sv c=g:=by simp[Env.cO]
def Env.b9:(v.cO c I g y).cP c=y:=by simp[Env.cO]
def Env.bG(h:X≠c):(v.cO c I g y).bW X=v.bW X:=by simp[Env.cO,h]
def Env.de(h:X≠c):(v.cO c I g y).sv X=v.sv X:=by simp[Env.cO,h]
def Env.kE(h:X≠c):(v.cO c I g y).cP X=v.cP X:=by simp[Env.cO,h]
def bf{h:Hp}{o:At Ob}:aZ ((c,o)::h) c=o:=by simp[aZ]
def bc{h:Hp}{o:At Ob}(a:y≠c):aZ ((c,o)::h) y=aZ h y:=by simp[aZ,a]
def oP(k:Nat)(h:Hp):In:=h.all λp=>match p.2 with|some ob=> !ob.gu k|none=>true
def YR(k:Nat)(t:Do (Nat×AV)):In:=t.all λp=> !p.2.gu k
def xl{k:Nat}:∀{h:Hp},oP k h=true->∀j ob,aZ h j=some ob->ob.gu k=false
 |[],_,j,ob,a=>by simp[aZ]at a
 |(i,o)::h,b,j,ob,a=>by
  simp only[oP,avx,aup]at b;by_cases c:j=i
  ·subst c
   rw[bf]at a;subst a;simpa using b.1
  ·rw[bc c]at a
   exact xl (by simpa[oP]using b.2) j ob a
def Mj{k:Nat}:∀{t:Do (Nat×AV)},YR k t=true->∀j,(bD t j).gu k=false
 |[],_,j=>by simp[bD,AV.gu]
 |(i,c)::t,a,j=>by
  simp only[YR,avx,aup]at a;by_cases b:j=i
  ·subst b;simp[bD];simpa using a.1
  ·simp only[bD,b,avf];exact Mj (by simpa[YR]using a.2) j
def SR.uV{p:Bs}{w w':GE}{x:bF}{h:Hp}(f:SR p x v h w)(k:Nat)(n:bX)(s:Id)(l:Nat)(t:At Ob)
 (S:Bx p w') (oP:(oP k h=true/\k<4294967296)\/(n=v.bW k/\s=v.sv k))
 (a0:w.heap.size<=w'.heap.size)
 (N:∀b,b<w.heap.size->(∀ob,aZ h k=some ob->v.bW k≠some b)->w'.heap[b]? =w.heap[b]?)
 (E:∀b,n=some b->t≠none->p.hY b/\b<w'.heap.size/\((∃ob,aZ h k=some ob/\v.bW k=some b)\/w.heap.size<=b))
 (U:∀b o u ob,aZ h k=some ob->v.bW k=some b->o<v.cP k->w.cell? ⟨b,o,none⟩=some u->w'.cell? ⟨b,o,none⟩=some u/\(t≠none->n=some b->o<l))
 (Z:∀(Rd:bF),(∀b o u,bN p x v h w b o u->Rd b o u)->(∀b o u,w'.cell? ⟨b,o,none⟩=some u->(∀ob,aZ h k=some ob->v.bW k=some b->t=none\/n≠some b)->b<w.heap.size->(∃ob,aZ h k=some ob/\v.bW k=some b)->Rd b o u)->∀J,t=some J->OR Rd (v.cO k n s l) w' k J):
 SR p x (v.cO k n s l) ((k,t)::h) w'/\∀b o u,bN p x v h w b o u->bN p x (v.cO k n s l) ((k,t)::h) w' b o u:=by
 have H:∀b o u,bN p x v h w b o u->bN p x (v.cO k n s l) ((k,t)::h) w' b o u:=by
  rintro b o u ⟨G,Q,K⟩;have L:b<w.heap.size:=awo w _ G;have M:w'.cell? ⟨b,o,none⟩=some u/\(t≠none->n=some b->o<l):=by
   by_cases A:∃ob,aZ h k=some ob/\v.bW k=some b
   ·obtain⟨ob,e,c⟩:=A
    exact U b o u ob e c (K k ob e c) G
   ·have W:∀ob,aZ h k=some ob->v.bW k≠some b:=λob e c=>A ⟨ob,e,c⟩
    refine⟨by rw[awM (w:=w) (N b L W)];exact G,λY V=>?_⟩;rcases(E b V Y).2.2 with C|C
    ·exact absurd C A
    ·omega
  refine⟨M.1,Q,λj ob a c=>?_⟩;by_cases d:j=k
  ·subst d
   rw[bf]at a;rw[Env.bY]at c;rw[Env.b9];exact M.2 (by rw[a];simp) c
  ·rw[bc d]at a
   rw[Env.bG d]at c;rw[Env.kE d];exact K j ob a c
 refine⟨⟨S,f.kg,λj ob a=>?_,λj ob b a c=>?_,λj P ob J b a z c y=>?_,λj a=>?_⟩,H⟩
 ·by_cases d:j=k
  ·subst d
   rw[bf]at a;refine Z _ H (λb o u R X L A=>?_) ob a;obtain⟨F,e,m⟩:=A;refine⟨R,λI=>?_,λi a1 g B=>?_⟩
   ·exact absurd (f.base _ _ _ e m).1 I
   ·by_cases D:i=j
    ·subst D
     rw[bf]at g;rw[Env.bY]at B;rcases X F e m with h|h
     ·rw[h]at g;cases g
     ·exact absurd B h
    ·rw[bc D]at g
     rw[Env.bG D]at B;exact absurd (f.inj _ _ _ _ _ g e B m) D
  ·rw[bc d]at a
   refine((f.ob j ob a).env (w':=w') d (oP.imp (λr=>xl r.1 j ob a) (λr=>⟨by rw[Env.bY];exact r.1,by rw[Env.dK];exact r.2⟩)) (λ_ g=>Env.bG g) (λ_ g=>Env.de g) (λ_ g=>Env.kE g) λb c I=>?_).mono H;exact N b I λF e m=>d (f.inj _ _ _ _ _ a e c m)
 ·by_cases d:j=k
  ·subst d
   rw[bf]at a;rw[Env.bY]at c;have:=E b c (by rw[a];simp);exact⟨this.1,this.2.1⟩
  ·rw[bc d]at a
   rw[Env.bG d]at c;have:=f.base j ob b a c;exact⟨this.1,bv⟩
 ·by_cases d:j=k
  ·by_cases q:P=k
   ·rw[d,q]
   ·subst d
    rw[bf]at a;rw[bc q]at z;rw[Env.bY]at c;rw[Env.bG q]at y;rcases(E b c (by rw[a];simp)).2.2 with⟨F,e,m⟩|C
    ·exact absurd (f.inj _ _ _ _ _ z e y m) q
    ·have:=(f.base _ _ _ z y).2;omega
  ·rw[bc d]at a
   rw[Env.bG d]at c;by_cases q:P=k
   ·subst q
    rw[bf]at z;rw[Env.bY]at y;rcases(E b y (by rw[z];simp)).2.2 with⟨F,e,m⟩|C
    ·exact f.inj _ _ _ _ _ a e c m
    ·have:=(f.base _ _ _ a c).2;omega
   ·rw[bc q]at z
    rw[Env.bG q]at y;exact f.inj _ _ _ _ _ a z c y
 ·have O:=f.rL j a
  by_cases d:j=k
  ·subst d
   rw[Env.bY,Env.dK];rcases oP with r|r
   ·omega
   ·rw[r.1,r.2];exact O
  ·rw[Env.bG d,Env.de d];exact O
def TR.mono{Rd a:bF}{e:Env}{t:Do (Nat×AV)}{c:dU}(h:TR Rd e t c)(d:∀b o u,Rd b o u->a b o u):TR a e t c:=λi=>(h i).mono d
def TR.env{Rd:bF}{e e':Env}{t:Do (Nat×AV)}{a:dU}(h:TR Rd e t a)(k:Nat)(c:YR k t=true)
 (b:∀j,j≠k->e'.bW j=e.bW j) (d:∀j,j≠k->e'.sv j=e.sv j):TR Rd e' t a:=λi=>(h i).env rfl k (Mj c i) b d
def TR.put{Rd:bF}{e:Env}{a:dU}(h:TR Rd e K a){d:Nat}{c:AV}{v:Id}(f:d<a.size)(g:VR Rd (some e) c v):
 TR Rd e ((d,c)::K) (a.setIfInBounds d v):=by
 intro i;by_cases b:i=d
 ·subst b
  simp[bD,f];exact g
 ·have:(a.setIfInBounds d v).getD i undef=a.getD i undef:=by
   simp only[avA,axD];rw[aun bv]
  rw[this];simp only[bD,b,avf];exact h i
variable{C:AV}{A:Do AV}
section
variable{w0:Bs}{w:GE}{Rd0:bF}{e:Env}{h:Hp}
def abn(w:GE)(o:Obj)(i:Nat)(a:i<w.heap.size):(w.alloc o).heap[i]? =w.heap[i]? :=by
 show(w.heap.push o)[i]? =_;rw[awy,aun bv]
def YS(w:GE)(o:Obj):(w.alloc o).heap[w.heap.size]? =some o:=by
 show(w.heap.push o)[w.heap.size]? =_;rw[awy,auo rfl]
def SR.ahF(f:SR w0 Rd0 e h w)(k:Nat)(a:EQ)(o:Obj)(j:q9 (w.alloc o) w.heap.size a t)(m:LR (VR (bN w0 Rd0 e h w) (some e)) A t)(z:oP k h=true)(y:k<4294967296)(v:AV.mq k A=false):
 SR w0 Rd0 (e.cO k (some w.heap.size) (e.sv k) 0) ((k,some (.box a A))::h) (w.alloc o)/\
 ∀b n u,bN w0 Rd0 e h w b n u->bN w0 Rd0 (e.cO k (some w.heap.size) (e.sv k) 0) ((k,some (.box a A))::h) (w.alloc o) b n u:=by
 refine f.uV k (some w.heap.size) (e.sv k) 0 _ (f.ext.alloc _) (.inl ⟨z,y⟩) d5 (λb d _=>abn w _ b d) (λb d _=>?_) (λb o u ob j d C x=>?_) (λRd q _ D B=>?_)
 ·obtain rfl:=aut d
  exact⟨f.ext.hY (auq _),d5,.inr (auq _)⟩
 ·have s:=(f.base _ _ _ j d).2
  refine⟨by rw[awM (w:=w) (abn w _ b s)];exact x,λ_ r=>?_⟩;obtain rfl:=aut r;omega
 ·obtain rfl:=aut B
  refine⟨Env.b9,w.heap.size,t,Env.bY,j,m.1,λi c u l p=>?_⟩;exact((m.2 i c u l p).mono q).env rfl k (e9 v i c l) (λ_ g=>Env.bG g) (λ_ g=>Env.de g)
def SR.alh(i:SR w0 Rd0 e h w)(k:Nat)(a:EQ)(j:a≠D_)(f:LR (VR (bN w0 Rd0 e h w) (some e)) A t)(g:oP k h=true)(d:k<4294967296)(c:AV.mq k A=false):
 SR w0 Rd0 (e.cO k (some w.heap.size) (e.sv k) 0) ((k,some (.box a A))::h) (w.alloc (.cells t.toArray a))/\
 ∀b o u,bN w0 Rd0 e h w b o u->bN w0 Rd0 (e.cO k (some w.heap.size) (e.sv k) 0) ((k,some (.box a A))::h) (w.alloc (.cells t.toArray a)) b o u:=
 i.ahF k a _ (.inl ⟨j,YS w _⟩) f g d c
def SR.JT(i:SR w0 Rd0 e h w)(k:Nat)(t:EQ)(g a:Nat){rows:Do (Do AV)}{cur:dU}(G:∀r∈rows,r.length=g)(m:∀c∈rows.flatten,c.one=true)
 (A:LR (VR (bN w0 Rd0 e h w) none) rows.flatten (cur.toList.take rows.flatten.length)) (s:rows.length<=a) (B:a<=maxLen) (x:cur.size=a*g) (C:oP k h=true) (z:k<4294967296)
 (f:GE) (j:f.heap=w.heap.push (.cells cur t)) (y:Bx w0 f):
 SR w0 Rd0 (e.cO k (some w.heap.size) (.slice (some ⟨w.heap.size,0,none⟩) rows.length a) 0) ((k,some (.arr t g rows true))::h) f/\
 ∀b o u,bN w0 Rd0 e h w b o u->bN w0 Rd0 (e.cO k (some w.heap.size) (.slice (some ⟨w.heap.size,0,none⟩) rows.length a) 0) ((k,some (.arr t g rows true))::h) f b o u:=by
 have I:f.heap.size=w.heap.size+1:=by rw[j];simp
 have l:∀b,b<w.heap.size->f.heap[b]? =w.heap[b]? :=λb d=>by rw[j,awy,aun bv]
 refine i.uV k (some w.heap.size) (.slice (some ⟨w.heap.size,0,none⟩) rows.length a) 0 _ y (.inl ⟨C,z⟩) bv (λb d _=>l b d) (λb d _=>?_) (λb o u ob D d H v=>?_) (λRd n _ J E=>?_)
 ·obtain rfl:=aut d
  exact⟨i.ext.hY (auq _),bv,.inr (auq _)⟩
 ·have q:=(i.base _ _ _ D d).2
  refine⟨by rw[awM (w:=w) (l b q)];exact v,λ_ p=>?_⟩;obtain rfl:=aut p;omega
 ·obtain rfl:=aut E
  refine⟨G,m,λ_=>Env.b9,.inr ⟨w.heap.size,a,cur,Env.bY,Env.dK,s,B,?_,x,A.imp λ_ _ F=>F.mono n,?_⟩⟩
  ·rw[j,awy,auo rfl]
  ·rw[Env.b9];exact auS _
def SR.Ea(d:SR w0 Rd0 e h w)(k:Nat)(t:EQ)(f:Nat)(a:At Addr)(l:oP k h=true)(j:k<4294967296):
 SR w0 Rd0 (e.cO k none (.slice a 0 0) 0) ((k,some (.arr t f [] true))::h) w/\
 ∀b o u,bN w0 Rd0 e h w b o u->bN w0 Rd0 (e.cO k none (.slice a 0 0) 0) ((k,some (.arr t f [] true))::h) w b o u:=by
 refine d.uV k none (.slice a 0 0) 0 _ d.ext (.inl ⟨l,j⟩) (auq _) (λb c _=>rfl) (λb c _=>by cases c) (λb o u ob q c p i=>⟨i,λ_ g=>by cases g⟩) (λRd n _ r m=>?_);obtain rfl:=aut m;exact⟨d5,d5,λ_=>Env.b9,.inl ⟨rfl,Env.bY,a,Env.dK⟩⟩
def SR.oQ(k:SR w0 Rd0 e h w)(B:m≠D_)(f:aZ h c=some (.box m A))(b:e.bW c=some y)(o:Nat)
 (L:VR (bN w0 Rd0 e h w) (some e) C g):
 SR w0 Rd0 (e.cO c (some y) (e.sv c) 0) ((c,some (.box m (A.set o C)))::h) (w.setCell ⟨y,o,none⟩ g)/\
 ∀d r s,bN w0 Rd0 e h w d r s->bN w0 Rd0 (e.cO c (some y) (e.sv c) 0) ((c,some (.box m (A.set o C)))::h) (w.setCell ⟨y,o,none⟩ g) d r s:=by
 obtain⟨G,a,t,E,K,x⟩:=k.ob _ _ f;obtain rfl:a=y:=aut (E.symm.trans b);have p:=k.base _ _ _ f b;refine k.uV c (some a) (e.sv c) 0 _ (k.ext.setCell p.1 _) (.inr ⟨b.symm,rfl⟩) d5 (λd n I=>ayc w _ _ _ (λF=>I _ f (by rw[b];exact auA some F.symm))) (λd n _=>?_) (λd r s ob N n H M=>?_) (λRd u _ O J=>?_)
 ·obtain rfl:=aut n
  exact⟨p.1,by simp;exact p.2,.inl ⟨_,f,b⟩⟩
 ·rw[G]at H;omega
 ·obtain rfl:=aut J
  refine⟨Env.b9,a,t.set o g,Env.bY,.inl ⟨B,?_⟩,?_⟩
  ·have:=ayd w a o t.toArray m g (K.cells B)
   rw[this];simp
  ·have v:∀j,(e.cO c (some a) (e.sv c) 0).bW j=e.bW j:=λj=>by by_cases q:j=c<;>simp[Env.cO,q,b]
   have z:∀j,(e.cO c (some a) (e.sv c) 0).sv j=e.sv j:=λj=>by by_cases q:j=c<;>simp[Env.cO,q]
   have l:LR (VR Rd (some (e.cO c (some a) (e.sv c) 0))) A t:=⟨x.1,λi C g l D=>((x.2 i C g l D).mono u).iD rfl v z⟩;exact l.set o ((L.mono u).iD rfl v z)
def SR.rM(i:SR w0 Rd0 e h w){k rows':Do (Do AV)}(f:aZ h c=some (.arr m y k true))(a:e.bW c=some X)(o:Nat)
 (q:VR (bN w0 Rd0 e h w) none C g) (G:C.one=true) (A:rows'.length=k.length) (U:∀r∈rows',r.length=y) (z:rows'.flatten=k.flatten.set o C) (P:o<k.flatten.length):
 SR w0 Rd0 (e.cO c (some X) (e.sv c) 0) ((c,some (.arr m y rows' true))::h) (w.setCell ⟨X,o,none⟩ g)/\
 ∀b s t,bN w0 Rd0 e h w b s t->bN w0 Rd0 (e.cO c (some X) (e.sv c) 0) ((c,some (.arr m y rows' true))::h) (w.setCell ⟨X,o,none⟩ g) b s t:=by
 obtain⟨Y,D,p,R⟩:=i.ob _ _ f;have p:=p rfl;have n:=i.base _ _ _ f a;rcases R with⟨_,F,_⟩|⟨d,B,u,E,S,H,N,J,I,L,W⟩
 ·rw[F]at a;cases a
 obtain rfl:d=X:=aut (E.symm.trans a);refine i.uV c (some d) (e.sv c) 0 _ (i.ext.setCell n.1 _) (.inr ⟨a.symm,rfl⟩) d5 (λb l O=>ayc w _ _ _ (λK=>O _ f (by rw[a];exact auA some K.symm))) (λb l _=>?_) (λb s t ob P l M V=>?_) (λRd v _ Z Q=>?_)
 ·obtain rfl:=aut l
  exact⟨n.1,by simp;exact n.2,.inl ⟨_,f,a⟩⟩
 ·rw[p]at M;omega
 ·obtain rfl:=aut Q
  refine⟨U,?_,λ_=>Env.b9,.inr ⟨d,B,u.setIfInBounds o g,Env.bY,?_,by rw[A];exact H,N,ayd w d o u m g J,by simpa using I,?_,?_⟩⟩
  ·intro x j
   rw[z]at j;rcases aw4 j with j|rfl
   ·exact D x j
   ·exact G
  ·rw[Env.dK,A];exact S
  ·rw[z,awN,avM,axE]
   exact(L.imp λ_ _ q=>q.mono v).set o (q.mono v)
  ·rw[Env.b9];exact auS _
def SR.Rp(l:SR w0 Rd0 e h w){wr:In}(p:aZ h c=some (.arr m y O wr)):
 ∃f,SR w0 Rd0 f ((c,some (.arr m y O false))::h) w/\(∀b o u,bN w0 Rd0 e h w b o u->bN w0 Rd0 f ((c,some (.arr m y O false))::h) w b o u)/\
  (∀j,f.bW j=e.bW j)/\(∀j,f.sv j=e.sv j)/\VR (bN w0 Rd0 f ((c,some (.arr m y O false))::h) w) none (.sl false y O) (e.sv c):=by
 obtain⟨Q,J,a1,G⟩:=l.ob _ _ p;have v:∀j,(e.cO c (e.bW c) (e.sv c) O.flatten.length).bW j=e.bW j:=λj=>by by_cases k:j=c<;>simp[Env.cO,k]
 have H:∀j,(e.cO c (e.bW c) (e.sv c) O.flatten.length).sv j=e.sv j:=λj=>by by_cases k:j=c<;>simp[Env.cO,k]
 have Y:e.cP c<=O.flatten.length\/e.bW c=none:=by
  rcases G with⟨_,n,_⟩|⟨q,z,r,s,_,_,_,_,_,_,x⟩
  ·exact .inr n
  ·exact .inl x
 obtain⟨R,K⟩:=l.uV c (e.bW c) (e.sv c) O.flatten.length (some (.arr m y O false)) l.ext (.inr ⟨rfl,rfl⟩) (auq _) (λb g _=>rfl)
  (λb g _=>⟨(l.base _ _ _ p g).1,(l.base _ _ _ p g).2,.inl ⟨_,p,g⟩⟩)
  (λb o u ob ho g P V=>⟨V,λ_ _=>by
   rcases Y with x|n
   ·omega
   ·rw[n]at g;cases g⟩)
  (λRd S _ a2 a0=>by
   obtain rfl:=aut a0;refine⟨Q,J,(λW=>by cases W),?_⟩;rcases G with⟨F,n,a,A⟩|⟨q,z,r,s,I,B,E,C,M,t,x⟩
   ·exact .inl ⟨F,by rw[v];exact n,a,by rw[H];exact A⟩
   ·exact .inr ⟨q,z,r,by rw[v];exact s,by rw[H];exact I,B,E,C,M,t.imp λ_ _ hv=>hv.mono S,by rw[Env.b9];exact auq _⟩)
 have Z:(e.cO c (e.bW c) (e.sv c) O.flatten.length).cP c=O.flatten.length:=Env.b9;generalize e.cO c (e.bW c) (e.sv c) O.flatten.length=f at*;refine⟨f,R,K,v,H,?_⟩;rcases G with⟨F,n,a,A⟩|⟨q,z,r,s,I,B,E,C,M,t,x⟩
 ·subst F
  rw[A];exact VR.sl (rows:=[]) [] d5 d5 rfl d5 (auq _) (auS _) d5 d5
 ·rw[I]
  refine VR.sl (r.toList.take O.flatten.length) Q J t.1 (λj d u U hu=>(t.2 j d u U hu).mono K) B E d5 (λ_=>⟨q,0,rfl,λj u k=>?_⟩);have X:j<O.flatten.length:=by
   have:=(aus.1 k).1;rw[t.1]at this;exact this
  rw[au3,auo X]at k;refine⟨by rw[auZ,avu w q j r m (0,0) C];simpa using k,λP=>?_,λi ob N L=>?_⟩
  ·exact absurd (l.base _ _ _ p s).1 P
  ·rw[v]at L
   by_cases D:i=c
   ·subst D;rw[Z];omega
   ·rw[bc D]at N
    exact absurd (l.inj _ _ _ _ _ N p L s) D
def SR.later(l:SR w0 Rd0 e h w){m:GE}(i:Ext w m):SR w0 Rd0 e h m/\∀b o u,bN w0 Rd0 e h w b o u->bN w0 Rd0 e h m b o u:=by
 have B:∀b o u,bN w0 Rd0 e h w b o u->bN w0 Rd0 e h m b o u:=λb o u ⟨f,g,a⟩=>⟨i.cell f,g,a⟩;refine⟨⟨l.ext.later i,l.kg,λj ob A=>?_,λj ob b A F=>?_,l.inj,l.rL⟩,B⟩
 ·have k:=(l.ob j ob A).mono B
  cases ob with
  |box t E=>
   obtain⟨c,b,G,f,g,a⟩:=k;exact⟨c,b,G,f,g.ext (λo k=>i.block k),a⟩
  |arr t J I wr=>
   obtain⟨c,f,g,a⟩:=k;refine⟨c,f,g,?_⟩;rcases a with a|⟨b,y,z,n,p,q,r,s,v,x,C⟩
   ·exact .inl a
   ·exact .inr ⟨b,y,z,n,p,q,r,i.block s,v,x,C⟩
  |mp d H=>
   obtain⟨c,b,arr,D,f,g,a⟩:=k;exact⟨c,b,arr,D,f,i.block g,a⟩
  |nr t E=>
   obtain⟨c,a⟩:=k;refine⟨c,?_⟩;rcases a with a|⟨b,y,z,n,p,q,r,s,v,x⟩
   ·exact .inl a
   ·exact .inr ⟨b,y,z,n,p,q,r,i.block s,v,x⟩
 ·have:=l.base j ob b A F
  exact⟨this.1,awq this.2 i.size⟩
end
variable{G:In}
def AV.kill(k:Nat)(c:AV):AV:=if c.gu k then .un else c
def Ob.kill(k:Nat):Ob->Ob
 |.box t a=>.box t (a.map (AV.kill k))
 |.arr t f c wr=>.arr t f c wr
 |.mp d b=>.mp d b
 |.nr t a=>.nr t (a.map (AV.kill k))
def bw(k:Nat):Hp->Hp
 |[]=>[]
 |(j,o)::h=>(j,o.map (Ob.kill k))::bw k h
def c8(k:Nat):Do (Nat×AV)->Do (Nat×AV)
 |[]=>[]
 |(j,c)::t=>(j,c.kill k)::c8 k t
def kF(k:Nat)(c:AV):(c.kill k).gu k=false:=by
 unfold AV.kill;split
 ·rfl
 ·rename_i h;simpa using h
def wq(k:Nat):∀a:Do AV,AV.mq k (a.map (AV.kill k))=false
 |[]=>rfl
 |c::a=>by simp[AV.mq,kF,wq k a]
def ef(k:Nat):∀h:Hp,oP k (bw k h)=true
 |[]=>rfl
 |(j,o)::h=>by
  have a:=ef k h;unfold oP at a⊢;simp only[bw,avx,a,axF];cases o with
  |none=>rfl
  |some ob=>cases ob<;>simp[Ob.kill,Ob.gu,wq]
def dQ(k:Nat):∀t:Do (Nat×AV),YR k (c8 k t)=true
 |[]=>rfl
 |(j,c)::t=>by
  have a:=dQ k t;unfold YR at a⊢;simp only[c8,avx,a,axF,kF,avB]
def du(k:Nat):∀(h:Hp) (j:Nat),aZ (bw k h) j=(aZ h j).map (Ob.kill k)
 |[],_=>rfl
 |(i,o)::h,j=>by
  simp only[bw,aZ];split
  ·rfl
  ·exact du k h j
def ud(k:Nat):∀(t:Do (Nat×AV)) (j:Nat),bD (c8 k t) j=(bD t j).kill k
 |[],_=>by simp[c8,bD,AV.kill,AV.gu]
 |(i,c)::t,j=>by
  simp only[c8,bD];split
  ·rfl
  ·exact ud k t j
def VR.kill{Rd:bF}{E:At Env}{c:AV}{u:Id}(h:VR Rd E c u)(k:Nat):VR Rd E (c.kill k) u:=by
 unfold AV.kill;split
 ·exact .un
 ·exact h
def TR.kill{Rd:bF}{e:Env}{t:Do (Nat×AV)}{a:dU}(h:TR Rd e t a)(k:Nat):TR Rd e (c8 k t) a:=λi=>by
 rw[ud];exact(h i).kill k
def LR.kill{Rd:bF}{E:At Env}{a:Do AV}{d:bC}(h:LR (VR Rd E) a d)(k:Nat):LR (VR Rd E) (a.map (AV.kill k)) d:=by
 refine⟨by simpa using h.1,λj c u b g=>?_⟩;rw[auM]at b;obtain⟨f,i,rfl⟩:=auY.1 b;exact(h.2 j f u i g).kill k
section
variable{w0:Bs}{w:GE}{Rd0:bF}{e:Env}{h:Hp}
def SR.kill(i:SR w0 Rd0 e h w)(k:Nat):SR w0 Rd0 e (bw k h) w/\∀b o u,bN w0 Rd0 e h w b o u->bN w0 Rd0 e (bw k h) w b o u:=by
 have s:∀b o u,bN w0 Rd0 e h w b o u->bN w0 Rd0 e (bw k h) w b o u:=λb o u ⟨g,F,r⟩=>⟨g,F,λj ob c p=>by
  rw[du]at c;obtain⟨a,f,_⟩:=auY.1 c;exact r j a f p⟩
 have q:∀j ob,aZ (bw k h) j=some ob->∃a,aZ h j=some a/\ob=a.kill k:=λj ob c=>by
  rw[du]at c;obtain⟨a,f,H⟩:=auY.1 c;exact⟨a,f,H.symm⟩
 refine⟨⟨i.ext,i.kg,λj ob c=>?_,λj ob b c p=>?_,λj K ob L b c I p G=>?_,i.rL⟩,s⟩
 ·obtain⟨a,f,rfl⟩:=q j ob c
  have g:=(i.ob j a f).mono s;cases a with
  |box t C=>
   obtain⟨v,b,M,l,m,n⟩:=g;exact⟨v,b,M,l,m,n.kill k⟩
  |arr t R Q wr=>exact g
  |mp d N=>exact g
  |nr t C=>
   obtain⟨E,r⟩:=g;refine⟨E,?_⟩;rcases r with⟨l,m,n⟩|⟨b,B,D,l,m,n,x,y,z,A⟩
   ·exact .inl ⟨by rw[l];rfl,m,n⟩
   ·exact .inr ⟨b,B,D,l,by rw[auz];exact m,by rw[auz];exact n,x,y,z,by rw[auz];exact A.kill k⟩
 ·obtain⟨a,f,rfl⟩:=q j ob c
  exact i.base j a b f p
 ·obtain⟨a,f,rfl⟩:=q j ob c
  obtain⟨O,J,rfl⟩:=q K L I;exact i.inj _ _ _ _ _ f J p G
def VR.mr{Rd:bF}{E:At Env}(t:VR Rd E (.sl G c O) g):
 ∃a i f,g=.slice a O.length i/\(∀r∈O,r.length=c)/\(∀d∈O.flatten,d.one=true)/\LR (VR Rd none) O.flatten f/\O.length<=i/\i<=maxLen/\(G=true->i=O.length)/\
  (f≠[]->∃b o,a=some ⟨b,o,none⟩/\∀(j:Nat) u,f[j]? =some u->Rd b (o+j) u):=by
 cases t with
 |sl f v l s q k m n p=>exact⟨_,_,f,rfl,v,l,⟨s,q⟩,k,m,n,p⟩
def LR.one{Rd:bF}(h:LR (VR Rd none) A t)(b:∀c∈A,c.one=true):∀u∈t,u.oneCell'=true:=by
 intro u f;obtain⟨j,a,rfl⟩:=avc f;have d:j<A.length:=by rw[<-h.1];exact a
 exact(h.2 j A[j] t[j] (auy d) (auy a)).jI (b _ (awO _)) (λ_ _ h=>by cases h)
section
variable{P:Fd}
def q_(w:GE)(t k E:EQ)(i:TypeInfo)(j:P.underlying t=some (.slice E))(f:P.info? E=some i)(a c:At Addr)(n b d:Nat)(g:n<=b):
 (Builtin.append_ #[t,t] k #[.slice a n b,.slice c 0 d]).run P w=.ok (.slice a n b) w:=by
 cases a<;>cases c<;>simp[Builtin.append_,auR j,sizeOf,typeInfo,f,Builtin.lenOf,Builtin.firstCells,g,storeCells,loadCells,loadCellsFrom]
def Bx.setRow{B:Bs}{w:GE}(h:Bx B w){g:Nat}(d:B.hY g)(a:dU):Bx B (w.setRow g a):=
 h.step rfl rfl rfl (by simp[World.setRow]) λb c _=>aw5 w g b a (λe=>c (by rw[e];exact d))
def SR.append(I:SR w0 Rd0 e h w){k:Nat}(a9:k<4294967296){E:EQ}{q:Nat}{d ys:Do (Do AV)}{wr tt:In}(hk:aZ h k=some (.arr E q d wr))
 (t R:EQ) (i:TypeInfo) (z:Id) (Y:P.underlying t=some (.slice E)) (V:P.info? E=some i) (hz:i.zero=some z) (y:i.size=q) (aT:z.cells.size=q) (aJ:0<q)
 {aA:Id} (aN:VR (bN w0 Rd0 e h w) (some e) (.sl tt q ys) aA)
 (ak:d.length+ys.length<=maxLen) (aD:(d.length+ys.length)*i.bytes<=140737488355328):
 ∃v' w' nb l,(Builtin.append_ #[t,t] R #[e.sv k,aA]).run P w=.ok v' w'/\
  SR w0 Rd0 (e.cO k nb v' l) ((k,some (.arr E q (d++ys) wr))::bw k h) w'/\
  ∀b o u,bN w0 Rd0 e h w b o u->bN w0 Rd0 (e.cO k nb v' l) ((k,some (.arr E q (d++ys) wr))::bw k h) w' b o u:=by
 obtain⟨x,D⟩:=I.kill k;have H:aZ (bw k h) k=some (.arr E q d wr):=by rw[du,hk];rfl
 have ab:=ef k h;obtain⟨a2,U,us,rfl,ay,ax,Q,aU,aV,_,aQ⟩:=aN.mr;have aS:=er ay;obtain⟨ag,aj,ao,ae⟩:=x.ob _ _ H;have a5:=er ag;have aw:∀r∈d++ys,r.length=q:=λr f=>by
  rcases auC.1 f with f|f
  ·exact ag r f
  ·exact ay r f
 have av:∀c∈(d++ys).flatten,c.one=true:=λc K=>by
  rw[av2]at K;rcases auC.1 K with K|K
  ·exact aj c K
  ·exact ax c K
 unfold maxLen at ak;by_cases aF:ys.length=0
 ·
  have aR:ys=[]:=avq aF;subst aR;simp only[au_,avg]at*;obtain⟨a,n,m,af,ac⟩:∃a n m,e.sv k=.slice a n m/\n<=m:=by
   rcases ae with⟨_,_,a,J⟩|⟨g,m,cur,F,af,a1,_⟩
   ·exact⟨a,0,0,J,auq _⟩
   ·exact⟨_,_,_,af,a1⟩
  obtain⟨h1,h2⟩:=x.uV k (e.bW k) (e.sv k) (e.cP k) (some (.arr E q d wr)) I.ext (.inl ⟨ab,a9⟩) (auq _) (λ_ _ _=>rfl)
   (λb p _=>⟨(x.base _ _ _ H p).1,(x.base _ _ _ H p).2,.inl ⟨_,H,p⟩⟩) (λb o u ob ho p a3 L=>⟨L,λ_ _=>a3⟩)
   (λRd C _ az W=>by
    obtain rfl:=aut W;refine⟨ag,aj,λah=>by rw[Env.b9];exact ao ah,?_⟩;rcases ae with⟨f,al,a,J⟩|⟨g,m,cur,F,a6,a1,hm,M,a8,O,ap⟩
    ·exact .inl ⟨f,by rw[Env.bY];exact al,a,by rw[Env.dK];exact J⟩
    ·exact .inr ⟨g,m,cur,by rw[Env.bY];exact F,by rw[Env.dK];exact a6,a1,hm,M,a8,O.imp λ_ _ v=>v.mono C,by rw[Env.b9];exact ap⟩)
  refine⟨e.sv k,w,e.bW k,e.cP k,?_,h1,λb o u f=>h2 b o u (D b o u f)⟩;rw[af];exact q_ w t R E i Y V a a2 n m U ac
 ·
  have aa:0<ys.length:=bv
  have A:us.length=ys.length*q:=by rw[Q.1,aS]
  have aP:us≠[]:=by
   intro hh;rw[hh]at A;have:=awP aa aJ;simp at A;omega
  obtain⟨S,Z,rfl,aE⟩:=aQ aP;have a4:∀(j:Nat) u,us[j]? =some u->w.cell? ((⟨S,Z,none⟩:Addr).add j)=some u:=λj u N=>by
   rw[ava];exact(aE j u N).1
  have aO:=Q.one ax;have ai:∀(B:bC),LR (VR (bN w0 Rd0 e (bw k h) w) none) d.flatten B->∀(a0:Nat) (wv:GE),wv.heap=w.drew.heap->Bx w0 wv.drew->∀s,d.length+ys.length<=s->s<=maxLen->
   SR w0 Rd0 (e.cO k (some w.heap.size) (.slice (some ⟨w.heap.size,0,none⟩) (d.length+ys.length) s) 0) ((k,some (.arr E q (d++ys) wr))::bw k h)
    (w.drew.alloc (.cells (B.toArray++us.toArray++Builtin.zeroCells z.cells (s - (d.length+ys.length))) E))/\
   ∀b o u,bN w0 Rd0 e (bw k h) w b o u->bN w0 Rd0 (e.cO k (some w.heap.size) (.slice (some ⟨w.heap.size,0,none⟩) (d.length+ys.length) s) 0) ((k,some (.arr E q (d++ys) wr))::bw k h)
    (w.drew.alloc (.cells (B.toArray++us.toArray++Builtin.zeroCells z.cells (s - (d.length+ys.length))) E)) b o u:=by
   intro B X a0 wv _ _ s ac aG;have aM:(B.toArray++us.toArray++Builtin.zeroCells z.cells (s - (d.length+ys.length))).size=s*q:=by
    simp only[awz,awa,av3,aT,X.1,a5,A,<-au6];congr 1;omega
   have aq:∀b,b<w.heap.size->(w.drew.alloc (.cells (B.toArray++us.toArray++Builtin.zeroCells z.cells (s - (d.length+ys.length))) E)).heap[b]? =w.heap[b]? :=λb p=>abn w.drew _ b p;refine x.uV k (some w.heap.size) _ 0 _ ((I.ext.drew).alloc _) (.inl ⟨ab,a9⟩) d5 (λb p _=>aq b p) (λb p _=>?_) (λb o u ob ho p a3 L=>?_) (λRd C _ az W=>?_)
   ·obtain rfl:=aut p
    exact⟨I.ext.hY (auq _),d5,.inr (auq _)⟩
   ·have aC:=(x.base _ _ _ ho p).2
    refine⟨by rw[awM (w:=w) (aq b aC)];exact L,λ_ aB=>?_⟩;obtain rfl:=aut aB;omega
   ·obtain rfl:=aut W
    refine⟨aw,av,λ_=>Env.b9,.inr ⟨w.heap.size,s,_,Env.bY,?_,?_,aG,YS w.drew _,aM,?_,by rw[Env.b9];exact auS _⟩⟩
    ·rw[Env.dK,auE]
    ·rw[auE];exact ac
    ·rw[av2]
     have e1:(B.toArray++us.toArray++Builtin.zeroCells z.cells (s - (d.length+ys.length))).toList.take (d.flatten++ys.flatten).length=B++us:=by
      rw[awA,awA,auE,<-X.1,<-Q.1,<-auE];exact awr
     rw[e1];exact(X.imp λ_ _ v=>v.mono C).append (Q.imp λ_ _ v=>v.mono λb o u f=>C b o u (D b o u f))
  have an:∀a0,grownCap w (d.length+ys.length) a0 E<=maxLen:=λa0=>aye w _ a0 E (by unfold maxLen;exact ak);rcases ae with⟨f,al,a,J⟩|⟨g,m,cur,F,a6,a1,hm,M,a8,O,ap⟩
  ·subst f
   simp only[avg,auZ,avd]at*;have G:=ai [] LR.nil 0 w rfl I.ext.drew (grownCap w ys.length 0 E) (avN w _ 0 E) (an 0);cases a with
   |none=>
    refine⟨_,_,some w.heap.size,0,?_,G.1,λb o u f=>G.2 b o u (D b o u f)⟩;rw[J];have:=ayf (P:=P) w t R E i z Y V hz ⟨S,Z,none⟩ ys.length U us (by rw[A,y]) a4 aa bv bv;simpa using this
   |some a=>
    refine⟨_,_,some w.heap.size,0,?_,G.1,λb o u f=>G.2 b o u (D b o u f)⟩;rw[J];have:=awB (P:=P) w t R E i z Y V hz a 0 0 [] d5 d5 ⟨S,Z,none⟩ ys.length U us (by rw[A,y]) a4 bv bv (by rw[auZ,nextslicecap_zero aa];omega);simpa using this
  ·by_cases ad:d.length+ys.length<=m
   ·
    have am:d.length*i.size+us.length<=cur.size:=by rw[y,A,a8,<-au6];exact awC _ ad
    have f:=run_append_room (P:=P) w t R E i Y V g d.length m cur M ⟨S,Z,none⟩ ys.length U us (by rw[A,y]) a4 aO ad am;have a7:=x.base _ _ _ H F;have aL:cur.toList.take (d.length*i.size)=cur.toList.take d.flatten.length:=by rw[y,a5]
    have ar:(cur.toList.take d.flatten.length).length=d.flatten.length:=O.1;rw[aL]at f;refine⟨_,_,some g,e.cP k,by rw[a6];exact f,?_⟩;have au:=ayg w g cur ((cur.toList.take d.flatten.length++us++cur.toList.drop (d.length*i.size+us.length)).toArray) E (0,0) M;obtain⟨h1,h2⟩:=x.uV (w':=w.setRow g (cur.toList.take d.flatten.length++us++cur.toList.drop (d.length*i.size+us.length)).toArray) k (some g) (.slice (some ⟨g,0,none⟩) (d.length+ys.length) m) (e.cP k) (some (.arr E q (d++ys) wr))
     (I.ext.setRow a7.1 _) (.inl ⟨ab,a9⟩) d5 (λb p aH=>aw5 w g b _ (λhh=>aH _ H (by rw[F];exact auA some hh.symm)))
     (λb p _=>by
      obtain rfl:=aut p;exact⟨a7.1,by simp;exact a7.2,.inl ⟨_,H,F⟩⟩)
     (λb o u ob ho p a3 L=>by
      obtain rfl:g=b:=aut (F.symm.trans p);refine⟨?_,λ_ _=>a3⟩;have aI:o<d.flatten.length:=bv
      rw[avu w g o cur E (0,0) M]at L;rw[avu _ g o _ E (0,0) au];have:o<(cur.toList.take d.flatten.length).length:=bv
      simp only[avR];rw[auV,au7 this,au3,auo aI];simpa using L)
     (λRd C _ az W=>by
      obtain rfl:=aut W;refine⟨aw,av,λah=>by rw[Env.b9];exact ao ah,.inr ⟨g,m,_,Env.bY,by rw[Env.dK,auE],by rw[auE];exact ad,hm,au,?_,?_,?_⟩⟩
      ·simp only[awa,auE,awb,awD,ar]
       rw[y]at am⊢;rw[a5];omega
      ·have e1:(cur.toList.take d.flatten.length++us++cur.toList.drop (d.length*i.size+us.length)).toArray.toList.take (d++ys).flatten.length=cur.toList.take d.flatten.length++us:=by
        rw[av2,auE,<-Q.1];exact aw6 (by rw[auE,ar])
       rw[e1,av2];exact(O.imp λ_ _ v=>v.mono C).append (Q.imp λ_ _ v=>v.mono λb o u f=>C b o u (D b o u f))
      ·rw[Env.b9,av2,auE];omega)
    exact⟨h1,λb o u f=>h2 b o u (D b o u f)⟩
   ·have X:∀(j:Nat) u,(cur.toList.take d.flatten.length)[j]? =some u->w.cell? ((⟨g,0,none⟩:Addr).add j)=some u:=λj u N=>by
     rw[ava,auZ,avu w g j cur E (0,0) M];rw[au3]at N;split at N
     ·simpa using N
     ·cases N
    have G:=ai _ O m w rfl I.ext.drew (grownCap w (d.length+ys.length) m E) (avN w _ m E) (an m);refine⟨_,_,some w.heap.size,0,?_,G.1,λb o u f=>G.2 b o u (D b o u f)⟩;rw[a6];exact awB (P:=P) w t R E i z Y V hz ⟨g,0,none⟩ d.length m (cur.toList.take d.flatten.length) (by rw[O.1,a5,y]) X ⟨S,Z,none⟩ ys.length U us (by rw[A,y]) a4 bv bv (aw7 bv aD)
end
end
variable{D:Act}{H:Bs}{L:Hp}{B:If}{S:EQ}
structure Ga(w0:Bs)(Rd0:bF)(e:Env)(st:St)(a:Act)(w:World):Prop where
 n:a.tmps.size=st.n/\st.n<=1000000
 d:a.defers=w0.df
 sr:SR w0 Rd0 e st.h w
 tr:TR (bN w0 Rd0 e st.h w) e st.t a.tmps
def lS:Id->AV
 |.slice none 0 0=>.sl true 0 []
 |x=>.v x
def gA(g:Nat):AV:=match YQ abm g with
 |some (k,l)=>.fp (l.map λx=>.v (.int k x))
 |none=>.un
def St.ev(s:St):If->AV
 |.tmp i=>bD s.t i
 |.const v=>lS v
 |.global g=>gA g
 |.func f=>.v (.func (.func f) #[] #[])
def Eb{Rd:bF}{E:At Env}(x:Id):VR Rd E (lS x) x:=by
 unfold lS;split
 ·exact VR.sl (rows:=[]) [] d5 d5 rfl d5 (auq _) (auS _) (λ_=>rfl) d5
 ·exact .v
def Ga.ev{q:Bs}{p:bF}{e:Env}{st:St}{a:Act}{w:GE}(h:Ga q p e st a w)(x:If):VR (bN q p e st.h w) (some e) (st.ev x) (a.eval x):=by
 cases x with
 |tmp i=>exact h.tr i
 |const v=>exact Eb v
 |global g=>
  simp only[St.ev,gA];split
  ·rename_i k l r
   refine VR.fp (o:=0) (l.map λx=>Value.int k x) d5 (λj c u n b=>?_) λj u b=>?_
   ·rw[auM]at n b
    cases m:l[j]? with
    |none=>rw[m]at n;cases n
    |some x=>rw[m]at n b;cases n;cases b;exact .v
   ·rw[auM]at b
    cases m:l[j]? with
    |none=>rw[m]at b;cases b
    |some x=>
     rw[m]at b;cases b;rw[auZ];exact h.sr.CM ⟨k,l,x,r,m,rfl⟩
  ·exact .un
 |func f=>exact .v
def ahG:TypeDesc->In
 |.struct _|.array _ _=>true
 |_=>false
def Rq(P:Fd)(t:EQ):At (In×Nat):=
 match P.underlying t,P.info? t with
 |some d,some i=>some (ahG d,i.size)
 |_,_=>none
def Hh(P:Fd)(t:EQ):At (EQ×Nat×Nat×bC):=
 match P.underlying t with
 |some (.slice e)=>match P.info? e with
  |some i=>match i.zero with
   |some z=>if z.cells.size=i.size then some (e,i.size,i.bytes,z.cells.toList)else none
   |none=>none
  |none=>none
 |_=>none
def arA(P:Fd)(t:EQ):At (Nat×EQ×Nat):=
 match P.underlying t with
 |some (.array n e)=>match P.info? e with
  |some i=>some (n,e,i.size)
  |none=>none
 |_=>none
def fdA(P:Fd)(t:EQ)(f:Nat):At (Nat×In×Nat):=
 match P.underlying t with
 |some (.struct c)=>match c[f]? with
  |some a=>match Rq P a.type with
   |some (b,n)=>some (a.offset,b,n)
   |none=>none
  |none=>none
 |_=>none
def C8(st:St)(p:AV)(n:Nat)(b:Do AV):Prop:=
 match p with
 |.pt k o=>∃t a,aZ st.h k=some (.box t a)/\t≠D_/\o+n<=a.length/\b=(a.drop o).take n
 |.pe k i f o=>(∃t e wr r,aZ st.h k=some (.arr t f e wr)/\e[i]? =some r/\o+n<=r.length/\b=(r.drop o).take n)\/
  ∃t a c,aZ st.h k=some (.nr t a)/\a[i]? =some c/\f=1/\o=0/\n=1/\b=[c]
 |.fp a=>n<=a.length/\b=a.take n
 |_=>False
def RS(P:Fd)(o:Oper)(st:St)(c:AV):Prop:=
 ∀g f e a w,Ga g f e st a w->∃v,VR (bN g f e st.h w) (some e) c v/\∀b,Ext w b->(execOp a.eval o).run P b=.ok (.value v) b
section
variable{P:Fd}{st:St}{d:iC}{ty:EQ}{pos:String}{af:dm}{gd:fH}
def RS.move(x:If):RS P ⟨d,.move x,ty,pos,af,gd⟩ st (st.ev x):=λf b e a w h=>
 ⟨a.eval x,h.ev x,λc _=>by simp[execOp]⟩
def RS.assign(x:If):RS P ⟨d,.assign x,ty,pos,af,gd⟩ st (st.ev x):=λf b e a w h=>
 ⟨a.eval x,h.ev x,λc _=>by simp[execOp]⟩
def RS.pick(c x y:If)(t:In)(g:st.ev c=.v (.bool t)):RS P ⟨d,.pick c x y,ty,pos,af,gd⟩ st (if t then st.ev x else st.ev y):=λk j e a w h=>by
 have b:=h.ev c;rw[g]at b;have f:=b.bL;cases t
 ·exact⟨a.eval y,by simpa using h.ev y,λi _=>by simp[execOp,f,asBool]⟩
 ·exact⟨a.eval x,by simpa using h.ev x,λi _=>by simp[execOp,f,asBool]⟩
def LR.sub{R:AV->Id->Prop}(h:LR R A t)(o n:Nat)(a:o+n<=A.length):LR R ((A.drop o).take n) ((t.drop o).take n)/\((t.drop o).take n).length=n:=by
 refine⟨(h.drop o).take n,?_⟩;rw[au8,awb,h.1];omega
def Ec{e:Env}(a:Ga H h e st D J){n:Nat}(g:C8 st C n A){v:Id}(s:VR (bN H h e st.h J) (some e) C v):
 ∃b o w,v=.pointer (some ⟨b,o,none⟩)/\w.length=n/\LR (VR (bN H h e st.h J) (some e)) A w/\∀(j:Nat) u,w[j]? =some u->J.cell? ⟨b,o+j,none⟩=some u:=by
 cases C with
 |pt k o=>
  obtain⟨t,K,G,a4,O,rfl⟩:=g;cases s with
  |pt p=>
   obtain⟨_,q,w,E,a5,y⟩:=a.sr.ob _ _ G;obtain rfl:=aut (E.symm.trans p);have z:=y.sub o n O;refine⟨q,o,_,rfl,z.2,z.1,λj u f=>?_⟩;rw[avu J q (o+j) w.toArray t (0,0) (a5.cells a4)];rw[au3]at f;split at f
   ·rw[avK]at f;simpa using f
   ·cases f
 |pe k i m o=>
  rcases g with g|⟨t,K,c,G,g,rfl,rfl,rfl,rfl⟩
  case inr=>
   cases s with
   |pe p=>
    obtain⟨_,Q⟩:=a.sr.ob _ _ G;rcases Q with⟨_,M,_⟩|⟨q,V,L,E,a3,X,hm,N,Z,y⟩
    ·rw[M]at p;cases p
    obtain rfl:=aut (E.symm.trans p);obtain⟨u,U,a6⟩:=y.get g;have hi:i<K.length:=(aus.1 g).1;refine⟨q,i*1+0,[u],rfl,rfl,LR.cons a6 LR.nil,λj u' f=>?_⟩;cases j with
    |zero=>
     simp at f;subst f;rw[avu J q _ L t (0,0) N];rw[au3,auo hi]at U;simpa using U
    |succ j=>simp at f
  obtain⟨t,l,wr,r,G,I,O,rfl⟩:=g;cases s with
  |pe p=>
   obtain⟨B,a7,_,Q⟩:=a.sr.ob _ _ G;rcases Q with⟨_,M,_⟩|⟨q,V,L,E,a3,X,hm,N,Z,y,a8⟩
   ·rw[M]at p;cases p
   obtain rfl:=aut (E.symm.trans p);have a9:r.length=m:=B r (auI I);have fC:i<l.length:=(aus.1 I).1;have a0:(l.flatten.drop (i*m)).take m=r:=by
    have:∀(l:Do (Do AV)) (i:Nat),(∀r∈l,r.length=m)->l[i]? =some r->(l.flatten.drop (i*m)).take m=r:=by
     intro l
     induction l with
     |nil=>intro i _ F;simp at F
     |cons x l ih=>
      intro i B F;have R:x.length=m:=B x d5;cases i with
      |zero=>
       simp at F;subst F;simp only[awQ,ave,au4];exact aw6 R
      |succ i=>
       rw[au4,au6,aws,ayh,<-R,ay0];rw[R];exact ih i (λr I=>B r (by simp[I])) (by simpa using F)
    exact this l i B I
   have a2:((l.flatten.drop (i*m+o)).take n)=(r.drop o).take n:=by
    rw[<-a0,<-awc,List.drop_take,awE];congr 1;omega
   have a1:i*m+o+n<=l.flatten.length:=by
    rw[er B];have:(i+1)*m<=l.length*m:=awC _ fC;rw[au6]at this;omega
   have z:=y.sub (i*m+o) n a1;rw[a2]at z;refine⟨q,i*m+o,_,rfl,z.2,z.1.imp λ_ _ s=>s.cV,λj u f=>?_⟩;rw[avu J q _ L t (0,0) N];rw[au3]at f;split at f
   ·rw[avK,au3]at f
    split at f
    ·simpa using f
    ·cases f
   ·cases f
 |fp K=>
  obtain⟨O,rfl⟩:=g;cases s with
  |fp w S Y W=>
   have y:LR (VR (bN H h e st.h J) none) K w:=⟨S,Y⟩;refine⟨_,_,w.take n,rfl,by rw[au8,S];omega,(y.take n).imp λ_ _ s=>s.cV,λj u f=>?_⟩;rw[au3]at f;split at f
   ·exact(W j u f).1
   ·cases f
 |_=>exact g.elim
def mf{a:TypeDesc}(w:GE)(h:P.underlying m=some a):(isAgg m).run P w=.ok (ahG a) w:=by
 simp only[isAgg,auF,auR h,auG];cases a<;>simp[ahG]
def cL{i:TypeInfo}(w:GE)(h:P.info? m=some i):(sizeOf m).run P w=.ok i.size w:=by
 simp[sizeOf,typeInfo,h]
def ir(h:Rq P m=some (G,c)):∃a i,P.underlying m=some a/\P.info? m=some i/\G=ahG a/\c=i.size:=by
 unfold Rq at h;split at h
 ·rename_i a i b e
  simp only[aur,auK]at h;exact⟨a,i,b,e,h.1.symm,h.2.symm⟩
 ·cases h
def pN(l:Rq P m=some (G,c)){b o:Nat}{us:bC}{w:GE}(k:us.length=c)(f:∀(j:Nat) u,us[j]? =some u->w.cell? ⟨b,o+j,none⟩=some u):
 (G=true->(loadVar m ⟨b,o,none⟩).run P w=.ok (.agg us.toArray) w)/\(G=false->∀u,us=[u]->(loadVar m ⟨b,o,none⟩).run P w=.ok u w):=by
 obtain⟨p,i,e,g,rfl,rfl⟩:=ir l;refine⟨λa=>?_,λa u n=>?_⟩
 ·have:=run_loadCells_list (P:=P) w ⟨b,o,none⟩ us (λj u h=>by rw[ava];exact f j u h)
  rw[k]at this;simp only[loadVar,auF,mf w e,auG,a,au2,cL w g,this,auJ]
 ·subst n
  have:=f 0 u rfl;simp only[avO]at this;simp only[loadVar,auF,mf w e,auG,a,av4,avf];simp[load,Sem.run,this]
def RS.load(x:Rq P m=some (G,c))(q:C8 st (st.ev B) c A)(v:(G=true/\C=.ag A)\/(G=false/\A=[C])):
 RS P ⟨d,.load m B,ty,pos,af,gd⟩ st C:=λz y e a w h=>by
 obtain⟨b,o,i,p,t,k,r⟩:=Ec h q (h.ev B);have n:=λ(f:GE) (g:Ext w f)=>pN (P:=P) x (b:=b) (o:=o) (us:=i) (w:=f) t (λj u s=>g.cell (r j u s));rcases v with⟨l,rfl⟩|⟨l,rfl⟩
 ·refine⟨.agg i.toArray,.ag i k.1 k.2,λf g=>?_⟩
  have:=(n f g).1 l;simp[execOp,Instr.loadAt,Instr.sureAddr,p,this]
 ·obtain⟨u,rfl⟩:∃u,i=[u]:=by
   match i,k.1 with
   |[u],_=>exact⟨u,rfl⟩
  refine⟨u,k.2 0 C u rfl rfl,λf g=>?_⟩;have:=(n f g).2 l u rfl;simp[execOp,Instr.loadAt,Instr.sureAddr,p,this]
def gJ(p:AV)(off:Nat):At AV:=
 match p with
 |.pt k o=>some (.pt k (o+off))
 |.pe k i b o=>some (.pe k i b (o+off))
 |.fp a=>some (.fp (a.drop off))
 |_=>none
def HK{e:Env}{p q:AV}{off:Nat}(a:gJ p off=some q){v:Id}(r:VR (bN H h e L J) (some e) p v):
 ∃b o,v=.pointer (some ⟨b,o,none⟩)/\VR (bN H h e L J) (some e) q (.pointer (some ⟨b,o+off,none⟩)):=by
 cases r with
 |pt f=>simp only[gJ,aur]at a;subst a;exact⟨_,_,rfl,.pt f⟩
 |pe f=>
  simp only[gJ,aur]at a;subst a;refine⟨_,_,rfl,?_⟩;rw[aw8];exact .pe f
 |fp s n m l=>
  simp only[gJ,aur]at a;subst a;refine⟨_,_,rfl,.fp (s.drop off) (by simp[n]) (λj c u g i=>?_) (λj u k=>?_)⟩
  ·rw[avK]at g i;exact m _ c u g i
  ·rw[avK]at k
   rw[aw8];exact l _ u k
 |_=>simp[gJ]at a
def RS.fieldAddr(f:fdA P m c=some (y,G,X))(p:X≠0)(q:gJ (st.ev B) y=some C):
 RS P ⟨d,.fieldAddr m B c,ty,pos,af,gd⟩ st C:=λF u e a w h=>by
 obtain⟨b,o,r,s⟩:=HK q (h.ev B);refine⟨_,s,λt A=>?_⟩;unfold fdA at f;split at f
 ·rename_i x g
  split at f
  ·rename_i fl j
   split at f
   ·rename_i v D k
    simp only[aur,auK]at f;obtain⟨rfl,rfl,rfl⟩:=f;obtain⟨E,i,z,l,_,rfl⟩:=ir k;have n:(⟨b,o,none⟩:Addr).add fl.offset=⟨b,o+fl.offset,none⟩:=ava ..;simp[execOp,Instr.fieldAt,auR g,j,r,Instr.sureAddr,fieldPlace,cL t l,p,n]
   ·cases f
  ·cases f
 ·cases f
def cX(h:Hh P m=some (S,c,y,t)):∃i a,P.underlying m=some (.slice S)/\P.info? S=some i/\i.zero=some a/\a.cells.size=c/\i.size=c/\i.bytes=y/\a.cells.toList=t:=by
 unfold Hh at h;split at h
 ·rename_i j b
  split at h
  ·rename_i i e
   split at h
   ·rename_i a f
    split at h
    ·rename_i g
     simp only[aur,auK]at h;obtain⟨rfl,rfl,rfl,rfl⟩:=h;exact⟨i,a,b,e,f,g,rfl,rfl,rfl⟩
    ·cases h
   ·cases h
  ·cases h
 ·cases h
def ue(h:arA P m=some (c,S,y)):∃i,P.underlying m=some (.array c S)/\P.info? S=some i/\i.size=y:=by
 unfold arA at h;split at h
 ·rename_i f e a
  split at h
  ·rename_i i b
   simp only[aur,auK]at h;obtain⟨rfl,rfl,rfl⟩:=h;exact⟨i,a,b,rfl⟩
  ·cases h
 ·cases h
def RS.T6{x f:If}{k:IntKind}{i:Int}
 (N:Hh P m=some (S,c,y,t)) (q:st.ev x=.sl G c O) (Q:st.ev f=.v (.int k i)) (B:0<=i) (p:O[i.toNat]? =some A) (a1:0<c):
 RS P ⟨d,.indexAddr m x f,ty,pos,af,gd⟩ st (.fp A):=λw0 W e a w h=>by
 obtain⟨inf,zv,C,D,h3,h4,rfl,_,_⟩:=cX N;have z:=h.ev x;rw[q]at z;have r:=h.ev f;rw[Q]at r;have r:=r.bL;obtain⟨X,Y,U,H,l,Z,v,a0,hm,_,E⟩:=z.mr;have fC:i.toNat<O.length:=(aus.1 p).1;have a2:A.length=inf.size:=l A (auI p);have J:(O.flatten.drop (i.toNat*inf.size)).take inf.size=A:=by
  have:∀(O:Do (Do AV)) (i:Nat),(∀A∈O,A.length=inf.size)->O[i]? =some A->(O.flatten.drop (i*inf.size)).take inf.size=A:=by
   intro O
   induction O with
   |nil=>intro i _ g;simp at g
   |cons x O R=>
    intro i l g;have q:x.length=inf.size:=l x d5;cases i with
    |zero=>
     simp at g;subst g;simp only[awQ,ave,au4];exact aw6 q
    |succ i=>
     rw[au4,au6,aws,ayh,<-q,ay0];rw[q];exact R i (λA p=>l A (by simp[p])) (by simpa using g)
  exact this O i.toNat l p
 have K:i.toNat*inf.size+inf.size<=O.flatten.length:=by
  rw[er l];have:(i.toNat+1)*inf.size<=O.length*inf.size:=awC _ fC;rw[au6]at this;omega
 have M:U≠[]:=by
  intro g;have:=v.1;rw[g]at this;simp only[avg]at this;omega
 obtain⟨b,o,rfl,I⟩:=E M;have s:=v.sub (i.toNat*inf.size) inf.size K;rw[J]at s;refine⟨.pointer (some ⟨b,o+i.toNat*inf.size,none⟩),.fp _ s.1.1 s.1.2 (λj u n=>?_),λV a3=>?_⟩
 ·rw[au3]at n
  split at n
  ·rw[avK]at n
   rw[aw8];exact I _ u n
  ·cases n
 ·have F:(⟨b,o,none⟩:Addr).add (i.toNat*inf.size)=⟨b,o+i.toNat*inf.size,none⟩:=ava ..
  have L:i<(O.length:Int):=bv
  simp[execOp,Instr.indexAt,r,asIntOf,auR C,H,B,L,cL V D,F]
def RS.ahH{x b:If}{rows:Do (Do AV)}{wr:In}{k:IntKind}{i:Int}
 (E:Hh P m=some (S,c,y,t)) (F:st.ev x=.ow X) (A:aZ st.h X=some (.arr S c rows wr)) (G:st.ev b=.v (.int k i)) (p:0<=i) (n:i<rows.length):
 RS P ⟨d,.indexAddr m x b,ty,pos,af,gd⟩ st (.pe X i.toNat c 0):=λw0 I e a w h=>by
 obtain⟨l,zv,q,r,L,M,rfl,_,_⟩:=cX E;have j:=h.ev x;rw[F]at j;have g:=h.ev b;rw[G]at g;have g:=g.bL;obtain⟨Z,K,_,C⟩:=h.sr.ob _ _ A;rcases C with⟨B,O,_⟩|⟨f,o,J,z,D,Q,Y,U,R,W,V⟩
 ·subst B;simp at n;omega
 have v:a.eval x=.slice (some ⟨f,0,none⟩) rows.length o:=by
  generalize N:a.eval x=u at j;cases j with
  |ow=>exact D
 refine⟨.pointer (some ⟨f,i.toNat*l.size+0,none⟩),.pe z,λH a0=>?_⟩;have s:(⟨f,0,none⟩:Addr).add (i.toNat*l.size)=⟨f,i.toNat*l.size,none⟩:=by rw[ava,auZ]
 simp[execOp,Instr.indexAt,g,asIntOf,auR q,v,p,n,cL H r,s]
def RS.xn{x f:If}{k:IntKind}{i:Int}{q:AV}
 (u:arA P m=some (c,S,y)) (A:st.ev f=.v (.int k i)) (l:0<=i) (n:i<c) (t:gJ (st.ev x) (i.toNat*y)=some q):
 RS P ⟨d,.indexAddr m x f,ty,pos,af,gd⟩ st q:=λE C e a w h=>by
 obtain⟨j,p,r,rfl⟩:=ue u;have g:=h.ev f;rw[A]at g;have g:=g.bL;obtain⟨b,o,v,z⟩:=HK t (h.ev x);refine⟨_,z,λB D=>?_⟩;have s:(⟨b,o,none⟩:Addr).add (i.toNat*j.size)=⟨b,o+i.toNat*j.size,none⟩:=ava ..;simp[execOp,Instr.indexAt,g,asIntOf,auR p,v,Instr.sureAddr,l,n,cL B r,s]
def rG(st:St):AV->bX
 |.sl _ _ a=>some a.length
 |.sw _ _ n _=>some n
 |.ow k=>match aZ st.h k with
  |some (.arr _ _ a _)=>some a.length
  |some (.nr _ b)=>some b.length
  |_=>none
 |_=>none
def ahI{e:Env}(a:Ga H h e st D J)(b:rG st C=some c){v:Id}(r:VR (bN H h e st.h J) (some e) C v):∃n f,v=.slice n c f:=by
 cases r with
 |sl G B w A z u x y g=>simp only[rG,aur]at b;subst b;exact⟨_,_,rfl⟩
 | @ow e k=>
  simp only[rG]at b;split at b
  ·rename_i t F E wr i
   simp only[aur]at b;subst b;obtain⟨_,_,_,l⟩:=a.sr.ob _ _ i;rcases l with⟨j,_,D,g⟩|⟨o,f,p,q,m,_⟩
   ·subst j;exact⟨D,0,g⟩
   ·exact⟨_,f,m⟩
  ·rename_i t s i
   simp only[aur]at b;subst b;obtain⟨_,l⟩:=a.sr.ob _ _ i;rcases l with⟨j,_,D,g⟩|⟨o,f,p,q,m,_⟩
   ·subst j;exact⟨D,0,g⟩
   ·exact⟨_,f,m⟩
  ·cases b
 |un=>simp[rG]at b
 |v=>simp[rG]at b
 |pt=>simp[rG]at b
 |pe=>simp[rG]at b
 |sw=>simp only[rG,aur]at b;subst b;exact⟨_,_,rfl⟩
 |_=>simp[rG]at b
def kz(P:Fd)(t:EQ):In:=match P.underlying t with|some (.slice _)=>true|_=>false
def RS.len{f:hX}(b:kz P m=true)(j:f[0]? =some m)(i:rG st (st.ev B)=some c):
 RS P ⟨d,.call ⟨.builtin .len, #[B],f⟩,ty,pos,af,gd⟩ st (.v (.int .i64 c)):=λq l e a w h=>by
 obtain⟨n,o,k⟩:=ahI h i (h.ev B);refine⟨_,.v,λp _=>?_⟩;unfold kz at b;split at b
 ·rename_i E g
  simp[execOp,resolve,invoke,builtin,Builtin.len_,j,auR g,k,goInt]
 ·cases b
def RS.extract{x:If}{i:Nat}{f:Do AV}{c:AV}(n:st.ev x=.tu f)(j:f[i]? =some c):RS P ⟨d,.extract x i,ty,pos,af,gd⟩ st c:=λr o e a w h=>by
 have b:=h.ev x;rw[n]at b;obtain⟨p,g,k⟩:=b.D9;obtain⟨u,m,l⟩:=k.get j;exact⟨u,l,λq _=>by simp[execOp,Instr.extract,g,m]⟩
def RS.field{t:EQ}{x:If}{f l n:Nat}{o:In}{j:Do AV}{c:AV}(b:fdA P t f=some (l,o,n))(K:st.ev x=.ag j)(G:l+n<=j.length)
 (H:(o=true/\c=.ag ((j.drop l).take n))\/(o=false/\j[l]? =some c)):RS P ⟨d,.field t x f,ty,pos,af,gd⟩ st c:=λR L e a w h=>by
 have B:=h.ev x;rw[K]at B;obtain⟨q,y,z⟩:=B.e5;unfold fdA at b;split at b
 ·rename_i N r
  split at b
  ·rename_i g s
   split at b
   ·rename_i M O D
    simp only[aur,auK]at b;obtain⟨rfl,rfl,rfl⟩:=b;obtain⟨Q,i,v,E,k,rfl⟩:=ir D;rcases H with⟨p,rfl⟩|⟨p,F⟩
    ·have A:=z.sub g.offset i.size G
     refine⟨.agg ((q.drop g.offset).take i.size).toArray,.ag _ A.1.1 A.1.2,λm _=>?_⟩;rw[p]at k;have C:q.toArray.extract g.offset (g.offset+i.size)=((q.drop g.offset).take i.size).toArray:=by
      simp[ay1]
     simp[execOp,Instr.field,auR r,s,y,asAgg,part,mf m v,<-k,cL m E,C]
    ·obtain⟨u,J,I⟩:=z.get F
     refine⟨u,I,λm _=>?_⟩;rw[p]at k;simp[execOp,Instr.field,auR r,s,y,asAgg,part,mf m v,<-k,J]
   ·cases b
  ·cases b
 ·cases b
def AV.val:AV->Id
 |.v x=>x
 |_=>undef
end
variable{Q:IO->Act->GE->Prop}{F:Oper}
def SS(P:Fd)(o:Oper)(st:St)(K:St->Prop):Prop:=
 ∀h b e a w next Q,Ga h b e st a w->(∀f,K f->∀i c g,Ga h b i f c g->next c g)->o.wp P a w next Q
section
variable{P:Fd}{st:St}{d:Nat}{ty:EQ}{pos:String}{af:dm}{gd:fH}{K:St->Prop}
def eu{w w':GE}{v:Id}{next:Act->GE->Prop}(a:(execOp D.eval F).run P w=.ok (.value v) w')(h:next (D.put F.dst v) w'):F.wp P D w next Q:=by
 unfold Oper.wp;rw[a];exact h
def uf{w w':GE}{next:Act->GE->Prop}(a:(execOp D.eval F).run P w=.ok .skip w')(h:next (D.put F.dst undef) w'):F.wp P D w next Q:=by
 unfold Oper.wp;rw[a];exact h
def Ga.put{f:Bs}{b:bF}{e:Env}{a:Act}{w:GE}(h:Ga f b e st a w){c:AV}{v:Id}(g:d<st.n)(i:VR (bN f b e st.h w) (some e) c v):
 Ga f b e ⟨st.n,(d,c)::st.t,st.h⟩ (a.put (some d) v) w:=
 ⟨by simpa[Act.put]using h.n,h.d,h.sr,h.tr.put (by rw[h.n.1];exact g) i⟩
def SS.read{b:Op}(j:RS P ⟨some d,b,ty,pos,af,gd⟩ st C)(g:d<st.n)(f:K ⟨st.n,(d,C)::st.t,st.h⟩):SS P ⟨some d,b,ty,pos,af,gd⟩ st K:=by
 intro m c e a w next Q h i
 obtain⟨v,l,k⟩:=j m c e a w h;exact eu (k w (Ext.refl w)) (i _ f _ _ _ (h.put g l))
def cellsOf:AV->At (Do AV)
 |.ag a=>some a
 |c=>if c.one then some [c]else none
def n_(h:g.oneCell'=true):g.cells= #[g]:=by
 cases g<;>simp_all[Value.oneCell',Value.cells]
def pP{Rd:bF}(a:cellsOf C=some A)(c:VR Rd (some v) C g)(j:∀k,C=.ow k->(v.sv k).oneCell'=true):
 ∃b,g.cells=b.toArray/\LR (VR Rd (some v)) A b:=by
 cases C with
 |ag l=>
  simp only[cellsOf,aur]at a;subst a;obtain⟨b,rfl,i⟩:=c.e5;exact⟨b,rfl,i⟩
 |_=>
  simp only[cellsOf]at a;split at a
  ·rename_i e
   simp only[aur]at a;subst a;have:=c.jI e (λm k f h=>by cases f;exact j k h);exact⟨[g],by rw[n_ this],LR.cons c LR.nil⟩
  ·cases a
def Ga.aoa(a:Ga H h v st D J)(i:(match aZ st.h c with|some (.arr ..)=>true|some (.nr ..)=>true|_=>false)=true):(v.sv c).oneCell'=true:=by
 split at i
 ·rename_i t p o wr e
  obtain⟨_,_,_,f⟩:=a.sr.ob _ _ e;rcases f with⟨_,_,D,b⟩|⟨j,k,l,m,g,_⟩
  ·rw[b];rfl
  ·rw[g];rfl
 ·rename_i t n e
  obtain⟨_,f⟩:=a.sr.ob _ _ e;rcases f with⟨_,_,D,b⟩|⟨j,k,l,m,g,_⟩
  ·rw[b];rfl
  ·rw[g];rfl
 ·cases i
def oR(h:Hp):AV->In
 |.ow k=>match aZ h k with|some (.arr ..)=>true|some (.nr ..)=>true|_=>false
 |_=>true
def Ga.oR(a:Ga H h v st D J)(b:oR st.h C=true):∀k,C=.ow k->(v.sv k).oneCell'=true:=by
 rintro k rfl;exact a.aoa b
def Ga.new(a:Ga H h v st D J)(i:d<st.n)(b:EQ)(m:b≠D_)(j:LR (VR (bN H h v st.h J) (some v)) A t):
 ∃f,Ga H h f ⟨st.n,(d,.pt d 0)::c8 d st.t,(d,some (.box b (A.map (AV.kill d))))::bw d st.h⟩ (D.put (some d) (.pointer (some ⟨J.heap.size,0,none⟩))) (J.alloc (.cells t.toArray b)):=by
 obtain⟨k,e⟩:=a.sr.kill d;obtain⟨l,g⟩:=k.alh d b m ((j.imp λ_ _ n=>n.mono e).kill d) (ef d st.h) (by have:=a.n.2;omega) (wq d A);refine⟨_,⟨by simpa[Act.put]using a.n,a.d,l,TR.put ?_ (by rw[a.n.1];exact i) (.pt Env.bY)⟩⟩;exact(((a.tr.kill d).mono e).mono g).env d (dQ d st.t) (λ_ c=>Env.bG c) (λ_ c=>Env.de c)
def SS.box{t:EQ}{x:If}{b:Do AV}(m:t≠D_)(f:cellsOf (st.ev x)=some b)(l:oR st.h (st.ev x)=true)(g:d<st.n)
 (c:K ⟨st.n,(d,.pt d 0)::c8 d st.t,(d,some (.box t (b.map (AV.kill d))))::bw d st.h⟩):SS P ⟨some d,.box t x,ty,pos,af,gd⟩ st K:=by
 intro r p e a w next Q h k
 obtain⟨o,n,j⟩:=pP f (h.ev x) (h.oR l);obtain⟨q,i⟩:=h.new g t m j;refine eu (v:=.pointer (some ⟨w.heap.size,0,none⟩)) (w':=w.alloc (.cells o.toArray t)) ?_ (k _ c _ _ _ i);simp[execOp,Instr.box,newVar,newRow,newObj,n,Sem.run]
def BF(P:Fd)(t:EQ):At bC:=(P.info? t).bind λi=>i.zero.map λz=>z.cells.toList
def xo{Rd:bF}{E:At Env}(b:bC):LR (VR Rd E) (b.map lS) b:=
 ⟨d5,λj c u a e=>by
  rw[auM,e]at a;simp at a;subst a;exact Eb u⟩
def SS.alloc{t:EQ}{z:bC}(l:t≠D_)(b:BF P t=some z)(f:d<st.n)
 (c:K ⟨st.n,(d,.pt d 0)::c8 d st.t,(d,some (.box t ((z.map lS).map (AV.kill d))))::bw d st.h⟩):SS P ⟨some d,.alloc t,ty,pos,af,gd⟩ st K:=by
 intro q o e a w next Q h k
 obtain⟨p,g⟩:=h.new f t l (xo z);unfold BF at b;obtain⟨i,j,b⟩:=awF.1 b;obtain⟨n,m,rfl⟩:=auY.1 b;refine eu (v:=.pointer (some ⟨w.heap.size,0,none⟩)) (w':=w.alloc (.cells n.cells.toList.toArray t)) ?_ (k _ c _ _ _ g);simp[execOp,Instr.alloc,zeroValue,typeInfo,j,m,newVar,newRow,newObj,Sem.run]
def setCells{α:Type}(a:Do α)(o:Nat):Do α->Do α
 |[]=>a
 |x::b=>setCells (a.set o x) (o+1) b
def lF{α:Type}:∀(b a:Do α) (o:Nat),(setCells a o b).length=a.length
 |[],_,_=>rfl
 |x::b,a,o=>by rw[setCells,lF b];simp
def TR.iD{Rd:bF}{e e':Env}{t:Do (Nat×AV)}{a:dU}(h:TR Rd e t a)(b:∀j,e'.bW j=e.bW j)(c:∀j,e'.sv j=e.sv j):TR Rd e' t a:=λi=>(h i).iD rfl b c
def Ga.oQ{B:Bs}{r:bF}{k b:Nat}{t:EQ}(F:t≠D_):∀(xs:Do AV) (q:bC) (o:Nat) {st:St} {e:Env} {a:Act} {w:GE} {n:Do AV} (h:Ga B r e st a w) (l:aZ st.h k=some (.box t n)) (y:e.bW k=some b)
 (m:LR (VR (bN B r e st.h w) (some e)) xs q) (D:∀u∈q,u.oneCell'=true) (L:o+xs.length<=n.length) (i:Nat) (z:Nat) (O:z+i=o),
 ∃I H C,(storeCells ⟨b,z,none⟩ q i).run P w=.ok () H/\Ga B r I ⟨st.n,st.t,(k,some (.box t (setCells n o xs)))::C⟩ a H/\∀j,j≠k->aZ C j=aZ st.h j
 |[],[],o,st,e,a,w,n,h,l,y,m,D,L,i,z,O=>by
  obtain⟨S,g,A,J,G,M⟩:=h.sr.ob _ _ l;have a6:=h.sr.base _ _ _ l y;obtain⟨Q,s⟩:=h.sr.uV k (e.bW k) (e.sv k) 0 (some (.box t n)) h.sr.ext (.inr ⟨rfl,rfl⟩) (auq _) (λ_ _ _=>rfl)
   (λV E _=>⟨(h.sr.base _ _ _ l E).1,(h.sr.base _ _ _ l E).2,.inl ⟨_,l,E⟩⟩) (λV o' u' ob a8 E N Y=>by rw[S]at N;omega)
   (λRd s _ aa a3=>by
    obtain rfl:=aut a3;exact⟨Env.b9,g,A,by rw[Env.bY];exact J,G,M.imp λ_ _ p=>(p.mono s).iD rfl (λj=>by by_cases f:j=k<;>simp[Env.cO,f]) (λj=>by by_cases f:j=k<;>simp[Env.cO,f])⟩)
  refine⟨_,w,st.h,rfl,⟨h.n,h.d,Q,(h.tr.mono s).iD (λj=>by by_cases f:j=k<;>simp[Env.cO,f]) (λj=>by by_cases f:j=k<;>simp[Env.cO,f])⟩,λ_ _=>rfl⟩
 |x::xs,u::q,o,st,e,a,w,n,h,l,y,m,D,L,i,z,O=>by
  have hx:VR (bN B r e st.h w) (some e) x u:=m.2 0 x u rfl rfl;have a2:LR (VR (bN B r e st.h w) (some e)) xs q:=⟨by simpa using m.1,λj c v X p=>m.2 (j+1) c v (by simpa using X) (by simpa using p)⟩;obtain⟨Q,s⟩:=h.sr.oQ F l y o hx;obtain⟨S,g,A,J,G,M⟩:=h.sr.ob _ _ l;obtain rfl:=aut (J.symm.trans y);have R:∀j,(e.cO k (some g) (e.sv k) 0).bW j=e.bW j:=λj=>by by_cases f:j=k<;>simp[Env.cO,f,y]
  have U:∀j,(e.cO k (some g) (e.sv k) 0).sv j=e.sv j:=λj=>by by_cases f:j=k<;>simp[Env.cO,f]
  have Z:Ga B r (e.cO k (some g) (e.sv k) 0) ⟨st.n,st.t,(k,some (.box t (n.set o x)))::st.h⟩ a (w.setCell ⟨g,o,none⟩ u):=⟨h.n,h.d,Q,(h.tr.mono s).iD R U⟩;simp only[auP]at L;obtain⟨I,H,C,a4,a0,a1⟩:=Ga.oQ F xs q (o+1) Z bf Env.bY (a2.imp λ_ _ p=>(p.mono s).iD rfl R U) (λv p=>D v (by simp[p])) d7 (i+1) z bv;refine⟨I,H,C,?_,a0,λj f=>by rw[a1 j f,bc f]⟩;have W:(⟨g,z,none⟩:Addr).add i=⟨g,o,none⟩:=by rw[ava,O]
  have N:o<A.length:=by rw[M.1];omega
  have Y:w.cell? ⟨g,o,none⟩=some A[o]:=by
   rw[avu w g o A.toArray t (0,0) (G.cells F)];simp[N]
  have a7:=awR w g o A.toArray t (G.cells F);have a9:=D u d5;have a5:(store ⟨g,o,none⟩ u).run P w=.ok () (w.setCell ⟨g,o,none⟩ u):=by
   cases u<;>simp_all[store,Sem.run,Value.oneCell']
  simp only[storeCells,auF,W,a5,auG];exact a4
 |[],u::q,_,_,_,_,_,_,_,_,_,m,_,_,_,_,_=>by have:=m.1;simp at this
 |x::xs,[],_,_,_,_,_,_,_,_,_,m,_,_,_,_,_=>by have:=m.1;simp at this
def LR.arO{Rd:bF}(h:LR (VR Rd (some v)) A t)(e:A.all AV.one=true)(i:∀k,.ow k∈A->(v.sv k).oneCell'=true):∀u∈t,u.oneCell'=true:=by
 intro u l;obtain⟨j,a,rfl⟩:=avc l;have b:j<A.length:=by rw[<-h.1];exact a
 have c:=awO b;exact(h.2 j A[j] t[j] (auy b) (auy a)).jI (auO.1 e _ c) (λm k f g=>by cases f;exact i k (g▸c))
def Ga.k5{t:Do (Nat×AV)}{a g:Hp}(e:Ga H h v ⟨c,t,a⟩ D J)(f:∀j,aZ g j=aZ a j):Ga H h v ⟨c,t,g⟩ D J:=by
 have l:∀b o u,bN H h v a J b o u↔bN H h v g J b o u:=λb o u=>by unfold bN;simp only[f]
 exact⟨e.n,e.d,⟨e.sr.ext,e.sr.kg,λk ob i=>(e.sr.ob k ob (by rw[<-f];exact i)).mono λb o u=>(l b o u).1,λk ob b i=>e.sr.base k ob b (by rw[<-f];exact i),λk p ob q b m n=>e.sr.inj k p ob q b (by rw[<-f];exact m) (by rw[<-f];exact n),e.sr.rL⟩,e.tr.mono λb o u=>(l b o u).1⟩
def SS.oQ{t g:EQ}{x y:If}{k o:Nat}{l f:Do AV}{r:In}{n:Nat}(R:g≠D_)(L:st.ev x=.pt k o)(F:aZ st.h k=some (.box g l))(O:Rq P t=some (r,n))(C:cellsOf (st.ev y)=some f)(G:f.length=n)
 (s:f.all AV.one=true) (I:oR st.h (st.ev y)=true) (J:f.all (oR st.h)=true) (Z:o+n<=l.length) (z:K ⟨st.n,st.t,(k,some (.box g (setCells l o f)))::st.h⟩):
 SS P ⟨none,.store t x y,ty,pos,af,gd⟩ st K:=by
 intro w0 V e a w next Q h H
 obtain⟨q,S,m⟩:=pP C (h.ev y) (h.oR I);have p:=h.ev x;rw[L]at p;generalize A:a.eval x=u at p;cases p with
 | @pt _ _ _ b B=>
  obtain⟨td,i,Y,v,_,rfl⟩:=ir O;obtain⟨W,U,X,M,D,E⟩:=Ga.oQ (P:=P) R f q o h F B m (m.arO s λj c=>h.oR (auO.1 J _ c) j rfl) bv 0 o rfl;refine uf (w':=U) ?_ (H _ z _ _ _ ((D.k5 (λj=>by
   by_cases c:j=k
   ·subst c;rw[bf,bf]
   ·rw[bc c,bc c,E j c]))))
  have N:q.length=i.size:=by rw[m.1];exact G
  simp[execOp,Instr.storeAt,Instr.sureAddr,A,storeVar,S,cL w v,N,M]
end
def AV.fz:AV->In
 |.un|.v _|.sl .. |.fp _=>true
 |_=>false
def VR.Ed{Rd:bF}{E:At Env}(h:VR Rd E C g)(l:C.fz=true):VR Rd none C g:=by
 cases h with
 |un=>exact .un
 |v=>exact .v
 |sl e m i c b f j k a=>exact .sl e m i c b f j k a
 |fp e c b a=>exact .fp e c b a
 |_=>simp[AV.fz]at l
def plA(P:Fd)(t:EQ):At (bC×(Nat->Mi)):=
 match P.info? t,P.underlying t with
 |some a,some (.array _ e)=>
  match a.zero,P.info? e with
  |some z,some b=>some (z.cells.toList,λi=>some (i*b.size,b.size))
  |_,_=>none
 |some a,some (.struct c)=>
  match a.zero,c.toList.mapM (λf=>(P.info? f.type).map λi=>(f.offset,i.size))with
  |some z,some g=>some (z.cells.toList,λi=>g[i]?)
  |_,_=>none
 |_,_=>none
def gD{α:Type}(c:Nat->Mi)(a:Do α):Do (Nat×Do α)->At (Do α)
 |[]=>some a
 |(i,e)::f=>match c i with
  |none=>none
  |some (b,size)=>if e.length=size/\b+size<=a.length then gD c (setCells a b e) f else none
def Ml{R:M->Id->Prop}:∀(e:Do M) (a:bC) (b:Do M) (f:dU) (o:Nat),LR R b f.toList->LR R e a->
 LR R (setCells b o e) ((a.zipIdx).foldl (λ(b:dU) (p:Id×Nat)=>b.setIfInBounds (o+p.2) p.1) f).toList:=by
 have r:∀(e:Do M) (a:bC) (b:Do M) (f:dU) (o i:Nat),LR R b f.toList->LR R e a->
  LR R (setCells b (o+i) e) ((a.zipIdx i).foldl (λ(b:dU) (p:Id×Nat)=>b.setIfInBounds (o+p.2) p.1) f).toList:=by
  intro e
  induction e with
  |nil=>
   intro a b f o i h g;have:a=[]:=avq (by simpa using g.1);subst this;simpa[setCells]using h
  |cons x e q=>
   intro a b f o i h g;cases a with
   |nil=>have:=g.1;simp at this
   |cons u a=>
    have k:R x u:=g.2 0 x u rfl rfl;have l:LR R e a:=⟨by simpa using g.1,λj c v m n=>g.2 (j+1) c v (by simpa using m) (by simpa using n)⟩;simp only[setCells,List.zipIdx_cons,List.foldl_cons];rw[aw8];refine q a _ _ o (i+1) ?_ l;rw[awN];exact h.set _ k
 intro e a b f o h g;exact r e a b f o 0 h g
def jJ{α:Type}{R:α->Id->Prop}{place:Nat->Mi}:∀(g:Do (Nat×Do α)) (k:Do (Nat×Id)) (c e:Do α) (b:dU),
 LR R c b.toList->g.length=k.length->(∀(j:Nat) p q,g[j]? =some p->k[j]? =some q->p.1=q.1/\LR R p.2 q.2.cells.toList)->gD place c g=some e->
 ∃l,Instr.fill place b k=some l/\LR R e l.toList
 |[],[],c,e,b,h,_,_,a=>by
  simp only[gD,aur]at a;subst a;exact⟨b,rfl,h⟩
 |(i,A)::g,(E,v)::k,c,e,b,h,f,o,a=>by
  obtain⟨rfl,n⟩:=o 0 _ _ rfl rfl;simp only at n;simp only[gD]at a;cases m:place i with
  |none=>simp[m]at a
  |some z=>
   obtain⟨off,r⟩:=z;simp only[m]at a;split at a
   ·rename_i B
    have s:=Ml A v.cells.toList c b off h n;obtain⟨l,t,w⟩:=jJ g k _ e _ s (by simpa using f) (λj p q x y=>o (j+1) p q (by simpa using x) (by simpa using y)) a;refine⟨l,?_,w⟩;have D:v.cells.size=r:=by have:=n.1;simp at this;omega
    have C:b.size=c.length:=by have:=h.1;simpa using this
    have u:(v.cells.size≠r||off+v.cells.size>b.size)=false:=d7
    simp only[Instr.fill,m,u];rw[aun d5];rw[<-t];congr 1;rw[<-Array.foldl_toList,Array.toList_zipIdx]
   ·cases a
 |[],_::_,_,_,_,_,f,_,_=>by simp at f
 |_::_,[],_,_,_,_,f,_,_=>by simp at f
def rN(st:St):xj->At (Do (Nat×Do AV))
 |[]=>some []
 |(i,x)::b=>match cellsOf (st.ev x),rN st b with
  |some a,some r=>some ((i,a)::r)
  |_,_=>none
def ug(st:St):xj->In
 |[]=>true
 |(_,x)::a=>oR st.h (st.ev x) && ug st a
section
variable{P:Fd}{st:St}{d:Nat}{dd:iC}{ty:EQ}{pos:String}{af:dm}{gd:fH}{K:St->Prop}
def Mm{o:Bs}{n:bF}{e:Env}{a:Act}{w:GE}(h:Ga o n e st a w):∀(c:xj) (f:Do (Nat×Do AV)),rN st c=some f->ug st c=true->
 f.length=(c.map λp=>(p.1,a.eval p.2)).length/\∀(j:Nat) p q,f[j]? =some p->(c.map λp=>(p.1,a.eval p.2))[j]? =some q->p.1=q.1/\LR (VR (bN o n e st.h w) (some e)) p.2 q.2.cells.toList
 |[],f,b,_=>by simp only[rN,aur]at b;subst b;simp
 |(i,x)::c,f,b,k=>by
  simp only[rN]at b;simp only[ug,aup]at k;cases g:cellsOf (st.ev x)with
  |none=>simp[g]at b
  |some y=>
   cases m:rN st c with
   |none=>simp[g,m]at b
   |some r=>
    simp only[g,m,aur]at b;subst b;obtain⟨s,t⟩:=Mm h c r m k.2;refine⟨by simpa using s,λj p q l b=>?_⟩;cases j with
    |zero=>
     simp at l b;subst l;subst b;obtain⟨z,v,u⟩:=pP g (h.ev x) (h.oR k.1);exact⟨rfl,by simpa[v]using u⟩
    |succ j=>exact t j p q (by simpa using l) (by simpa using b)
def RS.build{c:D8}{p:Nat->Mi}{f:Do (Nat×Do AV)}(b:plA P m=some (t,p))(C:rN st c.toList=some f)(B:ug st c.toList=true)
 (z:gD p (t.map lS) f=some A):RS P ⟨dd,.build m c,ty,pos,af,gd⟩ st (.ag A):=λG s e a w h=>by
 obtain⟨u,v⟩:=Mm h c.toList f C B;have D:LR (VR (bN G s e st.h w) (some e)) (t.map lS) t.toArray.toList:=by simpa using xo t
 obtain⟨g,q,r⟩:=jJ (place:=p) f _ (t.map lS) A t.toArray D u v z;refine⟨.agg g.toList.toArray,.ag _ r.1 r.2,λF _=>?_⟩;have y:P.built m (c.map λ(i,x)=>(i,a.eval x)).toList=some g:=by
  unfold plA at b;unfold Program.built;simp only[av5];split at b
  ·rename_i E n e j k
   split at b
   ·rename_i H J l o
    simp only[aur,auK]at b;obtain⟨rfl,rfl⟩:=b;simp only[j,k,l,o];simpa using q
   ·cases b
  ·rename_i E I j k
   split at b
   ·rename_i H L l o
    simp only[aur,auK]at b;obtain⟨rfl,rfl⟩:=b;simp only[j,k,l,o];simpa using q
   ·cases b
  ·cases b
 have:=run_build F m _ g y;simp only[execOp,auF,this,auG,auJ,ayi]
def hZ(h:Hp):AV->At (Hp×AV)
 |.ow k=>match aZ h k with
  |some (.arr t b a _)=>some ((k,some (.arr t b a false))::h,.sl false b a)
  |_=>none
 |c=>if c.fz then some (h,c)else none
def iO(h:Hp):Do AV->At (Hp×Do AV)
 |[]=>some (h,[])
 |c::b=>match hZ h c with
  |some (f,a)=>match iO f b with
   |some (g,e)=>some (g,a::e)
   |none=>none
  |none=>none
def jK(h:Hp):AV->At (Hp×AV)
 |.ag a=>match iO h a with
  |some (e,b)=>some (e,.ag b)
  |none=>none
 |c=>hZ h c
def oa(h:Hp):Do AV->At (Hp×Do AV)
 |[]=>some (h,[])
 |c::b=>match jK h c with
  |some (f,a)=>match oa f b with
   |some (g,e)=>some (g,a::e)
   |none=>none
  |none=>none
structure od(w0:Bs)(Rd0:bF)(e:Env)(h:Hp)(w:World)(e':Env)(h':Hp):Prop where
 sr:SR w0 Rd0 e' h' w
 rd:∀b o u,bN w0 Rd0 e h w b o u->bN w0 Rd0 e' h' w b o u
 bW:∀j,e'.bW j=e.bW j
 sv:∀j,e'.sv j=e.sv j
def od.trans{f:Bs}{c:bF}{e g i:Env}{h k l:Hp}{w:GE}(a:od f c e h w g k)(b:od f c g k w i l):od f c e h w i l:=
 ⟨b.sr,λx o u m=>b.rd x o u (a.rd x o u m),λj=>(b.bW j).trans (a.bW j),λj=>(b.sv j).trans (a.sv j)⟩
def od.refl(a:SR H h v L J):od H h v L J v L:=⟨a,λ_ _ _ L=>L,λ_=>rfl,λ_=>rfl⟩
def oS{a f:Hp}(j:SR H h v a J){c i:AV}(l:VR (bN H h v a J) (some v) c g)(b:hZ a c=some (f,i)):
 ∃e,od H h v a J e f/\VR (bN H h e f J) none i g:=by
 cases c with
 |ow k=>
  simp only[hZ]at b;split at b
  ·rename_i t w u wr s
   simp only[aur,auK]at b;obtain⟨rfl,rfl⟩:=b;obtain⟨e,m,n,o,p,q⟩:=j.Rp s;cases l with
   |ow=>exact⟨e,⟨m,n,o,p⟩,q⟩
  ·cases b
 |_=>
  simp only[hZ]at b;split at b
  ·rename_i r
   simp only[aur,auK]at b;obtain⟨rfl,rfl⟩:=b;exact⟨v,od.refl j,l.Ed r⟩
  ·cases b
def HL{m:Bs}{g:bF}{w:GE}:∀(i:Do AV) (b:bC) (e:Env) (h k:Hp) (n:Do AV),SR m g e h w->LR (VR (bN m g e h w) (some e)) i b->iO h i=some (k,n)->
 ∃q,od m g e h w q k/\LR (VR (bN m g q k w) none) n b
 |[],b,e,h,k,n,p,f,a=>by
  simp only[iO,aur,auK]at a;obtain⟨rfl,rfl⟩:=a;have:b=[]:=avq (by simpa using f.1);subst this;exact⟨e,od.refl p,LR.nil⟩
 |c::i,b,e,h,k,n,p,f,a=>by
  cases b with
  |nil=>have:=f.1;simp at this
  |cons u b=>
   simp only[iO]at a;split at a
   ·rename_i r H A
    split at a
    ·rename_i z t B
     simp only[aur,auK]at a;obtain⟨rfl,rfl⟩:=a;obtain⟨o,l,F⟩:=oS p (f.2 0 c u rfl rfl) A;have C:LR (VR (bN m g o r w) (some o)) i b:=⟨by simpa using f.1,λj x y D E=>((f.2 (j+1) x y (by simpa using D) (by simpa using E)).mono l.rd).iD rfl l.bW l.sv⟩;obtain⟨v,s,G⟩:=HL i b o r z t l.sr C B;exact⟨v,l.trans s,LR.cons (F.mono s.rd) G⟩
    ·cases a
   ·cases a
def rO{a i:Hp}(k:SR H h v a J){c j:AV}(m:VR (bN H h v a J) (some v) c g)(e:jK a c=some (i,j)):
 ∃f,od H h v a J f i/\VR (bN H h f i J) none j g:=by
 cases c with
 |ag o=>
  simp only[jK]at e;split at e
  ·rename_i q p r
   simp only[aur,auK]at e;obtain⟨rfl,rfl⟩:=e;obtain⟨n,rfl,s⟩:=m.e5;obtain⟨f,l,b⟩:=HL o n v a q p k s r;exact⟨f,l,.ag n b.1 b.2⟩
  ·cases e
 |_=>exact oS k m (by simpa only[jK]using e)
def Aq{m:Bs}{g:bF}{w:GE}:∀(i:Do AV) (b:bC) (e:Env) (h k:Hp) (n:Do AV),SR m g e h w->LR (VR (bN m g e h w) (some e)) i b->oa h i=some (k,n)->
 ∃q,od m g e h w q k/\LR (VR (bN m g q k w) none) n b
 |[],b,e,h,k,n,p,f,a=>by
  simp only[oa,aur,auK]at a;obtain⟨rfl,rfl⟩:=a;have:b=[]:=avq (by simpa using f.1);subst this;exact⟨e,od.refl p,LR.nil⟩
 |c::i,b,e,h,k,n,p,f,a=>by
  cases b with
  |nil=>have:=f.1;simp at this
  |cons u b=>
   simp only[oa]at a;split at a
   ·rename_i r H A
    split at a
    ·rename_i z t B
     simp only[aur,auK]at a;obtain⟨rfl,rfl⟩:=a;obtain⟨o,l,F⟩:=rO p (f.2 0 c u rfl rfl) A;have C:LR (VR (bN m g o r w) (some o)) i b:=⟨by simpa using f.1,λj x y D E=>((f.2 (j+1) x y (by simpa using D) (by simpa using E)).mono l.rd).iD rfl l.bW l.sv⟩;obtain⟨v,s,G⟩:=Aq i b o r z t l.sr C B;exact⟨v,l.trans s,LR.cons (F.mono s.rd) G⟩
    ·cases a
   ·cases a
def Ga.cP{e b:Env}(a:Ga H h e st D J)(l:od H h e st.h J b L):Ga H h b ⟨st.n,st.t,L⟩ D J:=
 ⟨a.n,a.d,l.sr,(a.tr.mono l.rd).iD l.bW l.sv⟩
def wu(a:In)(n h:Nat):bX->In
 |some m=>m==h
 |none=>a && h==n
def wx(c:In)(a:Do (Do AV))(b:Nat)(l h:Nat)(m:bX):AV:=
 .sl (wu c a.length h m) b ((a.take h).drop l)
end
variable{P:At Env}
mutual
def AV.hV(π:Nat->Nat):AV->AV
 |.un=>.un
 |.v x=>.v x
 |.sl g b f=>.sl g b f
 |.ow j=>.ow (π j)
 |.pt j o=>.pt (π j) o
 |.pe j i b o=>.pe (π j) i b o
 |.sw j l n b=>.sw (π j) l n b
 |.fp a=>.fp a
 |.mp j=>.mp (π j)
 |.ag a=>.ag (AV.rP π a)
 |.tu a=>.tu (AV.rP π a)
 |.cl c d a=>.cl c (AV.rP π d) (AV.rP π a)
def AV.rP(π:Nat->Nat):Do AV->Do AV
 |[]=>[]
 |c::a=>AV.hV π c::AV.rP π a
def AV.f_(p:Nat->In):AV->In
 |.un=>true
 |.v _=>true
 |.sl _ _ _=>true
 |.fp _=>true
 |.ow j=> !p j
 |.pt j _=> !p j
 |.pe j _ _ _=> !p j
 |.sw j _ _ _=> !p j
 |.mp j=> !p j
 |.ag a=>AV.mu p a
 |.tu a=>AV.mu p a
 |.cl _ b a=>AV.mu p b && AV.mu p a
def AV.mu(p:Nat->In):Do AV->In
 |[]=>true
 |c::a=>AV.f_ p c && AV.mu p a
end
def k6(π:Nat->Nat):∀a:Do AV,AV.rP π a=a.map (AV.hV π)
 |[]=>rfl
 |c::a=>by rw[AV.rP,k6 π a];rfl
def fg{p:Nat->In}:∀{a:Do AV},AV.mu p a=true->∀(j:Nat) c,a[j]? =some c->c.f_ p=true
 |[],_,j,c,h=>by simp at h
 |x::a,b,j,c,h=>by
  simp only[AV.mu,aup]at b;cases j with
  |zero=>simp at h;exact h▸b.1
  |succ j=>exact fg b.2 j c (by simpa using h)
def Ee{p:Nat->In}:∀{cs:Do AV},(∀c∈cs,c.f_ p=true)->AV.mu p cs=true
 |[],_=>rfl
 |x::cs,a=>by simp[AV.mu,a x d5,Ee (cs:=cs) λc b=>a c (by simp[b])]
def VR.hV{Rd:bF}{E:At Env}{c:AV}{u:Id}(h:VR Rd E c u){e e':Env}(m:E=some e)(π:Nat->Nat)(r:∀j,e'.bW (π j)=e.bW j)(K:∀j,e'.sv (π j)=e.sv j):
 VR Rd (some e') (c.hV π) u:=by
 have s:∀(g:Do AV) (a:bC),a.length=g.length->(∀(j:Nat) c u,g[j]? =some c->a[j]? =some u->VR Rd (some e') (c.hV π) u)->a.length=(AV.rP π g).length/\∀(j:Nat) c u,(AV.rP π g)[j]? =some c->a[j]? =some u->VR Rd (some e') c u:=by
  intro g a k p;rw[k6];refine⟨by simpa using k,λj c u d f=>?_⟩;rw[auM]at d;obtain⟨z,G,rfl⟩:=auY.1 d;exact p j z u G f
 induction h with
 |un=>exact .un
 |v=>exact .v
 |sl a L C k p d f F t q=>exact .sl a L C k p d f F t
 | @ow e0 j=>cases m;rw[<-K j];exact .ow
 | @pt e0 j o b h=>cases m;exact .pt (by rw[r j];exact h)
 | @pe e0 j i N o b h=>cases m;exact .pe (by rw[r j];exact h)
 | @sw e0 j l n N b o O h J d f=>cases m;exact .sw (by rw[r j];exact h) J d f
 |fp a k p t q=>exact .fp a k p t
 | @ag x g a k p q=>
  have:=s g a k λj c u d f=>q j c u d f m;exact .ag a this.1 this.2
 | @tu x g a k p q=>
  have:=s g a k λj c u d f=>q j c u d f m;exact .tu a this.1 this.2
 | @mp e0 j b h=>cases m;exact .mp (by rw[r j];exact h)
 | @cl x P A g a y k I p Q q M=>
  have d:=s A a k λj c u d f=>q j c u d f m;have f:=s g y I λj c u d f=>M j c u d f m;exact .cl a y d.1 f.1 d.2 f.2
def VR.CN{Rd:bF}(h:VR Rd P C g){e e':Env}(f:P=some e)(p:Nat->In)(d:C.f_ p=true)
 (s:∀j,p j=false->e'.bW j=e.bW j) (F:∀j,p j=false->e'.sv j=e.sv j):VR Rd (some e') C g:=by
 induction h with
 |un=>exact .un
 |v=>exact .v
 |sl m G y k r a c z t q=>exact .sl m G y k r a c z t
 | @ow e0 j=>
  cases f;rw[<-F j (by simpa[AV.f_]using d)];exact .ow
 | @pt e0 j o b h=>
  cases f;exact .pt (by rw[s j (by simpa[AV.f_]using d)];exact h)
 | @pe e0 j i J o b h=>
  cases f;exact .pe (by rw[s j (by simpa[AV.f_]using d)];exact h)
 | @sw e0 j l n J b o L h E a c=>
  cases f;exact .sw (by rw[s j (by simpa[AV.f_]using d)];exact h) E a c
 |fp m k r t q=>exact .fp m k r t
 | @ag u x m k r q=>exact .ag m k λj C g a c=>q j C g a c f (fg (by simpa[AV.f_]using d) j C a)
 | @tu u x m k r q=>exact .tu m k λj C g a c=>q j C g a c f (fg (by simpa[AV.f_]using d) j C a)
 | @mp e0 j b h=>
  cases f;exact .mp (by rw[s j (by simpa[AV.f_]using d)];exact h)
 | @cl u M N x m K k A r O q I=>
  simp only[AV.f_,aup]at d;exact .cl m K k A (λj C g a c=>q j C g a c f (fg d.1 j C a)) (λj C g a c=>I j C g a c f (fg d.2 j C a))
def AV.kj(p:Nat->In)(c:AV):AV:=if c.f_ p then c else .un
def Ob.kj(p:Nat->In):Ob->Ob
 |.box t a=>.box t (a.map (AV.kj p))
 |.arr t f c wr=>.arr t f c wr
 |.mp d b=>.mp d b
 |.nr t a=>.nr t (a.map (AV.kj p))
def gv(p:Nat->In):Hp->Hp
 |[]=>[]
 |(j,o)::h=>(j,if p j then none else o.map (Ob.kj p))::gv p h
def nB(p:Nat->In):Do (Nat×AV)->Do (Nat×AV)
 |[]=>[]
 |(j,c)::t=>(j,c.kj p)::nB p t
def mv(p:Nat->In)(c:AV):(c.kj p).f_ p=true:=by
 unfold AV.kj;split
 ·assumption
 ·rfl
def VR.kj{Rd:bF}{E:At Env}{c:AV}{u:Id}(h:VR Rd E c u)(p:Nat->In):VR Rd E (c.kj p) u:=by
 unfold AV.kj;split
 ·exact h
 ·exact .un
def kG(p:Nat->In):∀(t:Do (Nat×AV)) (j:Nat),bD (nB p t) j=(bD t j).kj p
 |[],_=>by simp[nB,bD,AV.kj,AV.f_]
 |(i,c)::t,j=>by
  simp only[nB,bD];split
  ·rfl
  ·exact kG p t j
def oT(p:Nat->In):∀(h:Hp) (j:Nat),aZ (gv p h) j=if p j then none else(aZ h j).map (Ob.kj p)
 |[],j=>by simp[gv,aZ]
 |(i,o)::h,j=>by
  simp only[gv,aZ];by_cases a:j=i
  ·subst a;simp
  ·simp only[a,avf];exact oT p h j
def Ob.hV(π:Nat->Nat):Ob->Ob
 |.box t a=>.box t (AV.rP π a)
 |.arr t f c wr=>.arr t f c wr
 |.mp d b=>.mp d b
 |.nr t a=>.nr t (AV.rP π a)
def kH(π:Nat->Nat):Hp->Hp
 |[]=>[]
 |(j,o)::h=>(π j,o.map (Ob.hV π))::kH π h
def Mn(π:Nat->Nat):Do (Nat×AV)->Do (Nat×AV)
 |[]=>[]
 |(j,c)::t=>(j,c.hV π)::Mn π t
def Mo(π:Nat->Nat):∀(t:Do (Nat×AV)) (j:Nat),bD (Mn π t) j=(bD t j).hV π
 |[],_=>by simp[Mn,bD,AV.hV]
 |(i,c)::t,j=>by
  simp only[Mn,bD];split
  ·rfl
  ·exact Mo π t j
def Mp(π:Nat->Nat)(b:∀i j,π i=π j->i=j):∀(h:Hp) (j:Nat),aZ (kH π h) (π j)=(aZ h j).map (Ob.hV π)
 |[],j=>by simp[kH,aZ]
 |(i,o)::h,j=>by
  simp only[kH,aZ];by_cases a:j=i
  ·subst a;simp
  ·have:¬π j=π i:=λc=>a (b _ _ c)
   simp only[a,this,avf];exact Mp π b h j
def db(h h':Hp)(k:Nat):aZ (h++h') k=if h.any (λp=>p.1==k)then aZ h k else aZ h' k:=by
 induction h with
 |nil=>simp
 |cons p h b=>
  obtain⟨i,o⟩:=p;simp only[avH,aZ,awd];by_cases a:k=i
  ·subst a;simp
  ·have:(i==k)=false:=by simp;exactλh=>a h.symm
   simp only[a,avf,this,ayj];exact b
def OR.hV{Rd:bF}{e e':Env}{w:GE}{k:Nat}{ob:Ob}(h:OR Rd e w k ob)(π:Nat->Nat)(f:∀j,e'.bW (π j)=e.bW j)(o:∀j,e'.sv (π j)=e.sv j)(r:∀j,e'.cP (π j)=e.cP j):
 OR Rd e' w (π k) (ob.hV π):=by
 cases ob with
 |box t n=>
  obtain⟨m,b,J,p,q,c⟩:=h;have E:=(VR.ag J c.1 c.2:VR Rd (some e) (.ag n) _).hV rfl π f o;obtain⟨x,I,G⟩:=VR.e5 (by simpa only[AV.hV]using E);have:x=J:=by
   have:=auA (λv=>match v with|.agg a=>a.toList|_=>[]) I;simpa using this.symm
  subst this;exact⟨by rw[r];exact m,b,x,by rw[f];exact p,q,G⟩
 |arr t P O wr=>
  obtain⟨m,p,q,c⟩:=h;refine⟨m,p,λM=>by rw[r];exact q M,?_⟩;rcases c with⟨g,i,l⟩|⟨b,C,u,g,i,l,y,z,A,s,K⟩
  ·exact .inl ⟨g,by rw[f];exact i,by rw[o];exact l⟩
  ·exact .inr ⟨b,C,u,by rw[f];exact g,by rw[o];exact i,l,y,z,A,s,by rw[r];exact K⟩
 |mp d N=>
  obtain⟨m,b,arr,L,p,q,c⟩:=h;exact⟨by rw[r];exact m,b,arr,L,by rw[f];exact p,q,c⟩
 |nr t n=>
  obtain⟨m,c⟩:=h;refine⟨by rw[r];exact m,?_⟩;have F:(AV.rP π n).length=n.length:=by rw[k6,auz]
  rcases c with⟨g,i,l⟩|⟨b,C,u,g,i,l,y,z,A,s⟩
  ·exact .inl ⟨by rw[g];rfl,by rw[f];exact i,by rw[o];exact l⟩
  ·have E:=(VR.ag _ s.1 s.2:VR Rd (some e) (.ag n) _).hV rfl π f o
   obtain⟨x,I,G⟩:=VR.e5 (by simpa only[AV.hV]using E);have:x=u.toList.take n.length:=by
    have:=auA (λv=>match v with|.agg a=>a.toList|_=>[]) I;simpa using this.symm
   subst this;exact .inr ⟨b,C,u,by rw[f];exact g,by rw[o,F];exact i,by rw[F];exact l,y,z,A,by rw[F];exact G⟩
def OR.CN{Rd:bF}{e e':Env}{w:GE}{k:Nat}{ob:Ob}(p:Nat->In)(h:OR Rd e w k ob)(a:p k=false)(g:∀j,p j=false->e'.bW j=e.bW j)(o:∀j,p j=false->e'.sv j=e.sv j)(x:e'.cP k=e.cP k):
 OR Rd e' w k (ob.kj p):=by
 cases ob with
 |box t L=>
  obtain⟨n,b,N,r,s,f⟩:=h;refine⟨by rw[x];exact n,b,N,by rw[g k a];exact r,s,by simpa using f.1,λj c u v I=>?_⟩;rw[auM]at v;obtain⟨q,G,rfl⟩:=auY.1 v;exact((f.2 j q u G I).kj p).CN rfl p (mv p q) g o
 |arr t Q P wr=>
  obtain⟨n,r,s,f⟩:=h;refine⟨n,r,λM=>by rw[x];exact s M,?_⟩;rcases f with⟨i,l,m⟩|⟨b,E,F,i,l,m,z,A,C,y,J⟩
  ·exact .inl ⟨i,by rw[g k a];exact l,by rw[o k a];exact m⟩
  ·exact .inr ⟨b,E,F,by rw[g k a];exact i,by rw[o k a];exact l,m,z,A,C,y,by rw[x];exact J⟩
 |mp d O=>
  obtain⟨n,b,arr,K,r,s,f⟩:=h;exact⟨by rw[x];exact n,b,arr,K,by rw[g k a];exact r,s,f⟩
 |nr t L=>
  obtain⟨n,f⟩:=h;refine⟨by rw[x];exact n,?_⟩;rcases f with⟨i,l,m⟩|⟨b,E,F,i,l,m,z,A,C,y⟩
  ·exact .inl ⟨by rw[i];rfl,by rw[g k a];exact l,by rw[o k a];exact m⟩
  ·refine .inr ⟨b,E,F,by rw[g k a];exact i,by rw[o k a,auz];exact l,by rw[auz];exact m,z,A,C,?_⟩
   rw[auz];refine⟨by simpa using y.1,λj c u v I=>?_⟩;rw[auM]at v;obtain⟨q,G,rfl⟩:=auY.1 v;exact((y.2 j q u G I).kj p).CN rfl p (mv p q) g o
def mg(B k:Nat):In:=Nat.ble B k && Nat.blt k (B+1000)
def VR.arP{Rd:bF}{e a:Env}(h:VR Rd (some e) C g)(p:Nat->In)(f:C.f_ p=true)(π:Nat->Nat)(d:∀j,p j=false->a.bW (π j)=e.bW j)(i:∀j,p j=false->a.sv (π j)=e.sv j):
 VR Rd (some a) (C.hV π) g:=by
 have c:=h.CN (e':=⟨λk=>a.bW (π k),λk=>a.sv (π k),e.cP⟩) rfl p f (λj b=>d j b) (λj b=>i j b);exact c.hV rfl π (λ_=>rfl) (λ_=>rfl)
def ji{p:Nat->In}(h:C.f_ p=true):C.kj p=C:=by simp[AV.kj,h]
def VR.nC{Rd:bF}{e e':Env}(π:Nat->Nat)(t:∀j,e'.bW j=e.bW (π j))(J:∀j,e'.sv j=e.sv (π j))(h:VR Rd P C g)(l:P=some e):∀{c:AV},C=c.hV π->VR Rd (some e') c g:=by
 have u:∀(s r:Do AV) (b:bC),s=AV.rP π r->b.length=s.length->(∀(j:Nat) c g,s[j]? =some c->b[j]? =some g->∀{y:AV},c=y.hV π->VR Rd (some e') y g)->b.length=r.length/\∀(j:Nat) c g,r[j]? =some c->b[j]? =some g->VR Rd (some e') c g:=by
  intro s r b z i a;rw[k6]at z;subst z;exact⟨by simpa using i,λj c g d f=>a j (c.hV π) g (by simp[d]) f rfl⟩
 induction h with
 |un=>intro c a;cases c<;>simp[AV.hV]at a;exact .un
 |v=>intro c a;cases c<;>simp[AV.hV]at a;subst a;exact .v
 |sl b K E i o d f F x n=>
  intro c a;cases c<;>simp[AV.hV]at a;obtain⟨rfl,rfl,rfl⟩:=a;exact .sl b K E i o d f F x
 | @ow e0 k=>
  intro c a;cases l;cases c<;>simp[AV.hV]at a;rename_i M;subst a;rw[<-J M];exact .ow
 |pt m=>
  intro c a;cases l;cases c<;>simp[AV.hV]at a;obtain⟨rfl,rfl⟩:=a;exact .pt ((t _).trans m)
 |pe m=>
  intro c a;cases l;cases c<;>simp[AV.hV]at a;obtain⟨rfl,rfl,rfl,rfl⟩:=a;exact .pe ((t _).trans m)
 |sw m I d f=>
  intro c a;cases l;cases c<;>simp[AV.hV]at a;obtain⟨rfl,rfl,rfl,rfl⟩:=a;exact .sw ((t _).trans m) I d f
 |fp b i o x n=>
  intro c a;cases c<;>simp[AV.hV]at a;subst a;exact .fp b i o x
 |ag b i o n=>
  intro c a;cases c<;>simp[AV.hV]at a;obtain⟨p,q⟩:=u _ _ b a i λj c g d f=>n j c g d f l;exact .ag b p q
 |tu b i o n=>
  intro c a;cases c<;>simp[AV.hV]at a;obtain⟨p,q⟩:=u _ _ b a i λj c g d f=>n j c g d f l;exact .tu b p q
 |mp m=>
  intro c a;cases l;cases c<;>simp[AV.hV]at a;subst a;exact .mp ((t _).trans m)
 |cl b A i G o Q n L=>
  intro c a;cases c<;>simp[AV.hV]at a;obtain⟨rfl,d,f⟩:=a;obtain⟨p,q⟩:=u _ _ b d i λj c g d f=>n j c g d f l;obtain⟨N,O⟩:=u _ _ A f G λj c g d f=>L j c g d f l;exact .cl b A p N q O
def OR.nC{Rd:bF}{e e':Env}{w:GE}{k:Nat}{ob:Ob}(π:Nat->Nat)(h:OR Rd e w (π k) (ob.hV π))(l:∀j,e'.bW j=e.bW (π j))(p:∀j,e'.sv j=e.sv (π j))(u:e'.cP k=e.cP (π k)):OR Rd e' w k ob:=by
 cases ob with
 |box t o=>
  obtain⟨n,b,G,r,s,i⟩:=h;refine⟨by rw[u];exact n,b,G,by rw[l];exact r,s,?_⟩;have:=(VR.ag G i.1 i.2:VR Rd (some e) (.ag _) _).nC π l p rfl (c:=.ag o) (by simp[AV.hV]);obtain⟨I,F,E⟩:=VR.e5 this;have:I=G:=by
   have:=auA (λv=>match v with|.agg a=>a.toList|_=>[]) F;simpa using this.symm
  subst this;exact E
 |arr t P O wr=>
  obtain⟨n,r,s,i⟩:=h;refine⟨n,r,λM=>by rw[u];exact s M,?_⟩;rcases i with⟨m,f,g⟩|⟨b,C,x,m,f,g,y,z,A,q,K⟩
  ·exact .inl ⟨m,by rw[l];exact f,by rw[p];exact g⟩
  ·exact .inr ⟨b,C,x,by rw[l];exact m,by rw[p];exact f,g,y,z,A,q,by rw[u];exact K⟩
 |mp d N=>
  obtain⟨n,b,arr,L,r,s,i⟩:=h;exact⟨by rw[u];exact n,b,arr,L,by rw[l];exact r,s,i⟩
 |nr t o=>
  obtain⟨n,i⟩:=h;refine⟨by rw[u];exact n,?_⟩;have J:(AV.rP π o).length=o.length:=by rw[k6,auz]
  rcases i with⟨m,f,g⟩|⟨b,C,x,m,f,g,y,z,A,q⟩
  ·exact .inl ⟨avq (by rw[<-J,m];rfl),by rw[l];exact f,by rw[p];exact g⟩
  ·rw[J]at f g q
   have:=(VR.ag _ q.1 q.2:VR Rd (some e) (.ag _) _).nC π l p rfl (c:=.ag o) (by simp[AV.hV]);obtain⟨I,F,E⟩:=VR.e5 this;have:I=x.toList.take o.length:=by
    have:=auA (λv=>match v with|.agg a=>a.toList|_=>[]) F;simpa using this.symm
   subst this;exact .inr ⟨b,C,x,by rw[l];exact m,by rw[p];exact f,g,y,z,A,E⟩
def pQ:bI->Nat->bX
 |[],_=>none
 |(p,c)::D,k=>cond (Nat.beq k p) (some c) (pQ D k)
def Rl:bI->Nat->bX
 |[],_=>none
 |(p,c)::D,k=>cond (Nat.beq k c) (some p) (Rl D k)
def ff(D:bI)(B k:Nat):Nat:=match pQ D k with
 |some c=>c
 |none=>B+k
def CP:a_->In
 |[]=>true
 |x::l=> !(l.any (Nat.beq x)) && CP l
def Hi(B:Nat)(D:bI):In:=D.all (λq=>Nat.ble 4294967296 q.1 && !mg B q.2) && CP (D.map (·.1)) && CP (D.map (·.2)) && Nat.ble (B+1000) 4294967296
def Hl(D:bI)(k:Nat):In:=Nat.blt k 1000||(pQ D k).isSome
def obX(D:bI):Ob->In
 |.box _ a=>AV.mu (λk=> !Hl D k) a
 |.nr _ a=>AV.mu (λk=> !Hl D k) a
 |_=>true
def mw(D:bI)(H:Hp):In:=H.all λp=>Hl D p.1 && (match p.2 with|some ob=>obX D ob|none=>true)
def my(D:bI):Hp:=D.map λq=>(q.2,none)
def JU(h:¬c=y):Nat.beq c y=false:=by
 cases a:Nat.beq c y with
 |false=>rfl
 |true=>exact absurd (auu a) h
def fx:∀{D:bI} {p c:Nat},pQ D p=some c->(p,c)∈D
 |[],p,c,h=>by cases h
 |(q,x)::D,p,c,h=>by
  simp only[pQ]at h;by_cases e:p=q
  ·subst e;rw[auX]at h;cases h;simp
  ·rw[JU e]at h;exact avt _ (fx h)
def abo:∀{l:a_} {x:Nat},CP (x::l)=true->x∉l:=λ{l x} h a=>by
 simp only[CP,aup,avC,List.any_eq_false]at h;exact h.1 x a (auX x)
def mz:∀{D:bI} {p c:Nat},CP (D.map (·.2))=true->(p,c)∈D->Rl D c=some p
 |[],p,c,_,h=>by cases h
 |(q,x)::D,p,c,a,h=>by
  simp only[Rl];rcases auT.1 h with h|h
  ·cases h;rw[auX];rfl
  ·have d:x∉D.map (·.2):=abo (by simpa using a)
   have b:¬c=x:=λe=>d (by rw[<-e];exact auD.2 ⟨_,h,rfl⟩);rw[JU b];exact mz (by simp only[auL,CP,aup]at a;exact a.2) h
def T7:∀{D:bI} {p c:Nat},Rl D c=some p->(p,c)∈D
 |[],p,c,h=>by cases h
 |(q,x)::D,p,c,h=>by
  simp only[Rl]at h;by_cases e:c=x
  ·subst e;rw[auX]at h;cases h;simp
  ·rw[JU e]at h;exact avt _ (T7 h)
def cB(D:bI)(B:Nat)(e:Env)(w:GE):Bs:=
 ⟨w,λb=>∃p c,pQ D p=some c/\e.bW c=some b,λk=>e.bW (ff D B k),λk=>e.sv (ff D B k),[]⟩
def Md(D:bI)(B:Nat)(w0:Bs)(Rd0:bF)(e:Env)(h:Hp)(w:GE)(b o:Nat)(u:Id):Prop:=bN w0 Rd0 e h w b o u/\¬(cB D B e w).hY b
def Env.pi(D:bI)(B:Nat)(e:Env):Env:=⟨λk=>e.bW (ff D B k),λk=>e.sv (ff D B k),λk=>e.cP (ff D B k)⟩
def Env.eb(D:bI)(B:Nat)(e e2:Env):Env:=
 ⟨λk=>if mg B k then e2.bW (k - B)else e.bW k,λk=>if mg B k then e2.sv (k - B)else e.sv k,
  λk=>if mg B k then e2.cP (k - B)else match Rl D k with
   |some p=>e2.cP p
   |none=>e.cP k⟩
def Handed(D:bI)(e:Env)(h:Hp):Prop:=∀p c,pQ D p=some c->(∃ob,aZ h c=some ob)/\e.cP c=0
section
variable{w0:Bs}{w w':GE}{Rd0:bF}{e e2:Env}{h H H0:Hp}{D:bI}{B:Nat}
def bN.kJ(t:Handed D e h)(f:bN w0 Rd0 e h w c y g)(m:∀p ob,aZ H0 p=some ob->∃a,pQ D p=some a/\∃b,aZ h a=some b):
 bN (cB D B e w) (Md D B w0 Rd0 e h w) (e.pi D B) H0 w c y g:=by
 have r:=f;obtain⟨j,s,k⟩:=r;refine⟨j,λn=>⟨f,n⟩,λp ob q d=>?_⟩;obtain⟨a,l,b,o⟩:=m p ob q;have i:ff D B p=a:=by simp[ff,l]
 simp only[Env.pi,i]at d⊢;exact k a b o d
def SR.Mq(b:SR w0 Rd0 e h w)(m:Handed D e h)(d:GT c y g):¬(cB D B e w).hY c:=by
 have n:=b.CM d;have f:=(b.kg.1 c y g (b.kg.2 _ _ _ d)).2;rintro(k|⟨p,a,j,i⟩)
 ·have:=awo w _ n.1
  simp only[cB]at k;simp only at this;omega
 ·obtain⟨⟨ob,l⟩,_⟩:=m p a j
  exact f (b.base a ob c l i).1
def SR.kJ(l:SR w0 Rd0 e h w)(y:Handed D e h)(q:Hi B D=true)
 (j:∀p ob,aZ H0 p=some ob->∃c d,pQ D p=some c/\aZ h c=some d/\∀Rd,OR Rd e w c d->OR Rd e w c (ob.hV (ff D B))):
 SR (cB D B e w) (Md D B w0 Rd0 e h w) (e.pi D B) H0 w:=by
 have E:∀p ob,aZ H0 p=some ob->∃c,pQ D p=some c/\∃d,aZ h c=some d:=λp ob g=>by
  obtain⟨c,d,a,b,_⟩:=j p ob g;exact⟨c,a,d,b⟩
 have m:∀{p c},pQ D p=some c->ff D B p=c:=λ{p c} f=>by simp[ff,f]
 refine⟨⟨rfl,rfl,rfl,auq _,λ_ _=>rfl,auq _⟩,⟨λb o u n=>⟨n.1.1,n.2⟩,λb o u x=>⟨l.CM x,l.Mq y x⟩⟩,λp ob g=>?_,λp ob b g i=>?_,λp J ob d b g I i t=>?_,λk _=>⟨rfl,rfl⟩⟩
 ·obtain⟨c,d,f,r,C⟩:=j p ob g
  have s:=C _ (l.ob c d r);have A:=m f;rw[<-A]at s;exact(OR.nC (ff D B) s (e':=e.pi D B) (λ_=>rfl) (λ_=>rfl) rfl).mono λb o u n=>n.kJ y E
 ·obtain⟨c,d,f,r,_⟩:=j p ob g
  simp only[Env.pi,m f]at i;exact⟨.inr ⟨p,c,f,i⟩,(l.base c d b r i).2⟩
 ·obtain⟨c,M,f,F,_⟩:=j p ob g
  obtain⟨L,N,v,G,_⟩:=j J d I;simp only[Env.pi,m f]at i;simp only[Env.pi,m v]at t;have:=l.inj _ _ _ _ _ F G i t;subst this;simp only[Hi,aup]at q;have K:=mz q.1.2 (fx f);have z:=mz q.1.2 (fx v);rw[K]at z;exact aut z
def SR.eb(J:SR w0 Rd0 e h w)(hp:Handed D e h)(hD:Hi B D=true)(y:SR (cB D B e w) (Md D B w0 Rd0 e h w) e2 H w')(A:mw D H=true):
 SR w0 Rd0 (e.eb D B e2) (kH (ff D B) H++(my D++gv (mg B) h)) w'/\
 (∀b o u,bN w0 Rd0 e h w b o u->bN w0 Rd0 (e.eb D B e2) (kH (ff D B) H++(my D++gv (mg B) h)) w' b o u)/\
 (∀b o u,bN (cB D B e w) (Md D B w0 Rd0 e h w) e2 H w' b o u->bN w0 Rd0 (e.eb D B e2) (kH (ff D B) H++(my D++gv (mg B) h)) w' b o u)/\
 (∀k,Hl D k=true->(e.eb D B e2).bW (ff D B k)=e2.bW k/\(e.eb D B e2).sv (ff D B k)=e2.sv k):=by
 have ag:=hD;simp only[Hi,aup,auO,avC]at ag;obtain⟨⟨⟨d1,d2⟩,d3⟩,d4⟩:=ag;have d4:B+1000<=4294967296:=auw d4;have M:∀p c,pQ D p=some c->4294967296<=p/\mg B c=false:=λp c l=>by
  have:=d1 _ (fx l);exact⟨auw this.1,this.2⟩
 have ar:∀p p' c,pQ D p=some c->pQ D p'=some c->p=p':=λp p' c W X=>by
  have r1:=mz d3 (fx W);have r2:=mz d3 (fx X);rw[r1]at r2;exact aut r2
 have fC:∀k,mg B k=true↔B<=k/\k<B+1000:=λk=>by simp[mg]
 have a4:∀k,k<1000->ff D B k=B+k:=λk a=>by
  unfold ff;cases l:pQ D k with
  |none=>rfl
  |some c=>have:=(M k c l).1;omega
 have R:∀p c,pQ D p=some c->ff D B p=c:=λp c l=>by simp[ff,l]
 have a6:∀k,k<1000->mg B (B+k)=true:=λk a=>(fC (B+k)).2 ⟨bv,bv⟩;have O:∀k,Hl D k=true->(e.eb D B e2).bW (ff D B k)=e2.bW k:=λk a=>by
  simp only[Hl,avm]at a;rcases a with a|a
  ·have a:k<1000:=auw a
   rw[a4 k a];simp[Env.eb,a6 k a]
  ·obtain⟨c,l⟩:=avS.1 a
   have:=y.rL k (M k c l).1;rw[this.1,R k c l];simp[Env.eb,(M k c l).2,cB,R k c l]
 have ak:∀k,Hl D k=true->(e.eb D B e2).sv (ff D B k)=e2.sv k:=λk a=>by
  simp only[Hl,avm]at a;rcases a with a|a
  ·have a:k<1000:=auw a
   rw[a4 k a];simp[Env.eb,a6 k a]
  ·obtain⟨c,l⟩:=avS.1 a
   have:=y.rL k (M k c l).1;rw[this.2,R k c l];simp[Env.eb,(M k c l).2,cB,R k c l]
 have aj:∀k,Hl D k=true->(e.eb D B e2).cP (ff D B k)=e2.cP k:=λk a=>by
  simp only[Hl,avm]at a;rcases a with a|a
  ·have a:k<1000:=auw a
   rw[a4 k a];simp[Env.eb,a6 k a]
  ·obtain⟨c,l⟩:=avS.1 a
   rw[R k c l];simp[Env.eb,(M k c l).2,mz d3 (fx l)]
 have Q:∀k,mg B k=false->(e.eb D B e2).bW k=e.bW k:=λk a=>by simp[Env.eb,a]
 have an:∀k,mg B k=false->(e.eb D B e2).sv k=e.sv k:=λk a=>by simp[Env.eb,a]
 have ae:∀k,mg B k=false->Rl D k=none->(e.eb D B e2).cP k=e.cP k:=λk a L=>by simp[Env.eb,a,L]
 have aD:∀k s,Hl D k=true->Hl D s=true->ff D B k=ff D B s->k=s:=by
  intro k s a r C;simp only[Hl,avm]at a r;rcases a with a|a
  ·have a:k<1000:=auw a
   rw[a4 k a]at C;rcases r with r|r
   ·have r:s<1000:=auw r
    rw[a4 s r]at C;omega
   ·obtain⟨c,l⟩:=avS.1 r
    rw[R s c l]at C;have:=(M s c l).2;rw[<-C,a6 k a]at this;cases this
  ·obtain⟨c,l⟩:=avS.1 a
   rw[R k c l]at C;rcases r with r|r
   ·have r:s<1000:=auw r
    rw[a4 s r]at C;have:=(M k c l).2;rw[C,a6 s r]at this;cases this
   ·obtain⟨c',ai⟩:=avS.1 r
    rw[R s c' ai]at C;subst C;exact ar _ _ _ l ai
 have ay:∀(H:Hp),mw D H=true->∀k ob,aZ H k=some ob->Hl D k=true/\obX D ob=true:=by
  intro H
  induction H with
  |nil=>intro _ k ob hh;simp[aZ]at hh
  |cons q H ih=>
   intro A k ob a;obtain⟨i,o⟩:=q;simp only[mw,avx,aup]at A;by_cases P:k=i
   ·subst P
    rw[bf]at a;subst a;exact⟨A.1.1,A.1.2⟩
   ·rw[bc P]at a
    exact ih (by simpa[mw]using A.2) k ob a
 have aC:∀(H:Hp),mw D H=true->∀k,(kH (ff D B) H).any (λq=>q.1==k)=true->∃j,Hl D j=true/\ff D B j=k/\aZ (kH (ff D B) H) k=(aZ H j).map (Ob.hV (ff D B)):=by
  intro H
  induction H with
  |nil=>intro _ k G;simp[kH]at G
  |cons q H ih=>
   intro A k G;obtain⟨i,o⟩:=q;simp only[mw,avx,aup]at A;simp only[kH,awd,avm,aw9]at G;by_cases P:ff D B i=k
   ·refine⟨i,A.1.1,P,?_⟩
    simp only[kH,aZ,P,au2]
   ·obtain⟨j,j1,j2,j3⟩:=ih (by simpa[mw]using A.2) k (G.resolve_left P)
    refine⟨j,j1,j2,?_⟩;have ax:¬j=i:=λe=>P (by rw[<-e];exact j2);have az:¬k=ff D B i:=λe=>P e.symm;simp only[kH,aZ,az,avf,ax,j3]
 have av:∀(D:bI) k,aZ (my D) k=none:=by
  intro D k
  induction D with
  |nil=>rfl
  |cons q D ih=>
   simp only[my,auL,aZ];split
   ·rfl
   ·exact ih
 have au:∀k,(my D).any (λq=>q.1==k)=false->Rl D k=none:=by
  intro k a;cases L:Rl D k with
  |none=>rfl
  |some p=>
   have:=T7 L;rw[List.any_eq_false]at a;exact absurd d5 (a (k,none) (auD.2 ⟨_,this,rfl⟩))
 have Z:∀k ob,aZ (kH (ff D B) H++(my D++gv (mg B) h)) k=some ob->(∃j f,Hl D j=true/\obX D f=true/\k=ff D B j/\aZ H j=some f/\ob=f.hV (ff D B))\/(mg B k=false/\Rl D k=none/\∃f,aZ h k=some f/\ob=f.kj (mg B)):=by
  intro k ob a;rw[db]at a;split at a
  ·rename_i G
   obtain⟨j,j1,j2,j3⟩:=aC H A k G;rw[j3]at a;obtain⟨f,n,rfl⟩:=auY.1 a;exact .inl ⟨j,f,j1,(ay H A j f n).2,j2.symm,n,rfl⟩
  ·rw[db]at a
   split at a
   ·rw[av]at a;cases a
   ·rename_i _ G
    have G:(my D).any (λq=>q.1==k)=false:=(Bool.not_eq_true _).mp G;rw[oT]at a;split at a
    ·cases a
    ·rename_i v
     obtain⟨f,n,rfl⟩:=auY.1 a;exact .inr ⟨by simpa using v,au k G,f,n,rfl⟩
 have af:∀b,(cB D B e w).hY b->w0.hY b:=by
  rintro b (m|⟨p,c,l,m⟩)
  ·exact J.ext.hY m
  ·obtain⟨⟨ob,F⟩,_⟩:=hp p c l
   exact(J.base c ob b F m).1
 have a7:∀k f b,Rl D k=none->aZ h k=some f->e.bW k=some b->¬(cB D B e w).hY b:=by
  rintro k f b L n m (Y|⟨p,c,l,ab⟩)
  ·have:=(J.base k f b n m).2
   simp only[cB]at Y;omega
  ·obtain⟨⟨ob,F⟩,_⟩:=hp p c l
   have:=J.inj _ _ _ _ _ n F m ab;subst this;rw[mz d3 (fx l)]at L;cases L
 have aw:∀b o u,bN w0 Rd0 e h w b o u->¬(cB D B e w).hY b:=by
  rintro b o u ⟨W,X,h3⟩ (Y|⟨p,c,l,ab⟩)
  ·have:=awo w _ W
   simp only[cB]at Y;simp only at this;omega
  ·obtain⟨⟨ob,F⟩,hl⟩:=hp p c l
   have:=h3 c ob F ab;omega
 have a5:∀b o u,bN w0 Rd0 e h w b o u->bN w0 Rd0 (e.eb D B e2) (kH (ff D B) H++(my D++gv (mg B) h)) w' b o u:=by
  rintro b o u L;have am:=aw b o u L;have aB:=L;obtain⟨W,X,h3⟩:=aB;refine⟨by rw[awM (w:=w) (y.ext.block b am)];exact W,X,λk ob a m=>?_⟩;rcases Z k ob a with⟨j,f,E,_,rfl,n,rfl⟩|⟨v,I,f,n,rfl⟩
  ·rw[O j E]at m
   exact absurd (y.base _ _ _ n m).1 am
  ·rw[Q k v]at m
   rw[ae k v I];exact h3 k f n m
 have ah:∀b o u,bN (cB D B e w) (Md D B w0 Rd0 e h w) e2 H w' b o u->bN w0 Rd0 (e.eb D B e2) (kH (ff D B) H++(my D++gv (mg B) h)) w' b o u:=by
  rintro b o u ⟨W,X,h3⟩;refine⟨W,λal=>(X λY=>al (af b Y)).1.2.1 al,λk ob a m=>?_⟩;rcases Z k ob a with⟨j,f,E,_,rfl,n,rfl⟩|⟨v,I,f,n,rfl⟩
  ·rw[O j E]at m
   rw[aj j E];exact h3 j f n m
  ·rw[Q k v]at m
   rw[ae k v I];exact(X (a7 k f b I n m)).1.2.2 k f n m
 refine⟨⟨?_,J.kg,λk ob a=>?_,λk ob b a m=>?_,λk s ob ap b a r m N=>?_,λk a=>?_⟩,a5,ah,λk a=>⟨O k a,ak k a⟩⟩
 ·exact J.ext.step y.ext.os y.ext.tape y.ext.output y.ext.size (λb m _=>y.ext.block b λY=>m (af b Y)) y.ext.drawn
 ·rcases Z k ob a with⟨j,f,E,hx,rfl,n,rfl⟩|⟨v,I,f,n,rfl⟩
  ·have F:=(y.ob j f n).mono ah
   have aA:OR (bN w0 Rd0 (e.eb D B e2) (kH (ff D B) H++(my D++gv (mg B) h)) w') ⟨λk=>(e.eb D B e2).bW (ff D B k),λk=>(e.eb D B e2).sv (ff D B k),λk=>(e.eb D B e2).cP (ff D B k)⟩ w' j f:=by
    have:=F.CN (e':=⟨λk=>(e.eb D B e2).bW (ff D B k),λk=>(e.eb D B e2).sv (ff D B k),λk=>(e.eb D B e2).cP (ff D B k)⟩) (λk=> !Hl D k) (by simpa using E)
     (λi K=>O i (by simpa using K)) (λi K=>ak i (by simpa using K)) (aj j E)
    have C:f.kj (λk=> !Hl D k)=f:=by
     cases f with
     |box t cs=>
      simp only[Ob.kj];refine auA (Ob.box t) ?_;rw[avi (g:=id),awe];intro c l;obtain⟨i,K,rfl⟩:=avc l;exact ji (fg hx i _ (auy K))
     |arr=>rfl
     |mp=>rfl
     |nr t cs=>
      simp only[Ob.kj];refine auA (Ob.nr t) ?_;rw[avi (g:=id),awe];intro c l;obtain⟨i,K,rfl⟩:=avc l;exact ji (fg hx i _ (auy K))
    rw[C]at this;exact this
   exact aA.hV (ff D B) (λ_=>rfl) (λ_=>rfl) (λ_=>rfl)
  ·refine OR.CN (mg B) (e:=e) ?_ v Q an (ae k v I)
   have x:=J.ob k f n;have hx:∀{b:Nat} {o:Obj},e.bW k=some b->w.heap[b]? =some o->w'.heap[b]? =some o:=λ{b o} m F=>(y.ext.block b (a7 k f b I n m)).trans F;cases f with
   |box t cs=>
    obtain⟨S,b,us,U,a2,z⟩:=x;exact⟨S,b,us,U,a2.ext (λo F=>hx U F),z.imp λ_ _ hv=>hv.mono a5⟩
   |arr t sz aE wr=>
    obtain⟨S,U,a2,z⟩:=x;refine⟨S,U,a2,?_⟩;rcases z with z|⟨b,a9,aa,b1,b2,b3,b4,b5,b6,b7,b8⟩
    ·exact .inl z
    ·exact .inr ⟨b,a9,aa,b1,b2,b3,b4,hx b1 b5,b6,b7.imp λ_ _ hv=>hv.mono a5,b8⟩
   |mp d es=>
    obtain⟨S,b,arr,aq,U,a2,z⟩:=x;exact⟨S,b,arr,aq,U,hx U a2,z.mono a5⟩
   |nr t cs=>
    obtain⟨S,z⟩:=x;refine⟨S,?_⟩;rcases z with z|⟨b,a9,aa,b1,b2,b3,b4,b5,b6,b7⟩
    ·exact .inl z
    ·exact .inr ⟨b,a9,aa,b1,b2,b3,b4,hx b1 b5,b6,b7.imp λ_ _ hv=>hv.mono a5⟩
 ·rcases Z k ob a with⟨j,f,E,_,rfl,n,rfl⟩|⟨v,I,f,n,rfl⟩
  ·rw[O j E]at m
   have:=y.base _ _ _ n m;exact⟨af b this.1,this.2⟩
  ·rw[Q k v]at m
   have:=J.base _ _ _ n m;exact⟨this.1,awq this.2 y.ext.size⟩
 ·rcases Z k ob a with⟨j,f,E,_,rfl,n,rfl⟩|⟨v,I,f,n,rfl⟩
  ·rw[O j E]at m
   rcases Z s ap r with⟨j',a8,ad,_,rfl,V,rfl⟩|⟨ac,ao,a8,V,rfl⟩
   ·rw[O j' ad]at N
    rw[y.inj _ _ _ _ _ n V m N]
   ·rw[Q s ac]at N
    exact absurd (y.base _ _ _ n m).1 (a7 s a8 b ao V N)
  ·rw[Q k v]at m
   rcases Z s ap r with⟨j',a8,ad,_,rfl,V,rfl⟩|⟨ac,ao,a8,V,rfl⟩
   ·rw[O j' ad]at N
    exact absurd (y.base _ _ _ V N).1 (a7 k f b I n m)
   ·rw[Q s ac]at N
    exact J.inj _ _ _ _ _ n V m N
 ·have v:mg B k=false:=by
   cases K:mg B k with
   |false=>rfl
   |true=>have:=(fC k).1 K;omega
  rw[Q k v,an k v];exact J.rL k a
end
variable{N:Code}{V:FuncId}{Z:a_}
def YT:bX->Fence
 |none=>Fence.wide
 |some l=>Fence.wide.inRound l
def Rr(r:bX)(f:FuncId):(YT r).fn f:=by cases r<;>trivial
def HM(r:bX):(YT r).depth=none:=by cases r<;>rfl
def Rs(P:Fd)(r:bX):Machine.fenced P (YT r)=Machine.fenced P Fence.wide:=by cases r<;>rfl
def Mr{r:bX}{n:Nat}{P:Fd}{c:dU}{w:GE}{R:Ending->GE->Prop}(h:Calls P V c w R):CallsIn (YT r) n P V c w R:=by
 cases r with
 |none=>exact ayk.2 h
 |some l=>exact(ayk.2 h).inRound l
def Rt{r:bX}{n:Nat}{P:Fd}{e:String}{d:dU}{w:GE}{R:Id->GE->Prop}(h:Rows P e d w R):RowsIn (YT r) n P e d w R:=λc cs _=>by
 obtain⟨v,g,f,s⟩:=h c cs;refine⟨v,g,f,?_⟩;rw[Rs];exact stepsIn_wide.2 s
def Ef:bp->a_
 |[]=>[]
 |o::l=>match o.dst with
  |some d=>d::Ef l
  |none=>Ef l
def HN{o:Oper}(d:o.dst=some c):∀{l:bp},o∈l->c∈Ef l:=by
 intro l
 induction l with
 |nil=>intro h;cases h
 |cons f l e=>
  intro h;unfold Ef;rcases auT.1 h with h|h
  ·subst h
   rw[d];exact aw_
  ·have:=e h
   split
   ·exact avt _ this
   ·exact this
def wrL:Code->a_
 |.region _ ops _=>Ef ops.toList
 |.seq a b=>wrL a++wrL b
 |.cond _ a b=>wrL a++wrL b
 |.block _ a=>wrL a
 |.loop a=>wrL a
 |.scope a=>wrL a
 |_=>[]
def Kp(l:a_)(a c:Act):Prop:=∀i,i∉l->c.tmps[i]? =a.tmps[i]?
def Kp.refl(l:a_)(a:Act):Kp l a a:=λ_ _=>rfl
def Kp.trans{l:a_}{a b c:Act}(h:Kp l a b)(k:Kp l b c):Kp l a c:=λi d=>(k i d).trans (h i d)
def Kp.mono{l m:a_}{a b:Act}(h:Kp l a b)(e:∀i,i∈l->i∈m):Kp m a b:=λi d=>h i λc=>d (e i c)
def Kp.left{l m:a_}{a b:Act}(h:Kp l a b):Kp (l++m) a b:=h.mono λi c=>ayl _ c
def Kp.right{l m:a_}{a b:Act}(h:Kp m a b):Kp (l++m) a b:=h.mono λi c=>aym _ c
def Kp.put{l:a_}{a:Act}{d:bX}{v:Id}(h:∀x,d=some x->x∈l):Kp l a (a.put d v):=λi c=>by
 cases d with
 |none=>rfl
 |some x=>
  have f:x≠i:=λe=>c (e▸h x rfl);simp only[Act.put];rw[axG f]
def jL(a:Act)(d:bX)(v:Id):(a.put d v).defers=a.defers:=by cases d<;>rfl
section
variable{P:Fd}{b:Frame}{a:Act}{k:Do Item}{cs:Do Frame}{w:GE}{Q:IO->Act->GE->Prop}{F:Fence}{n:Nat}
def Ms:step P (lone (b.atR a (.code (.scope N)::k)) cs w)=.next (lone (b.atR a (.code N:: .inScope N::k)) cs w):=
 step_lone_go (by simp[stepG,stepG.exec,Frame.atR])
def Hw:step P (lone (b.atR a (.inScope N::k)) cs w)=.next (lone (b.atR a k) cs w):=
 step_lone_go (by simp[stepG,stepG.exec,Frame.atR])
def uW(h:N.wpIn F n P (Exit.noGoto Q) a w):(Code.scope N).wpIn F n P Q a w:=by
 intro b k cs p j o;obtain⟨e,f,i,d,c⟩:=h b (.inScope N::k) cs p j o;have g:StepsIn (Machine.fenced P F) P (lone (b.atR a (.code (.scope N)::k)) cs w) (lone (b.atR a (.code N:: .inScope N::k)) cs w):=.one (fenced_calm j o rfl) Ms;cases e with
 |normal=>exact⟨.normal,f,i,d,.of_steps g (StepsIn.trans c (.one (fenced_calm j o rfl) Hw))⟩
 |exit id=>exact⟨.exit id,f,i,d,.of_steps g ⟨λs m=>c.1 s (by simp[exitTo,m]),λq m=>c.2 q (by simp[exitTo,m])⟩⟩
 |goto l=>exact d.elim
 |_=>exact⟨_,f,i,d,.of_steps g c⟩
end
section
variable{P:Fd}{ops:qZ}{r:bX}
def Mt{o:Oper}{a:Act}{next:Act->GE->Prop}{Q:IO->Act->GE->Prop}(g:∀d i,next d i->d.defers.length<=c)(j:∀x d i,Q x d i->x=.normal){res:Result Next}(h:o.upon P a next Q res):a.defers.length<=c:=by
 unfold Oper.upon at h;split at h
 ·have:=g _ _ h;rwa[jL]at this
 ·have:=g _ _ h;rwa[jL]at this
 ·have:=g _ _ h;rw[jL]at this;simp at this;omega
 ·obtain⟨e,m,q,f,_⟩:=h []
  cases e with
  |returned v=>have:=g _ _ f;rwa[jL]at this
  |panicked p=>cases j _ _ _ f
  |outgrown=>obtain⟨d,i,l⟩:=f;cases j _ _ _ l
 ·obtain⟨v,m,f,_⟩:=h default []
  have:=g _ _ f;rwa[jL]at this
 ·cases j _ _ _ h
 ·cases h
def C9{Q:IO->Act->GE->Prop}(d:∀x c e,Q x c e->x=.normal):¬LetsOut Q:=λ⟨a,w,h⟩=>by cases d _ _ _ h
def aob{o:Oper}{a:Act}{w:GE}{next:Act->GE->Prop}{Q:IO->Act->GE->Prop}(p:∀i e,next i e->i.defers.length<=a.defers.length)(l:∀x i e,Q x i e->x=.normal)(h:o.wp P a w next Q):
 o.wpIn (YT r) 0 P a w next Q:=by
 refine⟨λf _=>Rr r f,?_⟩;unfold Oper.wp at h;have q:o.semAt (YT r).round a.eval=execOp a.eval o:=by
  refine Oper.semAt_eq _ _ _ λc m=>?_;have s:(execOp a.eval o).run P w=((resolve a.eval c o.type).run P w).andThen λd e=>.ok (.defer d) e:=by
   unfold execOp;rw[m];simp only[auF,auJ]
  rw[s]at h;cases j:(resolve a.eval c o.type).run P w with
  |ok d e=>
   rw[j]at h;have:=p _ _ h;rw[jL]at this;simp at this;omega
  |halt x e=>
   rw[j]at h;cases x<;>first|exact h.elim|(cases l _ _ _ h)
 rw[q];generalize(execOp a.eval o).run P w=res at h;unfold Oper.upon at h;unfold Oper.uponIn;split at h
 ·exact h
 ·exact h
 ·exact h
 ·exact⟨λg=>by(rw[HM]at g;cases g),Mr h⟩
 ·exact⟨λg=>by(rw[HM]at g;cases g),Rt h⟩
 ·exact h
 ·exact h.elim
def wy{Q:IO->Act->GE->Prop}{m:Nat}(d:∀x c e,Q x c e->x=.normal/\c.defers.length<=m):∀(l:bp) (a:Act) (w:GE),wpList P ops Q l a w->a.defers.length<=m
 |[],a,w,h=>(d _ _ _ h).2
 |o::l,a,w,h=>by
  unfold wpList at h;split at h
  ·rcases h with h|⟨_,h⟩
   ·exact Mt (wy d l) (λx c e f=>(d x c e f).1) h
   ·exact absurd h (C9 λx c e f=>(d x c e f).1)
  ·have:=wy d l _ _ h
   rwa[jL]at this
def YU{F:Fence}{n:Nat}{o:Oper}{a:Act}{w:GE}{next m:Act->GE->Prop}{Q q:IO->Act->GE->Prop}(g:∀x j f,Q x j f->x=.normal)(h:o.wpIn F n P a w next Q)
 (d:∀(i:Act) (v:Id) (f:GE),i.tmps=a.tmps->a.defers.length<=i.defers.length->next (i.put o.dst v) f->m (i.put o.dst v) f):o.wpIn F n P a w m q:=by
 refine⟨h.1,?_⟩;have h:=h.2;generalize(o.semAt F.round a.eval).run P w=res at h;unfold Oper.uponIn at h⊢;split at h
 ·exact d _ _ _ rfl (auq _) h
 ·exact d _ _ _ rfl (auq _) h
 ·exact d {a with defers:=_::a.defers} _ _ rfl d5 h
 ·exact⟨h.1,h.2.mono λe p c=>by
   cases e with
   |returned v=>exact d _ _ _ rfl (auq _) c
   |panicked s=>cases g _ _ _ c
   |outgrown=>obtain⟨j,f,l⟩:=c;cases g _ _ _ l⟩
 ·exact⟨h.1,h.2.mono λv p c=>d _ _ _ rfl (auq _) c⟩
 ·exact⟨h.1,h.2.mono λe p c=>by
   cases e with
   |returned v=>exact d _ _ _ rfl (auq _) c
   |panicked s=>cases g _ _ _ c
   |outgrown=>obtain⟨j,f,l⟩:=c;cases g _ _ _ l⟩
 ·cases g _ _ _ h
 ·exact h.elim
def Eg{o:Oper}{a j:Act}{w:GE}{next p:Act->GE->Prop}{Q q:IO->Act->GE->Prop}(l:∀x e f,Q x e f->x=.normal)(z:∀e f,next e f->e.defers.length<=c)(u:∀d,o.dst=some d->d∈Z)
 (A:c<=a.defers.length) (y:Kp Z j a) (h:o.wp P a w next Q) (B:∀e f,next e f->c<=e.defers.length->Kp Z j e->p e f):o.wpIn (YT r) 0 P a w p q:=by
 have t:=aob (r:=r) (λe f g=>avl (z e f g) A) l h;refine YU l t λs v f C D g=>B _ _ g ?_ ?_
 ·rw[jL];omega
 ·intro i m
  rw[Kp.put (a:=s) (v:=v) u i m,C];exact y i m
def HO{F:Fence}{n:Nat}{o:Oper}{a:Act}{w:GE}{next m:Act->GE->Prop}{Q l:IO->Act->GE->Prop}(f:∀x a w,Q x a w->l x a w)(d:∀a w,next a w->m a w)(h:o.wpIn F n P a w next Q):o.wpIn F n P a w m l:=by
 refine⟨h.1,?_⟩;have h:=h.2;generalize(o.semAt F.round a.eval).run P w=res at h;unfold Oper.uponIn at h⊢;split at h
 ·exact d _ _ h
 ·exact d _ _ h
 ·exact d _ _ h
 ·exact⟨h.1,h.2.mono λe p c=>by
   cases e with
   |returned v=>exact d _ _ c
   |panicked q=>exact f _ _ _ c
   |outgrown=>obtain⟨g,j,i⟩:=c;exact⟨g,j,f _ _ _ i⟩⟩
 ·exact⟨h.1,h.2.mono λv p c=>d _ _ c⟩
 ·exact⟨h.1,h.2.mono λe p c=>by
   cases e with
   |returned v=>exact d _ _ c
   |panicked q=>exact f _ _ _ c
   |outgrown=>obtain⟨g,j,i⟩:=c;exact⟨g,j,f _ _ _ i⟩⟩
 ·exact f _ _ _ h
 ·exact h.elim
def Ar{Q:IO->Act->GE->Prop}{m:Nat}(g:∀x c e,Q x c e->x=.normal/\c.defers.length<=m){l0:a_}{a0:Act}:∀(l:bp) (a:Act) (w:GE),(∀o∈l,∀d,o.dst=some d->d∈l0)->m<=a.defers.length->Kp l0 a0 a->wpList P ops Q l a w->
 wpListIn (YT r) 0 P ops (λx c e=>Q x c e/\Kp l0 a0 c) l a w
 |[],a,w,_,_,j,h=>⟨h,j⟩
 |o::l,a,w,p,v,j,h=>by
  unfold wpList at h;unfold wpListIn;have u:∀x,o.dst=some x->x∈l0:=λx A=>p o d5 x A;split at h
  ·rename_i s
   rw[auo s];rcases h with h|⟨_,h⟩
   ·exact Eg (λx c e i=>(g x c e i).1) (wy g l) u v j h λc e i z y=>Ar g l c e (λt q=>p t (by simp[q])) z y i
   ·exact absurd h (C9 λx c e i=>(g x c e i).1)
  ·rename_i s
   rw[aun s];exact⟨λf _=>Rr r f,Ar g l _ w (λt q=>p t (by simp[q])) (by rw[jL];exact v) (j.trans (Kp.put u)) h⟩
def oe{F:Fence}{n:Nat}{Q e:IO->Act->GE->Prop}(c:∀x a w,Q x a w->e x a w):∀(l:bp) (a:Act) (w:GE),wpListIn F n P ops Q l a w->wpListIn F n P ops e l a w
 |[],a,w,h=>c _ _ _ h
 |o::l,a,w,h=>by
  unfold wpListIn at h⊢;split at h
  ·rename_i d
   rw[auo d];exact HO c (λa w f=>oe c l a w f) h
  ·rename_i d
   rw[aun d];exact⟨h.1,oe c l _ _ h.2⟩
def l3{F:Fence}{n:Nat}{m:Region.Mode}{Q l:IO->Act->GE->Prop}(e:∀x a w,Q x a w->l x a w):∀(d:Nat) (j:Array In) (a:Act) (w:GE),wpAnyIn F n P m ops Q d j a w->wpAnyIn F n P m ops l d j a w
 |0,_,a,w,h=>⟨h.1,e _ _ _ h.2⟩
 |d+1,j,a,w,h=>by
  refine⟨λs=>e _ _ _ (h.1 s),λi q=>?_⟩;have c:=h.2 i q;unfold wpOpIn at c⊢;split
  ·rename_i f
   rw[f]at c;exact l3 e d _ a w c
  ·rename_i o f
   rw[f]at c;simp only at c;split at c
   ·rename_i g
    rw[auo g];exact HO e (λa w p=>l3 e d _ a w p) c
   ·rename_i g
    rw[aun g];exact⟨c.1,l3 e d _ _ _ c.2⟩
def uh{p:Region.Mode}{Q:IO->Act->GE->Prop}{m:Nat}(d:∀x e g,Q x e g->x=.normal/\e.defers.length<=m):∀(f:Nat) (l:Array In) (a:Act) (w:GE),wpAny P p ops Q f l a w->a.defers.length<=m
 |0,_,a,w,h=>(d _ _ _ h.2).2
 |f+1,l,a,w,h=>by
  obtain⟨q,s⟩:=h;cases o:Region.ready p ops l with
  |nil=>exact(d _ _ _ (q o)).2
  |cons i t=>
   have c:=s i (by rw[o];simp);unfold wpOp at c;split at c
   ·exact uh d f _ _ _ c
   ·split at c
    ·rcases c with c|⟨_,c⟩
     ·exact Mt (uh d f _) (λx e g j=>(d x e g j).1) c
     ·exact absurd c (C9 λx e g j=>(d x e g j).1)
    ·have:=uh d f _ _ _ c
     rwa[jL]at this
def xp{z:Region.Mode}{Q:IO->Act->GE->Prop}{m:Nat}(l:∀x c g,Q x c g->x=.normal/\c.defers.length<=m){l0:a_}{a0:Act}(q:∀(i:Nat) o,ops[i]? =some o->∀d,o.dst=some d->d∈l0):∀(j:Nat) (y:Array In) (a:Act) (w:GE),m<=a.defers.length->Kp l0 a0 a->wpAny P z ops Q j y a w->
 wpAnyIn (YT r) 0 P z ops (λx c g=>Q x c g/\Kp l0 a0 c) j y a w
 |0,_,a,w,_,p,h=>⟨h.1,h.2,p⟩
 |j+1,y,a,w,u,p,h=>by
  obtain⟨A,B⟩:=h;refine⟨λG=>⟨A G,p⟩,λi C=>?_⟩;have e:=B i C;unfold wpOp at e;unfold wpOpIn;split at e
  ·rename_i t
   rw[t];exact xp l q j _ a w u p e
  ·rename_i o t
   rw[t];simp only;split at e
   ·rename_i v
    rw[auo v];rcases e with e|⟨_,e⟩
    ·exact Eg (λx c g s=>(l x c g s).1) (uh l j _) (q i o t) u p e λc g s E D=>xp l q j _ c g E D s
    ·exact absurd e (C9 λx c g s=>(l x c g s).1)
   ·rename_i v
    rw[aun v];exact⟨λf _=>Rr r f,xp l q j _ _ w (by rw[jL];exact u) (p.trans (Kp.put (q i o t))) e⟩
end
variable{Y:St}{R:qZ}
def Enters(P:Fd)(f:FuncId):Prop:=∃a,P.funcs[f]? =some a/\(a.name== "runtime.NumGoroutine")=false/\a.body.isNone=false
def BG(P:Fd)(f:FuncId)(b:Hp)(h:Do AV)(H:Hp)(r:AV):Prop:=
 Enters P f/\∀B Rd e w c,SR B Rd e b w->LR (VR (bN B Rd e b w) (some e)) h c->Calls P f c.toArray w λx g=>∃v a,x=.returned v/\SR B Rd a H g/\VR (bN B Rd a H g) (some a) r v
section
variable{P:Fd}{st:St}{d:Nat}{ty:EQ}{pos:String}{af:dm}{gd:fH}{K:St->Prop}
def fK(h:Enters P V)(a:dU)(w:GE):(callFunc V a).run P w=.ok (.enter V a) w:=by
 obtain⟨b,c,e,g⟩:=h;have f:¬(b.name== "runtime.NumGoroutine")=true:=by rw[e];simp
 have i:¬b.body.isNone=true:=by rw[g];simp
 simp only[callFunc,auF];have:(program).run P w=.ok P w:=rfl;rw[this];simp only[auG,c];rw[aun f,aun i];rfl
mutual
def AV.pu:AV->In
 |.un=>true
 |.v _=>true
 |.sl _ _ c=>c.isEmpty
 |.ow _=>true
 |.pt _ _=>true
 |.pe _ _ _ _=>true
 |.sw _ _ _ _=>true
 |.fp _=>false
 |.mp _=>true
 |.ag a=>AV.Hm a
 |.tu a=>AV.Hm a
 |.cl _ b a=>AV.Hm b && AV.Hm a
def AV.Hm:Do AV->In
 |[]=>true
 |c::a=>AV.pu c && AV.Hm a
end
def pR:∀{a:Do AV},AV.Hm a=true->∀(j:Nat) c,a[j]? =some c->c.pu=true
 |[],_,j,c,h=>by simp at h
 |x::a,b,j,c,h=>by
  simp only[AV.Hm,aup]at b;cases j with
  |zero=>simp at h;exact h▸b.1
  |succ j=>exact pR b.2 j c (by simpa using h)
def VR.pure{Rd m:bF}{E:At Env}(h:VR Rd E C g)(f:C.pu=true):VR m E C g:=by
 induction h with
 |un=>exact .un
 |v=>exact .v
 | @sl E tight D u a x i B y e l b c n z k=>
  have q:u=[]:=by simpa[AV.pu]using f
  subst q;have r:i=[]:=by simpa using e
  subst r;exact .sl (rows:=[]) [] d5 d5 rfl d5 b c n d5
 |ow=>exact .ow
 |pt h=>exact .pt h
 |pe h=>exact .pe h
 |sw h p b c=>exact .sw h p b c
 |fp=>simp[AV.pu]at f
 |ag i e l k=>exact .ag i e λj C g b c=>k j C g b c (pR (by simpa[AV.pu]using f) j C b)
 |tu i e l k=>exact .tu i e λj C g b c=>k j C g b c (pR (by simpa[AV.pu]using f) j C b)
 |mp h=>exact .mp h
 |cl i w e o l A k s=>
  simp only[AV.pu,aup]at f;exact .cl i w e o (λj C g b c=>k j C g b c (pR f.1 j C b)) (λj C g b c=>s j C g b c (pR f.2 j C b))
def aoc:Ob->Prop
 |.box _ a=>AV.Hm a=true
 |.arr _ _ e _=>∀c∈e.flatten,c.pu=true
 |.mp _ b=>∀p∈b,p.2.pu=true
 |.nr _ a=>AV.Hm a=true
def OR.pure{Rd E:bF}{e:Env}{w:GE}{k:Nat}{ob:Ob}(h:OR Rd e w k ob)(p:aoc ob):OR E e w k ob:=by
 cases ob with
 |box t H=>
  obtain⟨g,b,I,l,n,a⟩:=h;exact⟨g,b,I,l,n,a.1,λj c u f o=>(a.2 j c u f o).pure (pR p j c f)⟩
 |arr t M L wr=>
  obtain⟨g,l,n,a⟩:=h;refine⟨g,l,n,?_⟩;rcases a with a|⟨b,A,B,q,r,s,v,y,z,i,F⟩
  ·exact .inl a
  ·exact .inr ⟨b,A,B,q,r,s,v,y,z,⟨i.1,λj c u f o=>(i.2 j c u f o).pure (p c (auI f))⟩,F⟩
 |mp d J=>
  obtain⟨g,b,arr,G,l,n,a⟩:=h;exact⟨g,b,arr,G,l,n,a.len,λj x m C D=>⟨(a.key j x m C D).1,(a.key j x m C D).2.pure (p x (auI C))⟩,a.isk,a.ky,a.Rk,a.clk⟩
 |nr t H=>
  obtain⟨g,a⟩:=h;refine⟨g,?_⟩;rcases a with a|⟨b,A,B,q,r,s,v,y,z,i⟩
  ·exact .inl a
  ·exact .inr ⟨b,A,B,q,r,s,v,y,z,⟨i.1,λj c u f o=>(i.2 j c u f o).pure (pR p j c f)⟩⟩
def ali(H:Hp):Prop:=∀k ob,aZ H k=some ob->aoc ob
def SR.pure{B:Bs}{Rd b:bF}{e:Env}{H:Hp}{w:GE}(h:SR B b e H w)(f:ali H)(c:Good Rd B):SR B Rd e H w:=
 ⟨h.ext,c,λk ob a=>(h.ob k ob a).pure (f k ob a),h.base,h.inj,h.rL⟩
def T8(st:St)(D:bI)(B:Nat)(f j:Hp)(k l:Do AV):Prop:=
 ∀g b e w i,SR g b e st.h w->LR (VR (bN g b e st.h w) (some e)) l i->
  ∃a,od g b e st.h w a f/\Handed D a f/\
   (∀p ob,aZ j p=some ob->∃c h,pQ D p=some c/\aZ f c=some h/\∀Rd,OR Rd a w c h->OR Rd a w c (ob.hV (ff D B)))/\
   LR (VR (bN g b a f w) (some a)) (k.map (AV.hV (ff D B))) i
def RB(D:bI)(B:Nat)(e:Env)(w:GE)(b o:Nat)(u:Id):Prop:=w.cell? ⟨b,o,none⟩=some u/\¬(cB D B e w).hY b
def Ru(st:St)(D:bI)(B:Nat)(g:Hp)(h i:Do AV):Prop:=
 ∀f a e w b,SR f a e st.h w->LR (VR (bN f a e st.h w) (some e)) i b->
  Handed D e st.h/\(∀p ob,aZ g p=some ob->∃c j,pQ D p=some c/\aZ st.h c=some j/\OR (RB D B e w) e w c (ob.hV (ff D B)))/\
   LR (VR (RB D B e w) (some e)) (h.map (AV.hV (ff D B))) b
def Ga.args(a:Ga H h v st D J)(args:gp):LR (VR (bN H h v st.h J) (some v)) (args.toList.map st.ev) (args.toList.map D.eval):=by
 refine⟨d5,λj c u e b=>?_⟩;rw[auM]at e b;obtain⟨x,f,rfl⟩:=auY.1 e;rw[f]at b;simp at b;subst b;exact a.ev x
def Rv(c:Enters P V){a:gp}{e:hX}:
 (execOp D.eval ⟨some d,.call ⟨.value (.func V),a,e⟩,ty,pos,af,gd⟩).run P J=.ok (.enter V (a.toList.map D.eval).toArray) J:=by
 have:=fK c (a.map D.eval) J;have b:(a.toList.map D.eval).toArray=a.map D.eval:=by rw[<-av5]
 rw[b];simpa[execOp,resolve,Act.eval,Deferred.ofValue,invoke]using this
def JV(P:Fd)(o:Oper)(st:St)(f:FuncId)(i:Do AV):Prop:=
 Enters P f->∀h b e a w,Ga h b e st a w->∃c,LR (VR (bN h b e st.h w) (some e)) i c/\∀g,(execOp a.eval o).run P g=.ok (.enter f c.toArray) g
def JV.func{f:FuncId}{args:gp}{ts:hX}:JV P ⟨some d,.call ⟨.value (.func f),args,ts⟩,ty,pos,af,gd⟩ st f (args.toList.map st.ev):=λb i c e a w h=>
 ⟨_,h.args args,λg=>Rv b⟩
def Eh{x:If}{args:gp}{ts:hX}{a:Act}{w:GE}{us xs:bC}(h:Enters P V)(c:a.eval x=.func (.func V) us.toArray xs.toArray):
 (execOp a.eval ⟨some d,.call ⟨.value x,args,ts⟩,ty,pos,af,gd⟩).run P w=.ok (.enter V (us++args.toList.map a.eval++xs).toArray) w:=by
 have:=fK h (us.toArray++args.map a.eval++xs.toArray) w;have b:(us++args.toList.map a.eval++xs).toArray=us.toArray++args.map a.eval++xs.toArray:=by
  rw[<-axH];simp
 rw[b];simpa[execOp,resolve,c,Deferred.ofValue,invoke]using this
def JV.val{f:FuncId}{args:gp}{ts:hX}(g:st.ev B=.v (.func (.func f) #[] #[])):JV P ⟨some d,.call ⟨.value B,args,ts⟩,ty,pos,af,gd⟩ st f (args.toList.map st.ev):=λc k j e a w h=>by
 refine⟨_,h.args args,λi=>?_⟩;have b:=h.ev B;rw[g]at b;have:=Eh (P:=P) (d:=d) (ty:=ty) (pos:=pos) (af:=af) (gd:=gd) (x:=B) (args:=args) (ts:=ts) (a:=a) (w:=i) (us:=[]) (xs:=[]) c b.bL;simpa using this
def JV.cl{x:If}{f:FuncId}{args:gp}{ts:hX}{fs cs:Do AV}(m:st.ev x=.cl (.func f) fs cs):JV P ⟨some d,.call ⟨.value x,args,ts⟩,ty,pos,af,gd⟩ st f (fs++args.toList.map st.ev++cs):=λj q n e a w h=>by
 have b:=h.ev x;rw[m]at b;generalize c:a.eval x=u at b;cases b with
 |cl o r k l g i=>
  exact⟨_,(LR.append ⟨k,g⟩ (h.args args)).append ⟨l,i⟩,λp=>Eh j c⟩
def LR.nC{Rd a:bF}{e:Env}{D:bI}{B:Nat}{f:Do AV}{g:bC}(h:LR (VR Rd (some e)) (f.map (AV.hV (ff D B))) g)(i:∀b o u,Rd b o u->a b o u):LR (VR a (some (e.pi D B))) f g:=
 ⟨by simpa using h.1,λj c u k l=>((h.2 j (c.hV (ff D B)) u (by simp[k]) l).mono i).nC (ff D B) (e':=e.pi D B) (λ_=>rfl) (λ_=>rfl) rfl rfl⟩
def Ga.back{e l:Env}{w m:GE}{a:bI}(f:Ga H h e st D w)(r:Handed a e st.h)(n:Hi c a=true)(s:SR (cB a c e w) (Md a c H h e st.h w) l L m)
 (u:VR (bN (cB a c e w) (Md a c H h e st.h w) l L m) (some l) C g) (o:mw a L=true) (q:C.f_ (λk=> !Hl a k)=true) (p:d<st.n):
 Ga H h (e.eb a c l) ⟨st.n,(d,C.hV (ff a c))::nB (mg c) st.t,kH (ff a c) L++(my a++gv (mg c) st.h)⟩ (D.put (some d) g) m:=by
 obtain⟨j1,j2,j3,j4⟩:=SR.eb f.sr r n s o;refine⟨by simpa[Act.put]using f.n,f.d,j1,TR.put (λi=>?_) (by rw[f.n.1];exact p) ?_⟩
 ·rw[kG]
  exact((((f.tr i).mono j2).kj _).CN rfl (mg c) (mv _ _) (λj b=>by simp[Env.eb,b]) (λj b=>by simp[Env.eb,b]))
 ·exact(u.mono j3).arP _ q (ff a c) (λj b=>(j4 j (by simpa using b)).1) (λj b=>(j4 j (by simpa using b)).2)
def SS.aod{op:Op}{D:bI}{m g H:Hp}{j:Do AV}(s:BG P V g j H C)(I:JV P ⟨some d,op,ty,pos,af,gd⟩ st V A)(J:T8 st D (1000*(d+1)) m g j A)(q:Hi (1000*(d+1)) D=true)(B:mw D H=true)(M:C.f_ (λk=> !Hl D k)=true)(G:d<st.n)
 (E:K ⟨st.n,(d,C.hV (ff D (1000*(d+1))))::nB (mg (1000*(d+1))) st.t,kH (ff D (1000*(d+1))) H++(my D++gv (mg (1000*(d+1))) m)⟩):SS P ⟨some d,op,ty,pos,af,gd⟩ st K:=by
 intro z i e a w next Q h N
 obtain⟨us,W,R⟩:=I s.1 z i e a w h;obtain⟨e1,l,f,r,X⟩:=J z i e w _ h.sr W;have n:=h.cP l;have S:=n.sr.kJ f q r;have F:=s.2 _ _ _ w us S (X.nC λb o u L=>L.kJ f λp ob O=>by
  obtain⟨c,a0,x,y,_⟩:=r p ob O;exact⟨c,x,a0,y⟩)
 unfold Oper.wp;rw[R w];show Calls P V _ w _;refine F.mono λx w' Z=>?_;obtain⟨v,e2,rfl,U,Y⟩:=Z;exact N _ E _ _ _ (n.back f q U Y B M G)
def SS.T9{op:Op}{D:bI}{q H:Hp}{E:Do AV}(M:BG P V q E H C)(a5:C.pu=true)(a3:ali H)(Y:JV P ⟨some d,op,ty,pos,af,gd⟩ st V A)(j:Ru st D (1000*(d+1)) q E A)(r:Hi (1000*(d+1)) D=true)(S:mw D H=true)(hn:C.f_ (λk=> !Hl D k)=true)(X:d<st.n)
 (U:K ⟨st.n,(d,C.hV (ff D (1000*(d+1))))::nB (mg (1000*(d+1))) st.t,kH (ff D (1000*(d+1))) H++(my D++gv (mg (1000*(d+1))) st.h)⟩):SS P ⟨some d,op,ty,pos,af,gd⟩ st K:=by
 intro O B e a w next Q h a0
 obtain⟨us,a8,a6⟩:=Y M.1 O B e a w h;obtain⟨z,m,hv⟩:=j O B e w _ h.sr a8;have Z:Good (RB D (1000*(d+1)) e w) (cB D (1000*(d+1)) e w):=⟨λb o u i=>i,λb o u j=>⟨(h.sr.CM j).1,h.sr.Mq z j⟩⟩;have F:∀b o u,RB D (1000*(d+1)) e w b o u->bN (cB D (1000*(d+1)) e w) (RB D (1000*(d+1)) e w) (e.pi D (1000*(d+1))) q w b o u:=λb o u i=>⟨i.1,λ_=>i,λp ob l g=>by
  obtain⟨c,n,x,y,_⟩:=m p ob l;refine absurd (.inr ⟨p,c,x,?_⟩) i.2;have R:ff D (1000*(d+1)) p=c:=by simp[ff,x]
  simpa only[Env.pi,R]using g⟩
 have s:∀{p c},pQ D p=some c->ff D (1000*(d+1)) p=c:=λ{p c} f=>by simp[ff,f]
 have hs:SR (cB D (1000*(d+1)) e w) (RB D (1000*(d+1)) e w) (e.pi D (1000*(d+1))) q w:=by
  refine⟨⟨rfl,rfl,rfl,auq _,λ_ _=>rfl,auq _⟩,Z,λp ob l=>?_,λp ob b l g=>?_,λp p' ob n b l a4 g G=>?_,λk _=>⟨rfl,rfl⟩⟩
  ·obtain⟨c,n,f,L,J⟩:=m p ob l
   rw[<-s f]at J;exact(OR.nC (ff D (1000*(d+1))) J (e':=e.pi D (1000*(d+1))) (λ_=>rfl) (λ_=>rfl) rfl).mono F
  ·obtain⟨c,n,f,L,_⟩:=m p ob l
   simp only[Env.pi,s f]at g;exact⟨.inr ⟨p,c,f,g⟩,(h.sr.base c n b L g).2⟩
  ·obtain⟨c,aa,f,a1,_⟩:=m p ob l
   obtain⟨c',ab,I,a2,_⟩:=m p' n a4;simp only[Env.pi,s f]at g;simp only[Env.pi,s I]at G;have:=h.sr.inj _ _ _ _ _ a1 a2 g G;subst this;simp only[Hi,aup]at r;have r1:=mz r.1.2 (fx f);have N:=mz r.1.2 (fx I);rw[r1]at N;exact aut N
 have W:=M.2 _ _ _ w us hs (hv.nC F);unfold Oper.wp;rw[a6 w];show Calls P V _ w _;refine W.mono λx w' hx=>?_;obtain⟨v,e2,rfl,a7,a9⟩:=hx;exact a0 _ U _ _ _ (h.back z r (a7.pure a3 ⟨λb o u i=>⟨i.1.1,i.2⟩,λb o u j=>⟨h.sr.CM j,h.sr.Mq z j⟩⟩) (a9.pure a5) S hn X)
def GS(P:Fd)(j:qZ)(o:Oper)(st:St)(K:St->Prop):Prop:=
 ∀h b e a w next Q,Ga h b e st a w->(∀f,K f->∀i c g,Ga h b i f c g->next c g)->
  if Region.wanted o (yielded j a.tmps)then o.wp P a w next Q else next (a.put o.dst undef) w
def GS.plain(c:F.guard=none)(h:SS P F st K):GS P R F st K:=by
 intro i b e a w next Q f g
 rw[auo (by simp[Region.wanted,c])];exact h i b e a w next Q f g
def Ga.yielded{f:qZ}{n:Bs}{g:bF}{e:Env}{a:Act}{w:GE}(h:Ga n g e st a w){j s:Nat}{b:In}(k:(f[j]?).bind (·.dst)=some s)(l:s<st.n)(m:bD st.t s=.v (.bool b)):yielded f a.tmps j=some b:=by
 have:=h.tr s;rw[m]at this;have:=this.bL;have c:s<a.tmps.size:=by rw[h.n.1];exact l
 have i:a.tmps[s]? =some (.bool b):=by
  rw[avb c];simp[avA,avb c]at this;rw[this]
 unfold Go.yielded;rw[k];simp[i]
def GS.taken(g:F.guard=some (c,G))(i:(R[c]?).bind (·.dst)=some y)(k:y<st.n)(l:bD st.t y=.v (.bool G))(h:SS P F st K):GS P R F st K:=by
 intro m f e a w next Q b j
 rw[auo (by simp[Region.wanted,g,b.yielded i k l])];exact h m f e a w next Q b j
def GS.left{g:Op}{b c:In}(k:gd=some (y,b))(l:(R[y]?).bind (·.dst)=some X)(n:X<st.n)(o:bD st.t X=.v (.bool c))(i:(c==b)=false)(j:∀d,I=some d->d<st.n)
 (h:K ⟨st.n,match I with|some d=>(d,.v undef)::st.t|none=>st.t,st.h⟩):GS P R ⟨I,g,ty,pos,af,gd⟩ st K:=by
 intro r q e a w next Q f m
 have p:¬Region.wanted (⟨I,g,ty,pos,af,gd⟩:Oper) (Go.yielded R a.tmps)=true:=by
  simp only[Region.wanted,k,f.yielded l n o];simpa using i
 rw[aun p];refine m _ h e _ _ ?_;cases I with
 |none=>exact f
 |some d=>exact f.put (j d rfl) .v
def GS.akp{h:Op}{b:In}(l:gd=some (c,b))(m:(R[c]?).bind (·.dst)=some y)(o:y<st.n)(p:bD st.t y=.v undef)(k:∀d,I=some d->d<st.n)
 (j:K ⟨st.n,match I with|some d=>(d,.v undef)::st.t|none=>st.t,st.h⟩):GS P R ⟨I,h,ty,pos,af,gd⟩ st K:=by
 intro u s e a w next Q f n
 have r:Go.yielded R a.tmps c=none:=by
  have:=f.tr y;rw[p]at this;have:=this.bL;have g:y<a.tmps.size:=by rw[f.n.1];exact o
  have i:a.tmps[y]? =some undef:=by
   rw[avb g];simp[avA,avb g]at this;rw[this]
  unfold Go.yielded;rw[m];simp[i,undef]
 have q:¬Region.wanted (⟨I,h,ty,pos,af,gd⟩:Oper) (Go.yielded R a.tmps)=true:=by
  simp only[Region.wanted,l,r];simp
 rw[aun q];refine n _ j e _ _ ?_;cases I with
 |none=>exact f
 |some d=>exact f.put (k d rfl) .v
def AL(P:Fd)(j:qZ)(l:bp)(st:St)(K:St->Prop):Prop:=
 ∀h b e a w Q,Ga h b e st a w->(∀f,K f->∀i c g,Ga h b i f c g->Q .normal c g)->wpList P j Q l a w
def AL.nil(h:K st):AL P R [] st K:=λg f e a w Q b c=>c _ h e a w b
def AL.cons{c:bp}(h:∀f:St->Prop,(∀b,AL P R c b K->f b)->GS P R F st f):AL P R (F::c) st K:=by
 intro k g e a w Q o q;refine axa λl n=>?_;exact h (λb=>AL P R c b K) (λ_ h=>h) k g e a w l Q o λb r m i j p=>n i j (r k g m i j Q p q)
def mark(D:Nat):Deferred:={target:=.collected D,args:= #[]}
def T_(B:Bs):Prop:=∃l:a_,B.df=l.map mark/\l.Nodup/\∀D∈l,¬B.hY D/\B.w.heap[D]? =some (.deferred (some []))
structure Bk(t:Bool)(w0:Bs)(Rd0:bF)(w1:Bs)(Rd1:bF):Prop where
 sr:∀e h w,SR w1 Rd1 e h w->SR w0 Rd0 e h w
 rd:∀e h w b o u,bN w1 Rd1 e h w b o u->bN w0 Rd0 e h w b o u
 sz:w0.w.heap.size<=w1.w.heap.size
 df:T_ w0->T_ w1/\∀D,mark D∈w1.df->mark D∈w0.df\/w0.w.heap.size<=D
 ne:t=false->w1=w0/\Rd1=Rd0
def Bk.refl{t:In}:Bk t H h H h:=⟨λ_ _ _ a=>a,λ_ _ _ _ _ _ a=>a,auq _,λa=>⟨a,λ_ b=>.inl b⟩,λ_=>⟨rfl,rfl⟩⟩
def Bk.trans{t:In}{j l m:Bs}{c f g:bF}(h:Bk t j c l f)(k:Bk t l f m g):Bk t j c m g:=
 ⟨λe H w v=>h.sr e H w (k.sr e H w v),λe H w b o u s=>h.rd e H w b o u (k.rd e H w b o u s),avl h.sz k.sz,λr=>by
  obtain⟨x,n⟩:=h.df r;obtain⟨y,p⟩:=k.df x;refine⟨y,λD q=>?_⟩;rcases p D q with a|a
  ·exact n D a
  ·exact .inr (avl h.sz a),λi=>by
  obtain⟨rfl,rfl⟩:=h.ne i;exact k.ne i⟩
def AC(t:In)(P:Fd)(c:Code)(st:St)(ca:IO->St->Prop):Prop:=
 ∀(r:bX) j f e a w Q,(t=true->r=none)->Ga j f e st a w->
  (∀x h,ca x h->∀k g,Bk t j f k g->∀l b i,Ga k g l h b i->Kp (wrL c) a b->Q x b i)->c.wpIn (YT r) 0 P Q a w
variable{t:In}{ca:IO->St->Prop}
def rQ(next:St->Prop)(ca:IO->St->Prop):IO->St->Prop
 |.normal,st=>next st
 |x,st=>ca x st
def As(id:Nat)(ca:IO->St->Prop):IO->St->Prop
 |.exit i,st=>if i=id then ca .normal st else ca (.exit i) st
 |x,st=>ca x st
def AC.region{id:Nat}{l:bp}(h:AL P l.toArray l st (ca .normal)):AC t P (.region id l.toArray false) st ca:=λr i n e a w Q B q z=>by
 refine wpIn_region_lit ?_;have s:=h i n e a w (λx b g=>x=.normal/\b.defers.length<=i.df.length/\∃c f,ca .normal c/\Ga i n f c b g) q λc p f b g j=>⟨rfl,by rw[j.d];exact auq _,c,f,p,j⟩;have u:=Ar (r:=r) (m:=i.df.length) (l0:=Ef l) (a0:=a) (λx b g k=>⟨k.1,k.2.1⟩) l a w (λo A d v=>HN v A) (by rw[q.d];exact auq _) (Kp.refl _ _) s;refine oe (λx b g k=>?_) l a w u;obtain⟨⟨rfl,_,c,f,p,j⟩,y⟩:=k;exact z .normal c p i n Bk.refl f b g j y
def AC.seq{x y:Code}(h:AC t P x st (rQ (λb=>AC t P y b ca) ca)):AC t P (.seq x y) st ca:=λr H s e a w Q q E m=>by
 refine wpIn_seq (h r H s e a w _ q E λA b n p c i g f o j k=>?_);cases A with
 |normal=>exact n r p c g f o Q q j λL G B I u C z v J D F=>m L G B I u (i.trans C) z v J D (k.left.trans F.right)
 |_=>exact m _ b n p c i g f o j k.left
def AC.Mu{x y:Code}(l:st.ev B=.v (.bool true))(h:AC t P x st ca):AC t P (.cond B x y) st ca:=λr v f e a w Q p b o=>by
 have c:=b.ev B;rw[l]at c;exact wpIn_cond_true c.bL (h r v f e a w Q p b λx s q z g k j i u m n=>o x s q z g k j i u m n.left)
def AC.Mw{x y:Code}(l:st.ev B=.v (.bool false))(h:AC t P y st ca):AC t P (.cond B x y) st ca:=λr v f e a w Q p b o=>by
 have c:=b.ev B;rw[l]at c;exact wpIn_cond_false c.bL (h r v f e a w Q p b λx s q z g k j i u m n=>o x s q z g k j i u m n.right)
def AC.block{id:Nat}(h:AC t P N st (As id ca)):AC t P (.block id N) st ca:=λr x q e a w Q v u m=>by
 refine wpIn_block (h r x q e a w _ v u λs n b p c i g f o j k=>?_);cases s with
 |normal=>exact m _ n b p c i g f o j k
 |exit z=>
  simp only[As]at b;simp only[Exit.inBlock];split at b
  ·rename_i hid;rw[auo hid];exact m _ n b p c i g f o j k
  ·rename_i hid;rw[aun hid];exact m _ n b p c i g f o j k
 |_=>exact m _ n b p c i g f o j k
def AC.scope(h:AC t P N st λx s=>(∀l,x≠.goto l)/\ca x s):AC t P (.scope N) st ca:=λr z q e a w Q y v m=>
 uW (h r z q e a w _ y v λu n b p c i g f o j k=>by
  cases u with
  |goto l=>exact absurd rfl (b.1 l)
  |normal=>exact m _ n b.2 p c i g f o j k
  |exit id=>exact m _ n b.2 p c i g f o j k
  |ret=>exact m _ n b.2 p c i g f o j k
  |panic A=>exact m _ n b.2 p c i g f o j k
  |outgrown=>exact m _ n b.2 p c i g f o j k)
def AC.skip(h:ca .normal st):AC t P .skip st ca:=λr i f e a w Q g b c=>wpIn_skip (c _ st h _ _ Bk.refl e a w b (Kp.refl _ _))
def AC.label(h:ca .normal st):AC t P (.label c) st ca:=λr j g e a w Q i b f=>wpIn_label (f _ st h _ _ Bk.refl e a w b (Kp.refl _ _))
def AC.exit{id:Nat}(h:ca (.exit id) st):AC t P (.exit id) st ca:=λr i f e a w Q g b c=>wpIn_exit (c _ st h _ _ Bk.refl e a w b (Kp.refl _ _))
def AC.ret(h:ca .ret st):AC t P .ret st ca:=λr i f e a w Q g b c=>wpIn_ret (c _ st h _ _ Bk.refl e a w b (Kp.refl _ _))
def bQ(P:Fd)(st g:St):Prop:=∀c b e a w,Ga c b e st a w->∃f,Ga c b f g a w
def bQ.refl{P:Fd}{st:St}:bQ P st st:=λ_ _ e _ _ h=>⟨e,h⟩
def bQ.trans{P:Fd}{c f g:St}(h:bQ P c f)(k:bQ P f g):bQ P c g:=λi b e a w l=>let⟨j,m⟩:=h i b e a w l;k i b j a w m
def AC.le(l:bQ P st Y)(h:AC t P N Y ca):AC t P N st ca:=λr c b e a w Q k i j=>let⟨f,g⟩:=l c b e a w i;h r c b f a w Q k g j
def AL.le{l:bp}(k:bQ P st Y)(h:AL P R l Y K):AL P R l st K:=λc b e a w Q i j=>let⟨f,g⟩:=k c b e a w i;h c b f a w Q g j
def GS.le(k:bQ P st Y)(h:GS P R F Y K):GS P R F st K:=λc b e a w next Q i j=>let⟨f,g⟩:=k c b e a w i;h c b f a w next Q g j
def AC.mono{c:IO->St->Prop}(h:AC t P N st ca)(j:∀x b,ca x b->c x b):AC t P N st c:=λr m f e a w Q k g i=>h r m f e a w Q k g λx b l=>i x b (j x b l)
def AC.loop{α:Type}(I:α->St)(μ:α->Nat)(D:α)(L:bQ P st (I D))
 (Z:∀x,AC t P N (I x) (rQ (λf=>∃y,bQ P f (I y)/\μ y<μ x) ca)):AC t P (.loop N) st ca:=by
 intro r B z e a w Q V S s;obtain⟨e0,O⟩:=L B z e a w S;have Y:∀n x,μ x<n->∀v u,Bk t B z v u->∀F A C,Ga v u F (I x) A C->Kp (wrL N) a A->Code.roundsIn (YT r) 0 P N Q n A C:=by
  intro n
  induction n with
  |zero=>intro x W;omega
  |succ n X=>
   intro x W v u j G E a0 M o;refine Z x r v u G E a0 (Exit.then (Code.roundsIn (YT r) 0 P N Q n) Q) V M λJ f q g b k i c h m p=>?_;cases J with
   |normal=>
    obtain⟨y,U,a3⟩:=q;obtain⟨H,R⟩:=U g b i c h m;exact X y bv g b (j.trans k) H c h R (o.trans p)
   |_=>exact s _ f q g b (j.trans k) i c h m (o.trans p)
 exact wpIn_loop_rounds _ (Y _ D (axI _) B z Bk.refl e0 a w O (Kp.refl _ _))
end
def xq{Rd:bF}(a:cellsOf C=some A)(c:VR Rd none C g):∃b,g.cells=b.toArray/\LR (VR Rd none) A b:=by
 cases C with
 |ag i=>
  simp only[cellsOf,aur]at a;subst a;obtain⟨b,rfl,h⟩:=c.e5;exact⟨b,rfl,h⟩
 |_=>
  simp only[cellsOf]at a;split at a
  ·rename_i e
   simp only[aur]at a;subst a;have:=c.jI e (λj k f l=>by cases f);exact⟨[g],by rw[n_ this],LR.cons c LR.nil⟩
  ·cases a
def chunk(a:Nat):Nat->Do AV->Do (Do AV)
 |0,_=>[]
 |n+1,b=>b.take a::chunk a n (b.drop a)
def Ei(sz:Nat):∀(n:Nat) (a:Do AV),a.length=n*sz->(chunk sz n a).flatten=a/\(chunk sz n a).length=n/\∀r∈chunk sz n a,r.length=sz
 |0,a,h=>by simp at h;subst h;simp[chunk]
 |n+1,a,h=>by
  have g:a.length=n*sz+sz:=by rw[h,au6,aws]
  obtain⟨c,e,f⟩:=Ei sz n (a.drop sz) d7;refine⟨by rw[chunk,au4,c,awf],by rw[chunk,auP,e],λr b=>?_⟩;rw[chunk]at b;rcases auT.1 b with rfl|b
  ·simp;omega
  ·exact f r b
def lG:a_->Do AV->At (Do (Nat×Do AV))
 |[],[]=>some []
 |i::b,c::a=>match cellsOf c,lG b a with
  |some x,some r=>some ((i,x)::r)
  |_,_=>none
 |_,_=>none
def Au{Rd:bF}:∀(e:a_) (n:Do AV) (b:bC) (h:Do (Nat×Do AV)),lG e n=some h->LR (VR Rd none) n b->e.length=b.length->
 h.length=(e.zip b).length/\∀(j:Nat) p q,h[j]? =some p->(e.zip b)[j]? =some q->p.1=q.1/\LR (VR Rd none) p.2 q.2.cells.toList
 |[],[],b,h,a,g,_=>by simp only[lG,aur]at a;subst a;simp
 |i::e,c::o,b,h,a,g,v=>by
  cases b with
  |nil=>have:=g.1;simp at this
  |cons u b=>
   simp only[lG]at a;cases f:cellsOf c with
   |none=>simp[f]at a
   |some x=>
    cases l:lG e o with
    |none=>simp[f,l]at a
    |some r=>
     simp only[f,l,aur]at a;subst a;obtain⟨s,t⟩:=Au e o b r l ⟨by simpa using g.1,λj c u f m=>g.2 (j+1) c u (by simpa using f) (by simpa using m)⟩ (by simpa using v);refine⟨by simpa using s,λj p q k a=>?_⟩;cases j with
     |zero=>
      simp at k a;subst k;subst a;obtain⟨y,m,w⟩:=xq f (g.2 0 c u rfl rfl);exact⟨rfl,by simpa[m]using w⟩
     |succ j=>exact t j p q (by simpa using k) (by simpa using a)
 |[],_::_,_,_,a,_,_=>by simp[lG]at a
 |_::_,[],_,_,a,_,_=>by simp[lG]at a
section
variable{P:Fd}{st:St}{d:Nat}{ty:EQ}{pos:String}{af:dm}{gd:fH}{K:St->Prop}
def SR.froze{w a:GE}(b:SR H h v L w){us:bC}{t:EQ}(l:Ext w a)(c:a.heap[w.heap.size]? =some (.cells us.toArray t (0,0))):
 ∀(j:Nat) u,us[j]? =some u->bN H h v L a w.heap.size j u:=λj u f=>by
 refine⟨?_,λi=>?_,λk ob g e=>?_⟩
 ·rw[avu a w.heap.size j us.toArray t (0,0) c];simpa using f
 ·exact absurd (b.ext.hY (auq _)) i
 ·have:=(b.base _ _ _ g e).2;omega
def Ga.later{g:Bs}{w f:GE}{b:bF}{e:Env}{a:Act}(h:Ga g b e st a w)(c:Ext w f):Ga g b e st a f:=
 ⟨h.n,h.d,(h.sr.later c).1,h.tr.mono (h.sr.later c).2⟩
def lH(w:GE)(t e:EQ)(b:Nat)(g:Array (Nat×Id))(a:TypeInfo)(z:Id)
 (m:P.underlying t=some (.slice e)) (k:P.info? e=some a) (n:a.zero=some z) (o:b*a.size<=16777216):
 ∃j:dU,j.size=b*a.size/\∀c,Instr.fill (λi=>some (i*a.size,a.size)) j g.toList=some c->
 (Instr.buildSlice t b g).run P w=.ok (.slice (some ⟨w.heap.size,0,none⟩) b b) (w.alloc (.cells c e)):=by
 have l:¬b*a.size>2^24:=bv
 by_cases f:b*a.size=0
 ·refine⟨#[],by simp[f],λc h=>?_⟩
  have e0:Array.range 0= #[]:=Array.range_zero';simp only[Instr.buildSlice,auF,auR m,auG,cL w k,l,avf,f,au2];simp[h,newRow,f,e0,newObj,Sem.run]
 ·refine⟨(Array.range (b*a.size)).map (z.cells[· % z.cells.size]!),d5,λc h=>?_⟩
  exact run_buildSlice w t e b g c a z m k n l f h
def SS.buildSlice{t E:EQ}{len g N:Nat}{parts:D8}{z:bC}{h':Hp}{aS cs:Do AV}{qs:Do (Nat×Do AV)}(ht:Hh P t=some (E,g,N,z))
 (hl:oa st.h (parts.toList.map λp=>st.ev p.2)=some (h',aS)) (hq:lG (parts.toList.map (·.1)) aS=some qs) (H:gD (λi=>some (i*g,g)) (List.replicate (len*g) .un) qs=some cs)
 (y:cs.all AV.one=true) (V:len*g<=16777216) (a3:0<g) (X:d<st.n) (S:K ⟨st.n,(d,.sl true g (chunk g len cs))::st.t,h'⟩):SS P ⟨some d,.buildSlice t len parts,ty,pos,af,gd⟩ st K:=by
 intro B r e a w next Q h hn
 obtain⟨i,zv,n,O,R,h5,rfl,_,_⟩:=cX ht;have U:LR (VR (bN B r e st.h w) (some e)) (parts.toList.map λp=>st.ev p.2) (parts.toList.map λp=>a.eval p.2):=by
  refine⟨d5,λj c u y n=>?_⟩;rw[auM]at y n;obtain⟨x,o,rfl⟩:=auY.1 y;rw[o]at n;simp at n;subst n;exact h.ev x.2
 obtain⟨q,l,D⟩:=Aq _ _ _ _ _ _ h.sr U hl;have C:=h.cP l;obtain⟨p1,p2⟩:=Au _ _ _ _ hq D d5;obtain⟨G,W,a4⟩:=lH (P:=P) w t E len (parts.map λ(i,x)=>(i,a.eval x)) i zv n O R V;have a2:LR (VR (bN B r q h' w) none) (List.replicate (len*i.size) .un) G.toList:=by
  refine⟨by simp[W],λj c u f hu=>?_⟩;rw[awS]at f;split at f
  ·simp at f;subst f;exact .un
  ·cases f
 obtain⟨b,I,J⟩:=jJ (place:=λj=>some (j*i.size,i.size)) qs _ _ cs G a2 p1 p2 H;have a5:(parts.toList.map (·.1)).zip (parts.toList.map λp=>a.eval p.2)=(parts.map λ(i,x)=>(i,a.eval x)).toList:=by
  rw[av5,List.zip_map']
 rw[a5]at I;have a0:cs.length=len*i.size:=by
  have o:=J.1;have:∀(A:Do (Nat×Do AV)) (c s:Do AV),gD (λj=>some (j*i.size,i.size)) c A=some s->s.length=c.length:=by
   intro A
   induction A with
   |nil=>intro c s m;simp only[gD,aur]at m;rw[m]
   |cons p A ih=>
    intro c s m;obtain⟨k,xs⟩:=p;simp only[gD]at m;split at m
    ·rw[ih _ _ m,lF]
    ·cases m
  rw[this _ _ _ H];simp
 obtain⟨M,F,k3⟩:=Ei i.size len cs a0;have o:Ext w (w.alloc (.cells b E)):=(Ext.refl w).alloc _;have Z:=C.later o;have Y:=C.sr.froze (us:=b.toList) (t:=E) o (by simpa using YS w (.cells b E));refine eu (v:=.slice (some ⟨w.heap.size,0,none⟩) len len) (w':=w.alloc (.cells b E)) ?_ (hn _ S q _ _ (Z.put X ?_))
 ·simp only[execOp,auF,a4 b I,auG,auJ]
 ·have a1:len<=maxLen:=by
   unfold maxLen;have:len*1<=len*i.size:=awg _ a3;omega
  have L:LR (VR (bN B r q h' (w.alloc (.cells b E))) none) (chunk i.size len cs).flatten b.toList:=by
   rw[M];exact J.imp λ_ _ D=>D.mono (C.sr.later o).2
  have:=VR.sl (E:=some q) (Rd:=bN B r q h' (w.alloc (.cells b E))) (tight:=true) (a:=some ⟨w.heap.size,0,none⟩) (cap:=len) b.toList k3 (λc f=>by rw[M]at f;exact auO.1 y c f) L.1 L.2 (by rw[F];exact auq _) a1 (λ_=>F.symm) (λ_=>⟨_,0,rfl,λj u hj=>by rw[auZ];exact Y j u hj⟩);rw[F]at this;exact this
def rH(st:St)(a:Nat):iB->bX
 |none=>some a
 |some x=>match st.ev x with
  |.v (.int _ i)=>if 0<=i then some i.toNat else none
  |_=>none
def xr(a:Ga H h v st D J)(b:rH st c (some B)=some y):∃k,D.eval B=.int k y:=by
 simp only[rH]at b;split at b
 ·rename_i k i g
  split at b
  ·rename_i f
   simp only[aur]at b;subst b;have e:=a.ev B;rw[g]at e;exact⟨k,by rw[e.bL,axJ f]⟩
  ·cases b
 ·cases b
def fi{i:TypeInfo}(u:P.underlying m=some (.slice S))(y:P.info? S=some i)(c:At Addr)(n g l h:Nat)(a:bX)(b:Nat)(q o r:At Id)(w:GE)
 (z:(q=none/\l=0)\/∃k,q=some (.int k (l:Int))) (x:(o=none/\h=n)\/∃k,o=some (.int k (h:Int))) (A:(r=none/\b=g)\/((∃k,r=some (.int k (b:Int)))/\o≠none))
 (B:l<=h) (C:h<=n) (D:h<=b) (E:b<=g) (F:n<=g):
 (Instr.sliceAt m (.slice c n g) q o r).run P w=.ok (.slice (if b=l then c else c.map (·.add (l*i.size))) (h - l) (b - l)) w:=by
 have e:P.elem m=S:=by simp[Program.elem,u]
 have f:P.underlying m=some (.slice (P.elem m)):=by rw[e];exact u
 rw[run_sliceAt_slice w m _ q o r f];have j:=cL (P:=P) w y;rcases z with⟨rfl,rfl⟩|⟨s,rfl⟩<;>rcases x with⟨rfl,rfl⟩|⟨p,rfl⟩<;>rcases A with⟨rfl,rfl⟩|⟨⟨v,rfl⟩,t⟩
 ·rw[run_slice_all w m c h b f];simp[e,j,sliced]
 ·exact absurd rfl t
 ·rw[run_slice_h w m c n b f p h bv bv];simp[e,j,sliced]
 ·rw[run_slice_hm w m c n g f p v h b bv bv bv];simp[e,j,sliced]
 ·rw[run_slice_l w m c h b f s l bv bv];simp[e,j,sliced]
 ·exact absurd rfl t
 ·rw[run_slice_lh w m c n b f s p l h bv bv bv];simp[e,j,sliced]
 ·rw[run_slice_lhm w m c n g f s p v l h b bv bv bv bv];simp[e,j,sliced]
end
def lI{c:Nat}:∀(a:Do (Do AV)) (h:Nat),(∀r∈a,r.length=c)->(a.take h).flatten=a.flatten.take (h*c)
 |[],h,_=>by simp
 |r::a,0,_=>by simp
 |r::a,h+1,b=>by
  have e:=b r d5;rw[List.take_succ_cons,au4,au4,lI a h (λx f=>b x (by simp[f])),au6,aws,List.take_append];rw[au0 (l:=r) bv,e,Nat.add_sub_cancel]
def lJ{c:Nat}:∀(a:Do (Do AV)) (h:Nat),(∀r∈a,r.length=c)->(a.drop h).flatten=a.flatten.drop (h*c)
 |[],h,_=>by simp
 |r::a,0,_=>by simp
 |r::a,h+1,b=>by
  have e:=b r d5;rw[List.drop_succ_cons,au4,lJ a h (λx f=>b x (by simp[f])),au6,aws,List.drop_append];rw[List.drop_of_length_le (l:=r) bv,e,Nat.add_sub_cancel,avd]
def YV{Rd:bF}{E E':At Env}(M:VR Rd E (.sl G c O) g){l h:Nat}{m:bX}(N:l<=h)(Q:h<=O.length)(I:∀x,m=some x->h<=x/\x<=O.length):
 ∃i f,g=.slice i O.length f/\O.length<=f/\VR Rd E' (wx G O c l h m) (.slice (if m.getD f=l then i else i.map (·.add (l*c))) (h - l) (m.getD f - l)):=by
 obtain⟨i,f,w,rfl,v,B,H,D,U,L,C⟩:=M.mr;refine⟨i,f,rfl,D,?_⟩;have S:h<=m.getD f/\m.getD f<=f:=by
  cases m with
  |none=>simp;omega
  |some x=>have:=I x rfl;simp;omega
 have y:((O.take h).drop l).flatten=(O.flatten.take (h*c)).drop (l*c):=by
  rw[lJ _ _ (λr q=>v r (awG q)),lI _ _ v]
 have p:((O.take h).drop l).length=h - l:=d7
 have s:=(H.take (h*c)).drop (l*c);rw[<-y]at s;have:=VR.sl (E:=E') (Rd:=Rd) (tight:=wu G O.length h m) (a:=if m.getD f=l then i else i.map (·.add (l*c))) (cap:=m.getD f - l) (rows:=(O.take h).drop l) (sz:=c) ((w.take (h*c)).drop (l*c))
  (λr q=>v r (awG (axb q))) (λe k=>by
   rw[y]at k;exact B e (awG (axb k))) s.1 s.2 (by rw[p];omega) bv (λt=>?_) (λA=>?_)
 ·rw[p]at this
  exact this
 ·rw[p]
  cases m with
  |none=>
   simp only[wu,aup,aw9]at t;have:=L t.1;simp only[Option.getD_none];omega
  |some x=>
   simp only[wu,aw9]at t;simp only[Option.getD_some];omega
 ·have J:w≠[]:=by rintro rfl;simp at A
  obtain⟨b,o,rfl,k⟩:=C J;have R:l<h:=by
   rcases awT l h with z|z
   ·exact z
   ·have:l=h:=bv
    subst this;have F:(List.drop (l*c) (List.take (l*c) w))=[]:=avj (by rw[au8];omega);exact absurd F A
  rw[aun bv];refine⟨b,o+l*c,by simp[ava],λj u n=>?_⟩;rw[avK,au3]at n;split at n
  ·have:=k _ u n
   rw[aw8];exact this
  ·cases n
section
variable{P:Fd}{st:St}{d:Nat}{ty:EQ}{pos:String}{af:dm}{gd:fH}{K:St->Prop}
def mxA(st:St):iB->At bX
 |none=>some none
 |some x=>(rH st 0 (some x)).map some
def SS.slice{f E:EQ}{r j p:iB}{h':Hp}{tt:In}{rows:Do (Do AV)}{l h:Nat}{m:bX}(R:Hh P f=some (E,c,y,t))
 (J:hZ st.h (st.ev B)=some (h',.sl tt c rows)) (u:rH st 0 r=some l) (s:rH st rows.length j=some h) (q:mxA st p=some m) (M:p.isSome=true->j.isSome=true)
 (x:l<=h) (z:h<=rows.length) (A:∀B,m=some B->h<=B/\B<=rows.length) (H:d<st.n) (F:K ⟨st.n,(d,wx tt rows c l h m)::st.t,h'⟩):
 SS P ⟨some d,.slice f B r j p,ty,pos,af,gd⟩ st K:=by
 intro Z W e a w next Q g N
 obtain⟨i,zv,p2,p3,p4,Y,rfl,_,_⟩:=cX R;obtain⟨v,V,S⟩:=oS g.sr (g.ev B) J;obtain⟨D,n,U,G,O⟩:=YV (E':=some v) S (m:=m) x z A;have I:=g.cP V;refine eu ?_ (N _ F v _ _ (I.put H O));have C:h<=m.getD n/\m.getD n<=n:=by
  cases m with
  |none=>simp;omega
  |some B=>have:=A B rfl;simp;omega
 have:=fi (P:=P) p2 p3 D rows.length n l h none (m.getD n) (r.map a.eval) (j.map a.eval) (p.map a.eval) w
  (by
   cases r with
   |none=>simp[rH]at u;exact .inl ⟨rfl,u.symm⟩
   |some b=>obtain⟨k,o⟩:=xr g u;exact .inr ⟨k,by simp[o]⟩)
  (by
   cases j with
   |none=>simp[rH]at s;exact .inl ⟨rfl,s.symm⟩
   |some b=>obtain⟨k,o⟩:=xr g s;exact .inr ⟨k,by simp[o]⟩)
  (by
   cases p with
   |none=>simp[mxA]at q;subst q;exact .inl ⟨rfl,rfl⟩
   |some b=>
    simp only[mxA]at q;obtain⟨X,L,rfl⟩:=auY.1 q;obtain⟨k,o⟩:=xr g L;refine .inr ⟨⟨k,by simp[o]⟩,?_⟩;have:=M rfl;cases j with
    |none=>cases this
    |some b=>simp)
  x z C.1 C.2 G
 simp only[execOp,auF,U,this,auG,auJ]
def SS.make{t E:EQ}{z:bC}{x f:If}{N O:IntKind}{n:Nat}(ht:Hh P t=some (E,c,y,z))(hx:st.ev x=.v (.int N n))(B:st.ev f=.v (.int O n))
 (a4:y*n<=140737488355328) (I:n<=maxLen) (a6:z.all Value.oneCell'=true) (a3:z.all (λv=>(lS v).one)=true) (a0:0<c) (X:d<st.n)
 (S:K ⟨st.n,(d,.ow d)::c8 d st.t,(d,some (.arr E c (List.replicate n (z.map lS)) true))::bw d st.h⟩):SS P ⟨some d,.makeSlice t x f,ty,pos,af,gd⟩ st K:=by
 intro w0 R e a w next Q l hn
 obtain⟨i,g,p2,p3,p4,o,rfl,rfl,rfl⟩:=cX ht;have s:=l.ev x;rw[hx]at s;have s:=s.bL;have A:=l.ev f;rw[B]at A;have A:=A.bL;have J:=run_make (P:=P) w t E i g p2 p3 p4 N O n n bv (awU _) (by
  have h:((i.bytes*n:Nat):Int)<=281474976710656:=bv
  rwa[awh]at h) (by unfold maxLen at I;omega)
 simp only[auB]at J;obtain⟨a1,U⟩:=l.sr.kill d;have a7:g.cells.toList.length=i.size:=by simpa using o
 have L:∀r∈List.replicate n (g.cells.toList.map lS),r.length=i.size:=λr hr=>by
  rw[ay2 hr];simp[o]
 have G:(List.replicate n (g.cells.toList.map lS)).length=n:=d5
 have D:=er L;rw[G]at D;have aZ:∀(n j:Nat) b,(List.replicate n (g.cells.toList.map lS)).flatten[j]? =some b->∃v,g.cells.toList[j % i.size]? =some v/\b=lS v:=by
  intro n
  induction n with
  |zero=>intro j b h;simp at h
  |succ n ih=>
   intro j b h;rw[avT,au4]at h;by_cases p:j<i.size
   ·rw[au7 (by simpa[o]using p),auM]at h
    obtain⟨v,m,rfl⟩:=auY.1 h;exact⟨v,by rw[awH p];exact m,rfl⟩
   ·rw[avG (by simp[o];omega)]at h
    have Y:(g.cells.toList.map lS).length=i.size:=by simpa using o
    rw[Y]at h;obtain⟨v,m,rfl⟩:=ih _ b h;refine⟨v,?_,rfl⟩;rw[<-m,ayn (awt p)]
 have V:∀(j:Nat) u,(madeCells g.cells (n*i.size)).toList[j]? =some u->g.cells.toList[j % i.size]? =some u:=by
  intro j u h;simp only[madeCells,av5,auM]at h;obtain⟨f,B,rfl⟩:=auY.1 h;have a5:j<n*i.size:=by
   have:=(aus.1 B).1;simpa using this
  have a2:f=j:=by
   have:=(aus.1 B).2;simpa using this.symm
  subst a2;have Z:f % i.size<i.size:=awV _ a0;rw[o];have:f % i.size<g.cells.size:=by rw[o];exact Z
  simp[this]
 obtain⟨M,H⟩:=a1.JT d E i.size n (rows:=List.replicate n (g.cells.toList.map lS)) (cur:=madeCells g.cells (n*i.size)) L (λb C=>by
  obtain⟨j,p,rfl⟩:=avc C;obtain⟨v,m,W⟩:=aZ n j _ (auy p);rw[W];exact auO.1 a3 v (auI m))
  ⟨by rw[D];simp[ayo,D],λj b u C q=>by
   obtain⟨v,m,rfl⟩:=aZ n j b C;rw[au3]at q;split at q
   ·have:=V j u q
    rw[m]at this;simp at this;subst this;exact Eb v
   ·cases q⟩ (by rw[G];exact auq _) I (by rw[ayo]) (ef d st.h) (by have:=l.n.2;omega) (w.alloc (.cells (madeCells g.cells (n*i.size)) E)) rfl (l.sr.ext.alloc _)
 rw[G]at M H;refine eu (v:=.slice (some ⟨w.heap.size,0,none⟩) n n) (w':=w.alloc (.cells (madeCells g.cells (n*i.size)) E)) ?_ (hn _ S _ _ _ ⟨by simpa[Act.put]using l.n,l.d,M,TR.put ?_ (by rw[l.n.1];exact X) ?_⟩)
 ·simp only[execOp,auF,s,A,J,auG,auJ]
 ·exact(((l.tr.kill d).mono U).mono H).env d (dQ d st.t) (λ_ F=>Env.bG F) (λ_ F=>Env.de F)
 ·have:=VR.ow (Rd:=bN w0 R (e.cO d (some w.heap.size) (.slice (some ⟨w.heap.size,0,none⟩) n n) 0) ((d,some (.arr E i.size (List.replicate n (g.cells.toList.map lS)) true))::bw d st.h) (w.alloc (.cells (madeCells g.cells (n*i.size)) E))) (e:=e.cO d (some w.heap.size) (.slice (some ⟨w.heap.size,0,none⟩) n n) 0) (k:=d)
  rw[Env.dK]at this;exact this
end
def lK(st:St)(p:AV)(n:Nat):At (Do AV):=
 match p with
 |.pt k o=>match aZ st.h k with
  |some (.box t a)=>if t≠D_/\o+n<=a.length then some ((a.drop o).take n)else none
  |_=>none
 |.pe k i e o=>match aZ st.h k with
  |some (.arr _ g f _)=>match f[i]? with
   |some r=>if o+n<=r.length/\g=e then some ((r.drop o).take n)else none
   |none=>none
  |some (.nr _ a)=>match a[i]? with
   |some c=>if e=1/\o=0/\n=1 then some [c]else none
   |none=>none
  |_=>none
 |.fp b=>if n<=b.length then some (b.take n)else none
 |_=>none
def YW{st:St}(h:lK st C c=some A):C8 st C c A:=by
 unfold lK at h;split at h
 ·rename_i k o
  split at h
  ·rename_i t f e
   split at h
   ·rename_i b;simp only[aur]at h;exact⟨t,f,e,b.1,b.2,h.symm⟩
   ·cases h
  ·cases h
 ·rename_i k i m o
  split at h
  ·rename_i t n l wr e
   split at h
   ·rename_i r j
    split at h
    ·rename_i b
     obtain⟨b,rfl⟩:=b;simp only[aur]at h;exact .inl ⟨t,l,wr,r,e,j,b,h.symm⟩
    ·cases h
   ·cases h
  ·rename_i t f e
   split at h
   ·rename_i a g
    split at h
    ·rename_i b
     simp only[aur]at h;exact .inr ⟨t,f,a,e,g,b.1,b.2.1,b.2.2,h.symm⟩
    ·cases h
   ·cases h
  ·cases h
 ·rename_i f
  split at h
  ·rename_i b;simp only[aur]at h;exact⟨b,h.symm⟩
  ·cases h
 ·cases h
def abp:In->Do AV->At AV
 |true,a=>some (.ag a)
 |false,[c]=>some c
 |false,_=>none
def xt(P:Fd)(st:St)(p:AV)(t:EQ):At AV:=
 match Rq P t with
 |some (a,n)=>match lK st p n with
  |some b=>abp a b
  |none=>none
 |none=>none
def Mx{P:Fd}{st:St}{p c:AV}(h:xt P st p m=some c):∃a n b,Rq P m=some (a,n)/\C8 st p n b/\((a=true/\c=.ag b)\/(a=false/\b=[c])):=by
 unfold xt at h;split at h
 ·rename_i a n f
  split at h
  ·rename_i b e
   refine⟨a,n,b,f,YW e,?_⟩;unfold abp at h;split at h
   ·simp only[aur]at h;exact .inl ⟨rfl,h.symm⟩
   ·simp only[aur]at h;subst h;exact .inr ⟨rfl,rfl⟩
   ·cases h
  ·cases h
 ·cases h
section
variable{P:Fd}{st:St}{d:iC}{ty:EQ}{pos:String}{af:dm}{gd:fH}{K:St->Prop}
def RS.xt(h:xt P st (st.ev B) m=some C):RS P ⟨d,.load m B,ty,pos,af,gd⟩ st C:=by
 obtain⟨e,n,f,a,b,c⟩:=Mx h;exact RS.load a b c
def Ej(P:Fd)(st:St):Do ResultVar->At (Do AV)
 |[]=>some []
 |.tmp i::e=>match Ej P st e with
  |some b=>some (bD st.t i::b)
  |none=>none
 |.cell a t::e=>match xt P st (bD st.t a) t,Ej P st e with
  |some c,some b=>some (c::b)
  |_,_=>none
def My:Do AV->AV
 |[c]=>c
 |a=>.tu a
def lL(b:dU)(r:ResultVar):Sem Id:=
 match r with
 |.tmp t=>pure (b.getD t undef)
 |.cell a t=>do loadVar t (<-asAddr (b.getD a undef))
def wz(b:Func)(c:dU):results b c=(do
 let a<-b.results.mapM (lL c)
 pure (if h:a.size=1 then a[0]else .tuple a)):=by
 unfold results;congr 1
def C_{B:Bs}{y:bF}{e:Env}{a:Act}{w:GE}(h:Ga B y e st a w):∀(j:Do ResultVar) (k:Do AV),Ej P st j=some k->
 ∃g,(j.mapM (lL a.tmps)).run P w=.ok g w/\LR (VR (bN B y e st.h w) (some e)) k g
 |[],k,f=>by
  simp only[Ej,aur]at f;subst f;exact⟨[],d5,LR.nil⟩
 |.tmp i::j,k,f=>by
  simp only[Ej]at f;split at f
  ·rename_i r v
   simp only[aur]at f;subst f;obtain⟨g,m,l⟩:=C_ h j r v;refine⟨_::g,?_,LR.cons (h.tr i) l⟩;rw[axc];simp only[lL,auF,auJ,auG,m]
  ·cases f
 |.cell x t::j,k,f=>by
  simp only[Ej]at f;split at f
  ·rename_i c r G v
   simp only[aur]at f;subst f;obtain⟨g,m,l⟩:=C_ h j r v;obtain⟨I,n,J,C,D,E⟩:=Mx G;obtain⟨b,o,q,A,H,p,F⟩:=Ec h D (h.tr x);have z:=pN (P:=P) C (b:=b) (o:=o) (us:=q) (w:=w) H F;rcases E with⟨s,rfl⟩|⟨s,rfl⟩
   ·refine⟨_::g,?_,LR.cons (.ag q p.1 p.2) l⟩
    rw[axc];simp only[lL,auF,A,asAddr,auJ,auG,z.1 s,m]
   ·obtain⟨u,rfl⟩:∃u,q=[u]:=by
     match q,p.1 with
     |[u],_=>exact⟨u,rfl⟩
    refine⟨_::g,?_,LR.cons (p.2 0 c u rfl rfl) l⟩;rw[axc];simp only[lL,auF,A,asAddr,auJ,auG,z.2 s u rfl,m]
  ·cases f
def arS(P:Fd)(a:Func)(H:Hp)(r:AV)(x:IO)(st:St):Prop:=
 (x=.normal\/x=.ret)/\∃c b,bQ P st ⟨a.ntmps,c,H⟩/\Ej P ⟨a.ntmps,c,H⟩ a.results.toList=some b/\My b=r
def oU:Nat->Do AV->Do (Nat×AV)
 |_,[]=>[]
 |i,c::a=>(i,c)::oU (i+1) a
def xu:∀(a:Do AV) (k i:Nat),bD (oU k a) i=if k<=i then a.getD (i - k) .un else .un
 |[],k,i=>by simp[oU,bD]
 |c::a,k,i=>by
  simp only[oU,bD];by_cases b:i=k
  ·subst b;simp
  ·rw[aun b,xu a (k+1) i]
   by_cases e:k+1<=i
   ·have:k<=i:=bv
    simp only[e,this,au2];rw[show i - k=(i - (k+1))+1 by omega];rfl
   ·have:¬k<=i:=bv
    simp[e,this]
def Rx:Obj->In
 |.deferred _=>true
 |.loop _=>true
 |_=>false
def OR.keep{Rd:bF}{w u:GE}{ob:Ob}(h:OR Rd v w c ob)(j:∀(b:Nat) o,w.heap[b]? =some o->Rx o=false->u.heap[b]? =some o):OR Rd v u c ob:=by
 cases ob with
 |box t A=>
  obtain⟨a,b,D,f,g,e⟩:=h;refine⟨a,b,D,f,?_,e⟩;rcases g with⟨a,h⟩|⟨a,y,C,B,i,seen,f,h,g⟩
  ·exact .inl ⟨a,j _ _ h rfl⟩
  ·exact .inr ⟨a,y,C,B,i,seen,f,j _ _ h rfl,g⟩
 |arr t G F wr=>
  obtain⟨a,f,g,e⟩:=h;refine⟨a,f,g,?_⟩;rcases e with e|⟨b,s,i,k,l,m,n,p,q,r,x⟩
  ·exact .inl e
  ·exact .inr ⟨b,s,i,k,l,m,n,j _ _ p rfl,q,r,x⟩
 |mp d E=>
  obtain⟨a,b,arr,z,f,g,e⟩:=h;exact⟨a,b,arr,z,f,j _ _ g rfl,e⟩
 |nr t A=>
  obtain⟨a,e⟩:=h;refine⟨a,?_⟩;rcases e with e|⟨b,s,i,k,l,m,n,p,q,r⟩
  ·exact .inl e
  ·exact .inr ⟨b,s,i,k,l,m,n,j _ _ p rfl,q,r⟩
def YX{w c:GE}{p:Addr}(e:∀(b:Nat) o,w.heap[b]? =some o->Rx o=false->c.heap[b]? =some o)(h:w.cell? p=some g):c.cell? p=some g:=by
 unfold World.cell? at h⊢;cases a:w.heap[p.block]? with
 |none=>rw[a]at h;cases h
 |some o=>
  rw[a]at h;have:Rx o=false:=by cases o<;>first|rfl|(simp at h)
  rw[e _ _ a this];exact h
def Mz{i o:Obj}(h:J.heap[c]? =some i)(j:Rx i=true):∀(b:Nat) a,J.heap[b]? =some a->Rx a=false->(J.putObj c o).heap[b]? =some a:=λb a f g=>by
 have k:b≠c:=λe=>by rw[e,h]at f;cases f;rw[j]at g;cases g
 rw[ayp k];exact f
def SR.putObj{a:Bs}{c:bF}{e:Env}{h:Hp}{w:GE}(f:SR a c e h w){D:Nat}{n:Obj}(o:Obj)(s:w.heap[D]? =some n)(t:Rx n=true)(v:a.hY D):
 SR a c e h (w.putObj D o)/\∀b g u,bN a c e h w b g u->bN a c e h (w.putObj D o) b g u:=by
 have m:=Mz (o:=o) s t;have l:∀b g u,bN a c e h w b g u->bN a c e h (w.putObj D o) b g u:=λb g u ⟨p,q,r⟩=>⟨YX m p,q,r⟩;refine⟨⟨f.ext.step rfl rfl rfl d5 λb i _=>ayp λe=>i (e▸v),f.kg,λk ob j=>((f.ob k ob j).mono l).keep m,λk ob b j i=>?_,f.inj,f.rL⟩,l⟩;have:=f.base k ob b j i;exact⟨this.1,by simpa using this.2⟩
def Ga.putObj{c:Bs}{f:bF}{e:Env}{st:St}{a:Act}{w:GE}(b:Ga c f e st a w){D:Nat}{j:Obj}(o:Obj)(g:w.heap[D]? =some j)(h:Rx j=true)(i:c.hY D):Ga c f e st a (w.putObj D o):=
 ⟨b.n,b.d,(b.sr.putObj o g h i).1,b.tr.mono (b.sr.putObj o g h i).2⟩
def xv{h:Func}{k:dU}{R:Ending->GE->Prop}(I:GE->Prop)(i:∀w,I w->∃v,(results h k).run P w=.ok v w/\R (.returned v) w):∀(l:a_) (w:GE),l.Nodup->(∀D∈l,w.heap[D]? =some (.deferred (some [])))->I w->
 (∀w D,D∈l->I w->w.heap[D]? =some (.deferred (some []))->I (w.putObj D (.deferred none)))->LeavesInM Fence.wide 0 P h k R (l.map mark) .returning w
 |[],w,_,_,f,_=>i w f
 |D::l,w,g,c,f,j=>by
  refine⟨d8,.inl ⟨D,w.putObj D (.deferred none),rfl,run_takeDeferred (c D d5),?_⟩⟩;rw[avD]at g;refine xv I i l _ g.2 (λa b=>?_) (j w D d5 f (c D d5)) λw a b=>j w a (by simp[b]);have m:a≠D:=λe=>g.1 (by rw[<-e];exact b);rw[ayp m];exact c a (by simp[b])
def BG.intro{f:FuncId}{a:Func}{c:Code}{G:Hp}{m:Do AV}{H:Hp}{r:AV}(hf:P.funcs[f]? =some a)(ah:(a.name== "runtime.NumGoroutine")=false)(hb:a.body=some c)(ap:m.length<=a.ntmps)(a6:a.ntmps<=1000000)
 (h:AC true P c ⟨a.ntmps,oU 0 m,G⟩ (arS P a H r)):BG P f G m H r:=by
 refine⟨⟨a,hf,ah,by rw[hb];rfl⟩,λB Rd e w F q am=>ayk.1 (callsIn_of_wp_marks (n:=0) hf hb trivial ?_)⟩;obtain⟨j,J⟩:∃j:Bs,j=⟨B.w,B.own,B.bW,B.sv,[]⟩:=⟨_,rfl⟩;have al:SR j Rd e G w:=by
  subst J;exact⟨⟨q.ext.os,q.ext.tape,q.ext.output,q.ext.size,q.ext.block,q.ext.drawn⟩,q.kg,q.ob,q.base,q.inj,q.rL⟩
 have a4:∀e h w,SR j Rd e h w->SR B Rd e h w:=by
  subst J;exactλe h w p=>⟨⟨p.ext.os,p.ext.tape,p.ext.output,p.ext.size,p.ext.block,p.ext.drawn⟩,p.kg,p.ob,p.base,p.inj,p.rL⟩
 have a5:∀e h w b o u,bN j Rd e h w b o u->bN B Rd e h w b o u:=by subst J;exactλ_ _ _ _ _ _ h=>h
 have W:LR (VR (bN j Rd e G w) (some e)) m F:=by subst J;exact am
 have N:j.df=[]:=by subst J;rfl
 have aa:Ga j Rd e ⟨a.ntmps,oU 0 m,G⟩ {tmps:=F.toArray++Array.replicate (a.ntmps - F.toArray.size) undef,defers:=[]} w:=by
  refine⟨⟨by simp[W.1];omega,a6⟩,by rw[N],al,λi=>?_⟩;rw[xu];simp only[auS,au2,axd];by_cases V:i<m.length
  ·have hc:m[i]? =some m[i]:=auy V
   obtain⟨u,hu,hr⟩:=W.get hc;have O:m.getD i .un=m[i]:=by simp[List.getD,hc]
   have y:(F.toArray++Array.replicate (a.ntmps - F.toArray.size) undef).getD i undef=u:=by
    have a0:i<F.length:=by rw[W.1];exact V
    simp[avA,axe,a0];rw[auy a0]at hu;simpa using hu
   rw[O,y];exact hr
  ·have O:m.getD i .un=.un:=by simp[List.getD,au5 (awt V)]
   rw[O];exact .un
 refine h none j Rd _ _ w _ (λ_=>rfl) aa λx aq X w1 a1 S I t z a8 _=>?_;obtain⟨X,Y,A,ac,ai,rfl⟩:=X;obtain⟨y,L⟩:=ac w1 a1 I t z a8;obtain⟨ae,ad⟩:=S.df ⟨[],by rw[N];rfl,List.nodup_nil,d5⟩;obtain⟨l,hl,ag,ab⟩:=ae;have a9:∀M:Act,M.tmps=t.tmps->M.defers=[]->Ga j Rd y ⟨a.ntmps,Y,H⟩ M z:=λM s Q=>⟨by rw[s];exact L.n,by rw[Q,N],S.sr _ _ _ L.sr,by rw[s];exact L.tr.mono λb o u U=>S.rd _ _ _ b o u U⟩;have aj:∀k,Ga j Rd y ⟨a.ntmps,Y,H⟩ {tmps:=t.tmps,defers:=[]} k->∃v,(results a t.tmps).run P k=.ok v k/\VR (bN j Rd y H k) (some y) (My A) v:=by
  intro k C;obtain⟨E,ak,g⟩:=C_ (P:=P) C _ _ ai;have hm:(a.results.mapM (lL t.tmps)).run P k=.ok E.toArray k:=by
   rw[ayq];simp only[axf,ak];rfl
  rw[wz];simp only[auF,hm,auG,auJ];refine⟨_,rfl,?_⟩
  match A,E,g with
  |[],[],g=>exact .tu [] rfl d5
  |[c],[u],g=>simpa[My]using g.2 0 c u rfl rfl
  |c::Z::A,u::u2::E,g=>
   have:¬(u::u2::E).toArray.size=1:=d5
   rw[dif_neg this];exact .tu _ g.1 g.2
  |[],u::E,g=>have:=g.1;simp at this
  |[c],[],g=>have:=g.1;simp at this
  |[c],u::u2::E,g=>have:=g.1;simp at this
  |c::Z::A,[],g=>have:=g.1;simp at this
  |c::Z::A,[u],g=>have:=g.1;simp at this
 have a7:LeavesInM Fence.wide 0 P a t.tmps (λx z=>∃v I,x=.returned v/\SR B Rd I H z/\VR (bN B Rd I H z) (some I) (My A) v) t.defers .returning z:=by
  rw[L.d,hl];refine xv (λk=>Ga j Rd y ⟨a.ntmps,Y,H⟩ {tmps:=t.tmps,defers:=[]} k) (λk C=>?_) l z ag (λD R=>?_) (a9 _ rfl rfl) λk D R C a3=>?_
  ·obtain⟨v,an,ao⟩:=aj k C
   exact⟨v,an,v,y,rfl,a4 _ _ _ C.sr,ao.mono λb o u U=>a5 _ _ _ b o u U⟩
  ·obtain⟨s,Q⟩:=ab D R
   rw[L.sr.ext.block D s,Q]
  ·refine C.putObj _ a3 rfl (.inl ?_)
   rcases ad D (by rw[hl];exact auD.2 ⟨D,R,rfl⟩)with s|s
   ·rw[N]at s;cases s
   ·exact s
 rcases X with rfl|rfl<;>exact a7
def bQ.xw{t n:Do (Nat×AV)}{h h2:Hp}(B:∀i,bD n i=bD t i\/bD n i=.un)(z:∀k,aZ h2 k=aZ h k\/aZ h2 k=none):bQ P ⟨c,t,h⟩ ⟨c,n,h2⟩:=by
 intro v p e a w j;have l:∀k ob,aZ h2 k=some ob->aZ h k=some ob:=λk ob f=>by
  rcases z k with g|g
  ·rw[<-g];exact f
  ·rw[g]at f;cases f
 have q:∀b o u,bN v p e h w b o u->bN v p e h2 w b o u:=λb o u ⟨g,h2,x⟩=>⟨g,h2,λk ob f m=>x k ob (l k ob f) m⟩;refine⟨e,j.n,j.d,⟨j.sr.ext,j.sr.kg,λk ob f=>(j.sr.ob k ob (l k ob f)).mono q,λk ob b f m=>j.sr.base k ob b (l k ob f) m,λk r ob s b f A m y=>j.sr.inj k r ob s b (l k ob f) (l r s A) m y,j.sr.rL⟩,λi=>?_⟩;show VR _ _ (bD n i) _;rcases B i with g|g
 ·rw[g];exact(j.tr i).mono q
 ·rw[g];exact .un
def va(t:Do (Nat×AV)):a_->Do (Nat×AV)
 |[]=>[]
 |i::a=>(i,bD t i)::va t a
def Ua(h:Hp):a_->Hp
 |[]=>[]
 |k::a=>(k,aZ h k)::Ua h a
def bQ.Rp(i:Nat){c:AV}(k:jK st.h (bD st.t i)=some (L,c)):bQ P st ⟨st.n,(i,c)::st.t,L⟩:=by
 intro o n e a w f;obtain⟨g,l,m⟩:=rO f.sr (f.tr i) k;have b:=f.cP l;refine⟨g,b.n,b.d,b.sr,λj=>?_⟩;simp only[bD];split
 ·rename_i h;subst h;exact m.cV
 ·exact b.tr j
def bQ.same{n:Nat}{t b:Do (Nat×AV)}{h a:Hp}(e:∀i,bD b i=bD t i)(c:∀k,aZ a k=aZ h k):bQ P ⟨n,t,h⟩ ⟨n,b,a⟩:=.xw (λi=>.inl (e i)) (λk=>.inl (c k))
end
def swp(a b k:Nat):Nat:=if k=a then b else if k=b then a else k
def pS(a b k:Nat):swp a b (swp a b k)=k:=by
 unfold swp;by_cases e:k=a
 ·subst e
  by_cases c:b=k<;>simp[c]
 ·by_cases c:k=b
  ·subst c;simp[e]
  ·simp[e,c]
def Ub(a b:Nat):∀i j,swp a b i=swp a b j->i=j:=λi j h=>by
 have:=auA (swp a b) h;rwa[pS,pS]at this
section
variable{P:Fd}{st:St}
def bQ.swap(x y:Nat)(H:x<4294967296)(I:y<4294967296):bQ P st ⟨st.n,Mn (swp x y) st.t,kH (swp x y) st.h⟩:=by
 intro v q e a w l;let g:Env:=⟨λk=>e.bW (swp x y k),λk=>e.sv (swp x y k),λk=>e.cP (swp x y k)⟩;have s:∀j,g.bW (swp x y j)=e.bW j:=λj=>by simp[g,pS]
 have t:∀j,g.sv (swp x y j)=e.sv j:=λj=>by simp[g,pS]
 have E:∀j,g.cP (swp x y j)=e.cP j:=λj=>by simp[g,pS]
 have C:∀k,aZ (kH (swp x y) st.h) k=(aZ st.h (swp x y k)).map (Ob.hV (swp x y)):=λk=>by
  have:=Mp (swp x y) (Ub x y) st.h (swp x y k);rwa[pS]at this
 have m:∀k ob,aZ (kH (swp x y) st.h) k=some ob->∃f,aZ st.h (swp x y k)=some f/\ob=f.hV (swp x y):=λk ob c=>by
  rw[C]at c;obtain⟨f,h,n⟩:=auY.1 c;exact⟨f,h,n.symm⟩
 have r:∀b o u,bN v q e st.h w b o u->bN v q g (kH (swp x y) st.h) w b o u:=λb o u ⟨n,z,A⟩=>⟨n,z,λk ob c p=>by
  obtain⟨f,h,_⟩:=m k ob c;exact A _ f h p⟩
 refine⟨g,l.n,l.d,⟨l.sr.ext,l.sr.kg,λk ob c=>?_,λk ob b c p=>?_,λk F ob G b c D p B=>?_,λk c=>?_⟩,λi=>?_⟩
 ·obtain⟨f,h,rfl⟩:=m k ob c
  have:=((l.sr.ob _ f h).mono r).hV (e':=g) (swp x y) s t E;rwa[pS]at this
 ·obtain⟨f,h,rfl⟩:=m k ob c
  exact l.sr.base _ f b h p
 ·obtain⟨f,h,rfl⟩:=m k ob c
  obtain⟨J,n,rfl⟩:=m F G D;exact Ub x y _ _ (l.sr.inj _ _ _ _ _ h n p B)
 ·have:swp x y k=k:=by unfold swp;rw[aun bv,aun bv]
  simp only[g,this];exact l.sr.rL k c
 ·show VR _ _ (bD (Mn (swp x y) st.t) i) _
  rw[Mo];exact((l.tr i).mono r).hV rfl (swp x y) s t
def bQ.own(i k:Nat)(r:k<4294967296)(t:EQ)(h:Nat)(f:bD st.t i=.sl true c [])(fC:i<st.n):bQ P st ⟨st.n,(i,.ow k)::c8 k st.t,(k,some (.arr t h [] true))::bw k st.h⟩:=by
 intro x n e a w b;have m:=b.tr i;rw[f]at m;obtain⟨g,y,z,l,_,_,_,_,_,v,_⟩:=m.mr;have:=v rfl;simp only[avg]at this l;subst this;obtain⟨s,o⟩:=b.sr.kill k;obtain⟨u,p⟩:=s.Ea k t h g (ef k st.h) r;refine⟨_,b.n,b.d,u,λj=>?_⟩;simp only[bD];split
 ·rename_i q
  subst q;rw[l];have:=VR.ow (Rd:=bN x n (e.cO k none (.slice g 0 0) 0) ((k,some (.arr t h [] true))::bw k st.h) w) (e:=e.cO k none (.slice g 0 0) 0) (k:=k);rw[Env.dK]at this;exact this
 ·exact((((b.tr.kill k).mono o).mono p).env k (dQ k st.t) (λ_ f=>Env.bG f) (λ_ f=>Env.de f)) j
end
section
variable{P:Fd}{st:St}{d:iC}{ty t t2:EQ}{pos:String}{af:dm}{gd:fH}{x y:If}{k:IntKind}{a b:Int}
def RS.akq{c:AV}(h:st.ev x=c):RS P ⟨d,.move x,ty,pos,af,gd⟩ st c:=h▸RS.move x
def RS.aoe(c:st.ev B=.v (.bool true))(h:st.ev x=C):RS P ⟨d,.pick B x y,ty,pos,af,gd⟩ st C:=by
 have:=RS.pick (P:=P) (st:=st) (d:=d) (ty:=ty) (pos:=pos) (af:=af) (gd:=gd) B x y true c;simpa[h]using this
def RS.aof(c:st.ev B=.v (.bool false))(h:st.ev y=C):RS P ⟨d,.pick B x y,ty,pos,af,gd⟩ st C:=by
 have:=RS.pick (P:=P) (st:=st) (d:=d) (ty:=ty) (pos:=pos) (af:=af) (gd:=gd) B x y false c;simpa[h]using this
def Uc(a b:Int):(a==b)=decide (a=b):=by
 by_cases h:a=b<;>simp[h]
def Ud(a b:Int):(a !=b)=decide (¬a=b):=by
 by_cases h:a=b<;>simp[h]
def eK(c:BinOp)(t:EQ)(x y:If)(k e:IntKind)(a b:Int)(w:GE):(eqGuard c t x y (.int k a) (.int e b)).run P w=.ok () w:=by
 cases c<;>simp[eqGuard]
def RS.bin{c:BinOp}{u v z:Id}(l:st.ev x=.v u)(m:st.ev y=.v v)(i:∀w,(eqGuard c t x y u v).run P w=.ok () w)(j:∀w,(binOp c t u v).run P w=.ok z w):RS P ⟨d,.binOp c t x y t2,ty,pos,af,gd⟩ st (.v z):=λp n e a w h=>by
 have f:=h.ev x;have g:=h.ev y;rw[l]at f;rw[m]at g;refine⟨z,.v,λo _=>?_⟩;simp only[execOp,f.bL,g.bL,auF,i,j,auG,auJ]
def RS.lss(c:st.ev x=.v (.int k a))(e:st.ev y=.v (.int k b)):RS P ⟨d,.binOp .lss t x y t2,ty,pos,af,gd⟩ st (.v (.bool (decide (a<b)))):=
 RS.bin c e (eK _ _ _ _ _ _ _ _) λw=>by simp[binOp_lss]
def RS.leq(c:st.ev x=.v (.int k a))(e:st.ev y=.v (.int k b)):RS P ⟨d,.binOp .leq t x y t2,ty,pos,af,gd⟩ st (.v (.bool (decide (a<=b)))):=
 RS.bin c e (eK _ _ _ _ _ _ _ _) λw=>by simp[binOp_leq]
def RS.gtr(c:st.ev x=.v (.int k a))(e:st.ev y=.v (.int k b)):RS P ⟨d,.binOp .gtr t x y t2,ty,pos,af,gd⟩ st (.v (.bool (decide (b<a)))):=
 RS.bin c e (eK _ _ _ _ _ _ _ _) λw=>by simp[binOp_gtr]
def RS.geq(c:st.ev x=.v (.int k a))(e:st.ev y=.v (.int k b)):RS P ⟨d,.binOp .geq t x y t2,ty,pos,af,gd⟩ st (.v (.bool (decide (b<=a)))):=
 RS.bin c e (eK _ _ _ _ _ _ _ _) λw=>by simp[binOp_geq]
def RS.eql(c:st.ev x=.v (.int k a))(e:st.ev y=.v (.int k b)):RS P ⟨d,.binOp .eql t x y t2,ty,pos,af,gd⟩ st (.v (.bool (decide (a=b)))):=
 RS.bin c e (eK _ _ _ _ _ _ _ _) λw=>by simp only[binOp_eql,auJ,Uc]
def RS.neq(c:st.ev x=.v (.int k a))(e:st.ev y=.v (.int k b)):RS P ⟨d,.binOp .neq t x y t2,ty,pos,af,gd⟩ st (.v (.bool (decide (¬a=b)))):=
 RS.bin c e (eK _ _ _ _ _ _ _ _) λw=>by simp only[binOp_neq,auJ,Ud]
def RS.add(c:st.ev x=.v (.int k a))(e:st.ev y=.v (.int k b)):RS P ⟨d,.binOp .add t x y t2,ty,pos,af,gd⟩ st (.v (.int k (k.wrap (a+b)))):=
 RS.bin c e (eK _ _ _ _ _ _ _ _) λw=>by simp[binOp_add,Op.intArith]
def RS.sub(c:st.ev x=.v (.int k a))(e:st.ev y=.v (.int k b)):RS P ⟨d,.binOp .sub t x y t2,ty,pos,af,gd⟩ st (.v (.int k (k.wrap (a - b)))):=
 RS.bin c e (eK _ _ _ _ _ _ _ _) λw=>by simp[binOp_sub,Op.intArith]
def RS.mul(c:st.ev x=.v (.int k a))(e:st.ev y=.v (.int k b)):RS P ⟨d,.binOp .mul t x y t2,ty,pos,af,gd⟩ st (.v (.int k (k.wrap (a*b)))):=
 RS.bin c e (eK _ _ _ _ _ _ _ _) λw=>by simp[binOp_mul,Op.intArith]
def RS.rem(e:st.ev x=.v (.int k a))(f:st.ev y=.v (.int k b))(c:¬b=0):RS P ⟨d,.binOp .rem t x y t2,ty,pos,af,gd⟩ st (.v (.int k (a.tmod b))):=
 RS.bin e f (eK _ _ _ _ _ _ _ _) λw=>by simp[binOp_rem,Op.intDiv,c]
def RS.quo(e:st.ev x=.v (.int k a))(f:st.ev y=.v (.int k b))(c:¬b=0):RS P ⟨d,.binOp .quo t x y t2,ty,pos,af,gd⟩ st (.v (.int k (k.wrap (a.tdiv b)))):=
 RS.bin e f (eK _ _ _ _ _ _ _ _) λw=>by simp[binOp_quo,Op.intDiv,c]
def RS.not{b:In}(g:st.ev x=.v (.bool b)):RS P ⟨d,.unOp .not t x,ty,pos,af,gd⟩ st (.v (.bool (!b))):=λl i e a w h=>by
 have c:=h.ev x;rw[g]at c;refine⟨_,.v,λj _=>?_⟩;have f:=c.bL;simp only[execOp,f,unary_not,auF,auJ,auG]
def RS.arT{b c:In}(e:P.underlying t=some .bool)(f:st.ev x=.v (.bool b))(g:st.ev y=.v (.bool c)):RS P ⟨d,.binOp .eql t x y t2,ty,pos,af,gd⟩ st (.v (.bool (b==c))):=
 RS.bin f g (λw=>by simp[eqGuard]) λw=>run_eql_bool w t b c e
def RS.min2{p:hX}{m n:Int}(l:st.ev x=.v (.int k m))(o:st.ev y=.v (.int k n)):RS P ⟨d,.call ⟨.builtin .min, #[x,y],p⟩,ty,pos,af,gd⟩ st (.v (.int k (if n<m then n else m))):=λs q e a w h=>by
 have c:=h.ev x;have f:=h.ev y;rw[l]at c;rw[o]at f;refine⟨_,.v,λr _=>?_⟩;have g:=c.bL;have i:=f.bL;have j:(#[x,y]:gp).map a.eval= #[.int k m,.int k n]:=by simp only[awI,auL,avy,g,i]
 simp only[execOp,resolve,j,auF,auJ,auG,invoke,builtin,Builtin.min_,awW,awX,Builtin.min2]
end
variable{U:Fd}
structure En where
 d:bX
 c:AV
 os:Hp
 us:a_
 fr:Nat->Bool
 al:Nat->Ob->Prop
def fC(k:Nat)(h:Hp):In:=h.any λp=>p.1==k
def Ek(a:fC c L=false)(h':Hp):aZ (L++h') c=aZ h' c:=by
 rw[db,aun (by unfold fC at a;rw[a];simp)]
def HP(a:fC c L=true)(h':Hp):aZ (L++h') c=aZ L c:=by
 rw[db,auo (by unfold fC at a;rw[a])]
def Ob.f_(p:Nat->In):Ob->In
 |.box _ a=>AV.mu p a
 |.arr .. =>true
 |.mp .. =>true
 |.nr _ a=>AV.mu p a
def mA(p:Nat->In)(h:Hp):In:=h.all λq=> !p q.1 && (match q.2 with|some ob=>ob.f_ p|none=>true)
def Ue(p:Nat->In)(h:Hp):In:=h.all λq=>(match q.2 with|some ob=>ob.f_ p|none=>true)
def rR(p:Nat->In)(t:Do (Nat×AV)):In:=t.all λq=>q.2.f_ p
def Em{p:Nat->In}:∀{t:Do (Nat×AV)},rR p t=true->∀i,(bD t i).f_ p=true
 |[],_,i=>rfl
 |(j,c)::t,h,i=>by
  simp only[rR,avx,aup]at h;simp only[bD];split
  ·exact h.1
  ·exact Em (by simpa[rR]using h.2) i
def MA{p:Nat->In}:∀{h:Hp},Ue p h=true->∀k ob,aZ h k=some ob->ob.f_ p=true
 |[],_,k,ob,h=>by simp[aZ]at h
 |(j,o)::t,h,k,ob,a=>by
  simp only[Ue,avx,aup]at h;by_cases b:k=j
  ·subst b
   rw[bf]at a;subst a;exact h.1
  ·rw[bc b]at a
   exact MA (by simpa[Ue]using h.2) k ob a
def jM:bX->AV->Do (Nat×AV)->Do (Nat×AV)
 |some d,c,t=>(d,c)::t
 |none,_,t=>t
def CQ(t:Do (Nat×AV)):Do En->Do (Nat×AV)
 |[]=>t
 |u::a=>CQ (jM u.d u.c t) a
def Av(h:Hp):Do En->Hp
 |[]=>h
 |u::a=>Av (u.os++h) a
def ahJ(a:a_)(o:Oper):Nat:=o.after.toList.foldl (λm e=>if Region.binds .any e then m|||(2^e.on)|||a.getD e.on 0 else m) 0
def abq:a_->bp->a_
 |a,[]=>a
 |a,o::l=>abq (a++[ahJ a o]) l
def cW(l:bp)(j i:Nat):In:=((abq [] l).getD j 0).testBit i
def mB(l:bp)(S:Nat->In):Prop:=∀(j:Nat) o,l[j]? =some o->S j=true->∀e∈o.after,Region.binds .any e=true->S e.on=true
def abr(h:(ahJ Z F).testBit c=true):∃e∈F.after,Region.binds .any e=true/\(e.on=c\/(Z.getD e.on 0).testBit c=true):=by
 have j:∀(d:Do Edge) (m:Nat),(d.foldl (λm e=>if Region.binds .any e then m|||(2^e.on)|||Z.getD e.on 0 else m) m).testBit c=true->m.testBit c=true\/∃e∈d,Region.binds .any e=true/\(e.on=c\/(Z.getD e.on 0).testBit c=true):=by
  intro d
  induction d with
  |nil=>intro m h;exact .inl h
  |cons e d i=>
   intro m h;rw[List.foldl_cons]at h;rcases i _ h with a|⟨g,f,b⟩
   ·split at a
    ·rename_i b
     simp only[Nat.testBit_or,avm]at a;rcases a with(a|a)|a
     ·exact .inl a
     ·rw[Nat.testBit_two_pow]at a
      exact .inr ⟨e,d5,b,.inl (by simpa using a)⟩
     ·exact .inr ⟨e,d5,b,.inr a⟩
    ·exact .inl a
   ·exact .inr ⟨g,by simp[f],b⟩
 rcases j _ _ h with a|⟨e,f,b⟩
 ·simp at a
 ·exact⟨e,by simpa using f,b⟩
def eR{l:bp}{S:Nat->In}(n:mB l S):∀(j i:Nat),cW l j i=true->S j=true->S i=true:=by
 have v:∀(l2 c:bp) (a:a_),l=c++l2->a.length=c.length->(∀j i,(a.getD j 0).testBit i=true->S j=true->S i=true)->∀j i,((abq a l2).getD j 0).testBit i=true->S j=true->S i=true:=by
  intro l2
  induction l2 with
  |nil=>intro c a _ _ h;exact h
  |cons o l2 u=>
   intro c a k m h;refine u (c++[o]) _ (by simp[k]) (by simp[m]) λj i b g=>?_;by_cases s:j<a.length
   ·simp only[List.getD,au7 s]at b
    exact h j i b g
   ·by_cases r:j=a.length
    ·subst r
     simp[List.getD]at b;obtain⟨e,q,p,d⟩:=abr b;have t:l[a.length]? =some o:=by rw[k,m];simp
     have f:=n _ o t g e q p;rcases d with rfl|d
     ·exact f
     ·exact h _ i d f
    ·have:(a++[ahJ a o]).getD j 0=0:=by
      simp[List.getD,au5 (show(a++[ahJ a o]).length<=j by simp;omega)]
     rw[this]at b;simp at b
 exactλj i=>v l [] [] rfl rfl (λj i h=>by simp at h) j i
def abt(l:bp)(j x:Nat):In:=(List.range l.length).all λi=>match l[i]? with
 |some o=>o.dst !=some x||Nat.beq i j||cW l i j
 |none=>true
structure Kn(l:bp)(iW:St)(done:List En)(o:Oper)(u:En)(st:St):Prop where
 n:st.n=iW.n
 t0:∀x,(l.all λo=>o.dst !=some x)=true->bD st.t x=bD iW.t x
 t1:∀x,abt l done.length x=true->bD st.t x=bD iW.t x
 ts:∀e∈o.after,Region.binds .any e=true->∀v d,done[e.on]? =some v->v.d=some d->bD st.t d=v.c
 h:∀k,u.us.contains k=true->aZ st.h k=aZ (Av iW.h done) k\/∃ob,aZ st.h k=some ob/\u.al k ob
 ft:∀x,(bD st.t x).f_ u.fr=true
 fh:∀k ob,aZ st.h k=some ob->ob.f_ u.fr=true
 fk:∀k,u.fr k=true->aZ st.h k=none
def DS(P:Fd)(l:bp)(a:St)(done:Do En)(o:Oper)(u:En):Prop:=
 ∀st,Kn l a done o u st->GS P l.toArray o st (λs=>s=⟨st.n,jM u.d u.c st.t,u.os++st.h⟩)
def alj(v u:En):Prop:=
 v.os.all (λp=> !fC p.1 u.os && !u.us.contains p.1)=true/\∀k,fC k u.os=true->v.us.contains k=true->∃ob,aZ u.os k=some ob/\v.al k ob
def HQ(l:bp)(i j:Nat)(v u:En):Prop:=alj v u\/cW l j i=true
def YY(l:bp)(i j:Nat)(v u:En):Prop:=
 (v.c.f_ u.fr=true/\mA u.fr v.os=true)/\((u.c.f_ v.fr=true/\mA v.fr u.os=true)\/cW l j i=true)
def MB(l:bp)(u:En)(j:Nat):Nat->Do En->Prop
 |_,[]=>True
 |i,v::done=>HQ l i j v u/\YY l i j v u/\MB l u j (i+1) done
def Eo{l:bp}{u:En}{j:Nat}:∀{a:Nat} {done:Do En},MB l u j a done->∀(i:Nat) v,done[i]? =some v->HQ l (a+i) j v u/\YY l (a+i) j v u
 |a,[],_,i,v,h=>by simp at h
 |a,x::done,b,i,v,h=>by
  cases i with
  |zero=>simp at h;subst h;exact⟨b.1,b.2.1⟩
  |succ i=>
   have:=Eo b.2.2 i v (by simpa using h);rw[show a+(i+1)=a+1+i by omega];exact this
def xx:bp->In
 |[]=>true
 |o::l=>(match o.dst with|some d=>l.all λp=>p.dst !=some d|none=>true) && xx l
def gX:∀{l:bp},xx l=true->∀(i j:Nat) o p d,l[i]? =some o->l[j]? =some p->o.dst=some d->p.dst=some d->i=j
 |[],_,i,j,o,p,d,h,_,_,_=>by simp at h
 |x::l,c,i,j,o,p,d,a,b,e,f=>by
  simp only[xx,aup]at c;have m:∀(k:Nat) y,l[k]? =some y->x.dst=some d->y.dst≠some d:=λk y n q r=>by
   have g:=c.1;simp only[q]at g;have:=auO.1 g y (auI n);simp[r]at this
  cases i with
  |zero=>
   simp at a;subst a;cases j with
   |zero=>rfl
   |succ j=>exact absurd f (m j p (by simpa using b) e)
  |succ i=>
   cases j with
   |zero=>simp at b;subst b;exact absurd e (m i o (by simpa using a) f)
   |succ j=>rw[gX c.2 i j o p d (by simpa using a) (by simpa using b) e f]
structure JW(P:Program)(l:bp)(iW:St)(pl:List En):Prop where
 len:pl.length=l.length
 step:∀(j:Nat) o u,l[j]? =some o->pl[j]? =some u->o.dst=u.d/\DS P l iW (pl.take j) o u
 fit:∀(i j:Nat) v u,i<j->pl[i]? =some v->pl[j]? =some u->HQ l i j v u/\YY l i j v u
 CR:∀(j:Nat) u,pl[j]? =some u->rR u.fr iW.t=true/\mA u.fr iW.h=true
 inj:xx l=true
 back:∀(j:Nat) o,l[j]? =some o->∀e∈o.after,Region.binds .any e=true->e.on<j
structure xy(l:bp)(iW:St)(pl:List En):Prop where
 len:pl.length=l.length
 dst:∀(j:Nat) o u,l[j]? =some o->pl[j]? =some u->o.dst=u.d
 fit:∀(i j:Nat) v u,i<j->pl[i]? =some v->pl[j]? =some u->HQ l i j v u/\YY l i j v u
 CR:∀(j:Nat) u,pl[j]? =some u->rR u.fr iW.t=true/\mA u.fr iW.h=true
 inj:xx l=true
 back:∀(j:Nat) o,l[j]? =some o->∀e∈o.after,Region.binds .any e=true->e.on<j
def JW.w{l:bp}{a:Do En}(h:JW U l Y a):xy l Y a:=⟨h.len,λj o u b c=>(h.step j o u b c).1,h.fit,h.CR,h.inj,h.back⟩
structure Inv(iW:St)(pl:List En)(S:Nat->Bool)(st:St):Prop where
 n:st.n=iW.n
 t0:∀x,(∀i u,pl[i]? =some u->S i=true->u.d≠some x)->bD st.t x=bD iW.t x
 ts:∀(i:Nat) u d,pl[i]? =some u->S i=true->u.d=some d->bD st.t d=u.c
 h0:∀k,(∀(i:Nat) u,pl[i]? =some u->S i=true->fC k u.os=false)->aZ st.h k=aZ iW.h k
 hs:∀k (i:Nat) u,pl[i]? =some u->S i=true->fC k u.os=true->(∀(i':Nat) u',i<i'->pl[i']? =some u'->S i'=true->fC k u'.os=false)->aZ st.h k=aZ u.os k
def pT{p:Nat->In}:∀{h:Hp} {k:Nat},mA p h=true->p k=true->fC k h=false
 |[],k,_,_=>rfl
 |(j,o)::h,k,a,b=>by
  simp only[mA,avx,aup]at a;simp only[fC,awd,awp];refine⟨?_,pT (h:=h) (by simpa[mA]using a.2) b⟩;have:p j=false:=by simpa using a.1.1
  simp;rintro rfl;rw[b]at this;cases this
def Ep{p:Nat->In}(a:mA p L=true){ob:Ob}(b:aZ L c=some ob):ob.f_ p=true:=by
 refine MA (p:=p) (h:=L) ?_ c ob b;simp only[mA,auO,aup]at a;simp only[Ue,auO];exactλq d=>(a q d).2
def og:∀{h:Hp} {k:Nat},fC k h=false->aZ h k=none
 |[],_,_=>rfl
 |(j,o)::h,k,a=>by
  simp only[fC,awd,awp]at a;have:¬k=j:=λb=>by have:=a.1;simp[b]at this
  simp only[aZ,this,avf];exact og a.2
def JX(p:Nat->Prop):∀N,(∃i,i<N/\p i)->∃i,i<N/\p i/\∀a,i<a->a<N->¬p a
 |0,⟨i,h,_⟩=>by omega
 |N+1,⟨i,h,e⟩=>by
  by_cases b:p N
  ·exact⟨N,bv,b,λa f d=>by omega⟩
  ·obtain⟨i,f,d,g⟩:=JX p N ⟨i,by
    rcases awT i N with c|c
    ·exact c
    ·have:i=N:=bv
     subst this;exact absurd e b,e⟩
   refine⟨i,bv,d,λa j l=>?_⟩;by_cases k:a=N
   ·subst k;exact b
   ·exact g a j bv
def ui:∀(a:Do En) (h:Hp) (k:Nat),(∀u∈a,fC k u.os=false)->aZ (Av h a) k=aZ h k
 |[],h,k,_=>rfl
 |u::a,h,k,b=>by rw[Av,ui a _ k (λv c=>b v (by simp[c])),Ek (b u d5)]
def Aw:∀(a:Do En) (h:Hp) (k i:Nat) (u:En),a[i]? =some u->fC k u.os=true->(∀(c:Nat) d,i<c->a[c]? =some d->fC k d.os=false)->aZ (Av h a) k=aZ u.os k
 |[],h,k,i,u,b,_,_=>by simp at b
 |v::a,h,k,0,u,b,f,e=>by
  simp at b;subst b;rw[Av,ui a _ k (λw m=>by
   obtain⟨j,l,rfl⟩:=avc m;exact e (j+1) _ bv (by simp[auy l])),HP f]
 |v::a,h,k,i+1,u,b,f,e=>by
  rw[Av];exact Aw a _ k i u (by simpa using b) f λc d n g=>e (c+1) d bv (by simpa using g)
def jj:bD (jM I C K) c=if I=some c then C else bD K c:=by
 cases I with
 |none=>simp[jM]
 |some I=>
  simp only[jM,bD];by_cases h:c=I
  ·subst h;simp
  ·have:¬I=c:=λe=>h e.symm
   simp[h,this]
def Ax:∀(a:Do En) (t:Do (Nat×AV)) (x:Nat),(∀u∈a,u.d≠some x)->bD (CQ t a) x=bD t x
 |[],t,x,_=>rfl
 |u::a,t,x,b=>by rw[CQ,Ax a _ x (λv c=>b v (by simp[c])),jj,aun (b u d5)]
def HS:∀(a:Do En) (t:Do (Nat×AV)) (x i:Nat) (u:En),a[i]? =some u->u.d=some x->(∀(c:Nat) d,i<c->a[c]? =some d->d.d≠some x)->bD (CQ t a) x=u.c
 |[],t,x,i,u,b,_,_=>by simp at b
 |v::a,t,x,0,u,b,f,e=>by
  simp at b;subst b;rw[CQ,Ax a _ x (λw k=>by
   obtain⟨j,h,rfl⟩:=avc k;exact e (j+1) _ bv (by simp[auy h])),jj,auo f]
 |v::a,t,x,i+1,u,b,f,e=>by
  rw[CQ];exact HS a _ x i u (by simpa using b) f λc d l g=>e (c+1) d bv (by simpa using g)
section
section
variable{P:Fd}{l:bp}{iW:St}{pl:Do En}{S:Nat->In}{st:St}
def mC(n:xy l iW pl)(q:Nat->En->Prop)(h:∃i u,pl[i]? =some u/\q i u):∃i u,pl[i]? =some u/\q i u/\∀a b,i<a->pl[a]? =some b->¬q a b:=by
 obtain⟨i,u,e,c⟩:=h;obtain⟨i,m,⟨u,k,c⟩,f⟩:=JX (λi=>∃u,pl[i]? =some u/\q i u) pl.length ⟨i,(aus.1 e).1,u,e,c⟩;exact⟨i,u,k,c,λa b g d j=>f a g (aus.1 d).1 ⟨b,d,j⟩⟩
def Inv.kn(m:xy l iW pl)(n:Inv iW pl S st){u:En}(W:l[c]? =some F)(y:pl[c]? =some u)(Q:mB l S)(D:S c=false)(X:∀e∈F.after,Region.binds .any e=true->S e.on=true):
 Kn l iW (pl.take c) F u st:=by
 have a7:c<pl.length:=(aus.1 y).1;have a0:(pl.take c).length=c:=d7
 have a1:mB l (λi=>S i||i==c):=λi C B b e H A=>by
  by_cases w:i=c
  ·subst w
   obtain rfl:=aut (W.symm.trans B);simp[X e H A]
  ·have:S i=true:=by simpa[w]using b
   simp[Q i C B this e H A]
 have a2:∀i,cW l c i=true->i≠c->S i=true:=λi A w=>by
  have:=eR a1 c i A d5;simpa[w]using this
 have L:∀i,S i=true->cW l i c=false:=λi b=>by
  cases h:cW l i c with
  |false=>rfl
  |true=>rw[eR Q i c h b]at D;cases D
 have M:∀(i:Nat) v,pl[i]? =some v->S i=true->v.c.f_ u.fr=true/\mA u.fr v.os=true:=λi v a b=>by
  rcases avU i c with h|h|h
  ·exact(m.fit i c v u h a y).2.1
  ·subst h;rw[D]at b;cases b
  ·rcases(m.fit c i u v h y a).2.2 with f|f
   ·exact f
   ·rw[L i b]at f;cases f
 have R:∀(i:Nat) v,pl[i]? =some v->∃C,l[i]? =some C/\C.dst=v.d:=λi v a=>by
  have J:i<l.length:=by rw[<-m.len];exact(aus.1 a).1
  exact⟨l[i],auy J,m.dst i _ v (auy J) a⟩
 have a3:∀k,u.fr k=true->aZ st.h k=none:=λk r=>by
  rw[n.h0 k λi v a b=>pT (M i v a b).2 r];exact og (pT (m.CR c u y).2 r)
 refine⟨n.n,λx K=>?_,λx K=>?_,λe H A v d a s=>?_,λk r=>?_,λx=>?_,λk ob r=>?_,a3⟩
 ·refine n.t0 x λi v a _ s=>?_
  obtain⟨C,B,N⟩:=R i v a;have:=auO.1 K C (auI B);rw[N,s]at this;simp at this
 ·rw[a0]at K
  refine n.t0 x λi v a b s=>?_;obtain⟨C,B,N⟩:=R i v a;have J:i<l.length:=(aus.1 B).1;have:=auO.1 K i (by simpa using J);simp only[B,N,s,L i b,Bool.or_false,avm]at this;rcases this with h|h
  ·simp at h
  ·have:i=c:=by simpa using h
   subst this;rw[D]at b;cases b
 ·have I:=m.back c F W e H A
  rw[au3,auo I]at a;exact n.ts e.on v d a (X e H A) s
 ·
  have Y:∀(i:Nat) v,pl[i]? =some v->fC k v.os=true->(i<c->S i=true)/\(S i=true->i<c\/∃ob,aZ v.os k=some ob/\u.al k ob):=λi v a j=>by
   obtain⟨p,a4,O⟩:=av6.1 j;have O:p.1=k:=by simpa using O
   refine⟨λI=>?_,λb=>?_⟩
   ·rcases(m.fit i c v u I a y).1 with f|f
    ·have:=auO.1 f.1 p a4
     simp only[aup,O,r]at this;simp at this
    ·exact a2 i f bv
   ·rcases avU i c with h|h|h
    ·exact .inl h
    ·subst h;rw[D]at b;cases b
    ·rcases(m.fit c i u v h y a).1 with f|f
     ·exact .inr (f.2 k j r)
     ·rw[L i b]at f;cases f
  by_cases U:∃i v,pl[i]? =some v/\(S i=true/\c<i/\fC k v.os=true)
  ·obtain⟨i,v,a,⟨b,a6,j⟩,E⟩:=mC m (λi v=>S i=true/\c<i/\fC k v.os=true) U
   rcases(Y i v a j).2 b with h|⟨ob,f,q⟩
   ·omega
   ·exact .inr ⟨ob,(n.hs k i v a b j λz o G h4 h5=>by
     cases g:fC k o.os with
     |false=>rfl
     |true=>exact absurd ⟨h5,bv,g⟩ (E z o G h4)).trans f,q⟩
  refine .inl ?_;have Z:∀(i:Nat) v,pl[i]? =some v->fC k v.os=true->S i=true->i<c:=λi v a j b=>by
   rcases avU i c with h|h|h
   ·exact h
   ·subst h;rw[D]at b;cases b
   ·exact absurd ⟨i,v,a,b,h,j⟩ U
  by_cases t:∃i v,pl[i]? =some v/\(i<c/\fC k v.os=true)
  ·obtain⟨i,v,a,⟨w,j⟩,E⟩:=mC m (λi v=>i<c/\fC k v.os=true) t
   rw[n.hs k i v a ((Y i v a j).1 w) j λz o f q G=>?_]
   ·refine(Aw _ _ k i v (by rw[au3,auo w];exact a) j λz o f q=>?_).symm
    rw[au3]at q;split at q
    ·rename_i I
     cases g:fC k o.os with
     |false=>rfl
     |true=>exact absurd ⟨I,g⟩ (E z o f q)
    ·cases q
   ·cases g:fC k o.os with
    |false=>rfl
    |true=>exact absurd ⟨Z z o q g G,g⟩ (E z o f q)
  ·rw[n.h0 k λi v a b=>?_,ui _ _ k λv a=>?_]
   ·obtain⟨i,V,rfl⟩:=avc a
    have w:i<c:=by rw[a0]at V;exact V
    have a5:pl[i]? =some ((pl.take c)[i]):=by
     rw[List.getElem_take];exact auy bv
    cases g:fC k ((pl.take c)[i]).os with
    |false=>rfl
    |true=>exact absurd ⟨i,_,a5,w,g⟩ t
   ·cases g:fC k v.os with
    |false=>rfl
    |true=>exact absurd ⟨i,v,a,Z i v a g b,g⟩ t
 ·by_cases t:∃(i:Nat) (v:En),pl[i]? =some v/\S i=true/\v.d=some x
  ·obtain⟨i,v,a,b,s⟩:=t
   rw[n.ts i v x a b s];exact(M i v a b).1
  ·rw[n.t0 x λi v a b s=>t ⟨i,v,a,b,s⟩]
   exact Em (m.CR c u y).1 x
 ·by_cases t:∃i v,pl[i]? =some v/\(S i=true/\fC k v.os=true)
  ·obtain⟨i,v,a,⟨b,j⟩,E⟩:=mC m (λi v=>S i=true/\fC k v.os=true) t
   rw[n.hs k i v a b j λz o f q G=>by
    cases g:fC k o.os with
    |false=>rfl
    |true=>exact absurd ⟨G,g⟩ (E z o f q)]at r
   exact Ep (M i v a b).2 r
  ·rw[n.h0 k λi v a b=>by
    cases g:fC k v.os with
    |false=>rfl
    |true=>exact absurd ⟨i,v,a,b,g⟩ t]at r
   exact Ep (m.CR c u y).2 r
def Inv.step(n:xy l iW pl)(j:Inv iW pl S st){u:En}(W:l[c]? =some F)(g:pl[c]? =some u)(L:mB l S)(C:S c=false):
 Inv iW pl (λi=>S i||i==c) ⟨st.n,jM u.d u.c st.t,u.os++st.h⟩:=by
 have M:∀i,S i=true->cW l i c=false:=λi b=>by
  cases h:cW l i c with
  |false=>rfl
  |true=>rw[eR L i c h b]at C;cases C
 have w:∀i,S i=true->(S i||i==c)=true:=λi h=>by simp[h]
 have z:∀(i:Nat) v,pl[i]? =some v->∃o,l[i]? =some o/\o.dst=v.d:=λi v a=>by
  have B:i<l.length:=by rw[<-n.len];exact(aus.1 a).1
  exact⟨l[i],auy B,n.dst i _ v (auy B) a⟩
 refine⟨j.n,λx I=>?_,λi v d a b t=>?_,λk D=>?_,λk i v a b m E=>?_⟩
 ·simp only[jj]
  rw[aun (I c u g d5)];exact j.t0 x λi v a b=>I i v a (w i b)
 ·simp only[jj]
  by_cases f:i=c
  ·subst f
   obtain rfl:=aut (g.symm.trans a);rw[auo t]
  ·have O:u.d≠some d:=λR=>by
    obtain⟨o,e,r⟩:=z i v a;obtain⟨U,s,K⟩:=z c u g;exact f (gX n.inj i c o U d e s (r.trans t) (K.trans R))
   rw[aun O];exact j.ts i v d a (by simpa[f]using b) t
 ·show aZ (u.os++st.h) k=_
  rw[Ek (D c u g d5)];exact j.h0 k λi v a b=>D i v a (w i b)
 ·show aZ (u.os++st.h) k=_
  by_cases f:i=c
  ·subst f
   obtain rfl:=aut (g.symm.trans a);exact HP m _
  ·have H:S i=true:=by simpa[f]using b
   have N:fC k u.os=false:=by
    cases A:fC k u.os with
    |false=>rfl
    |true=>
     obtain⟨p,X,G⟩:=av6.1 m;have G:p.1=k:=by simpa using G
     obtain⟨q,Q,y⟩:=av6.1 A;have y:q.1=k:=by simpa using y
     rcases avU i c with h|h|h
     ·have:=E c u h g d5
      rw[A]at this;cases this
     ·exact absurd h f
     ·rcases(n.fit c i u v h g a).1 with e|e
      ·have:=auO.1 e.1 q Q
       simp only[aup,y,m]at this;simp at this
      ·rw[M i H]at e;cases e
   rw[Ek N];exact j.hs k i v a H m λJ V e r s=>E J V e r (w J s)
def Inv.fin(p:xy l iW pl)(f:Inv iW pl S st)(t:∀j,j<l.length->S j=true):(∀x,bD (CQ iW.t pl) x=bD st.t x)/\∀k,aZ (Av iW.h pl) k=aZ st.h k:=by
 have r:∀(i:Nat) v,pl[i]? =some v->S i=true:=λi v a=>t i (by rw[<-p.len];exact(aus.1 a).1);refine⟨λx=>?_,λk=>?_⟩
 ·by_cases d:∃(i:Nat) (v:En),pl[i]? =some v/\v.d=some x
  ·obtain⟨i,v,a,b,o⟩:=mC p (λi v=>v.d=some x) d
   rw[HS pl _ x i v a b o,f.ts i v x a (r i v a) b]
  ·rw[Ax pl _ x λv a b=>by
    obtain⟨i,n,rfl⟩:=avc a;exact d ⟨i,_,auy n,b⟩,f.t0 x λi v a _ b=>d ⟨i,v,a,b⟩]
 ·by_cases d:∃(i:Nat) (v:En),pl[i]? =some v/\fC k v.os=true
  ·obtain⟨i,v,a,b,o⟩:=mC p (λi v=>fC k v.os=true) d
   have q:∀(e:Nat) c,i<e->pl[e]? =some c->fC k c.os=false:=λe c g h=>by
    cases m:fC k c.os with
    |false=>rfl
    |true=>exact absurd m (o e c g h)
   rw[Aw pl _ k i v a b q,f.hs k i v a (r i v a) b λe c g h _=>q e c g h]
  ·have s:∀(i:Nat) v,pl[i]? =some v->fC k v.os=false:=λi v a=>by
    cases m:fC k v.os with
    |false=>rfl
    |true=>exact absurd ⟨i,v,a,m⟩ d
   rw[ui pl _ k λv a=>by
    obtain⟨i,n,rfl⟩:=avc a;exact s i _ (auy n),f.h0 k λi v a _=>s i v a]
def Er{K:St->Prop}(n:l[c]? =some F)(a:GS P l.toArray F st K){next:Act->GE->Prop}
 (k:Ga H h v st D d) (m:∀f,K f->∀i e g,Ga H h i f e g->next e g):wpOp P l.toArray Q c next D d:=by
 have:=a H h v D d next Q k m
 unfold wpOp;have j:l.toArray[c]? =some F:=by simpa using n
 rw[j];simp only;split
 ·rename_i b;rw[auo b]at this;exact .inl this
 ·rename_i b;rw[aun b]at this;exact this
def JW.any(s:JW P l iW pl){w0:Bs}{Rd0:bF}{Q:IO->Act->GE->Prop}(V:∀e a w,Ga w0 Rd0 e ⟨iW.n,CQ iW.t pl,Av iW.h pl⟩ a w->Q .normal a w):
 ∀(k:Nat) (c:Array In) (st:St) (e:Env) (a:Act) (w:GE),c.size=l.length->mB l (λi=>c.getD i false)->(∀m,m=(c.toList.filter (·==false)).length->m=k)->Inv iW pl (λi=>c.getD i false) st->Ga w0 Rd0 e st a w->
 wpAny P .any l.toArray Q k c a w:=by
 intro k
 induction k with
 |zero=>
  intro c st e a w F x z u B;have M:∀j,j<l.length->c.getD j false=true:=λj g=>by
   have R:(c.toList.filter (·==false)).length=0:=z _ rfl;have f:c.toList.filter (·==false)=[]:=avq R;have C:j<c.size:=bv
   have:c[j]∈c.toList:=d5
   have d:=ayr.1 f _ this;have:c[j]=true:=by simpa using d
   simp[C,this]
  have K:=u.fin s.w M;refine⟨?_,?_⟩
  ·rw[awY]
   intro j g;obtain⟨f,o,v,_⟩:=awu.1 g;have E:j<l.length:=by
    have:=(au9.1 v).1;simp at this;exact this
   have d:=M j E;rw[axg f]at d;cases d
  ·obtain⟨A,hg⟩:=(bQ.same (P:=P) (n:=iW.n) K.1 K.2) w0 Rd0 e a w (by have:=B;rw[<-u.n];exact this)
   exact V A a w hg
 |succ k ih=>
  intro c st e a w F x z u B;have a9:∃j,j<l.length/\c.getD j false=false:=by
   have f:(c.toList.filter (·==false)).length=k+1:=z _ rfl;have d:c.toList.filter (·==false)≠[]:=λh=>by rw[h]at f;simp at f
   obtain⟨b,p⟩:=axh _ d;obtain⟨W,X⟩:=awi.1 p;obtain⟨j,g,a3⟩:=avc W;refine⟨j,by rw[<-F];simp at g;exact g,?_⟩;have C:j<c.size:=by simp at g;exact g
   have:c[j]=b:=by simpa using a3
   have Y:b=false:=by simpa using X
   simp[C,this,Y]
  refine⟨λa8=>?_,λj g=>?_⟩
  ·
   exfalso;obtain⟨j,a1,a2⟩:=a9;have:∀j,j<l.length->c.getD j false=false->False:=by
    intro j
    induction j using Nat.strongRecOn with
    |_ j ae=>
     intro f d;have v:l[j]? =some l[j]:=auy f;by_cases t:∀e∈(l[j]).after,Region.binds .any e=true->c.getD e.on false=true
     ·have:j∈Region.ready .any l.toArray c:=awu.2 ⟨getD_in bv d,l[j],d5,t⟩
      rw[a8]at this;cases this
     ·simp only[ays]at t
      obtain⟨e,Z,p,a7⟩:=t;have y:=s.back j _ v e Z p;exact ae e.on y bv (by simpa using a7)
   exact this j a1 a2
  ·obtain⟨f,o,v,t⟩:=awu.1 g
   have r:l[j]? =some o:=by simpa using v
   have E:j<l.length:=(aus.1 r).1;have a4:j<pl.length:=by rw[s.len];exact E
   have G:pl[j]? =some pl[j]:=auy a4;have D:c.getD j false=false:=axg f;have a5:=u.kn s.w r G x D t;refine Er r ((s.step j o _ r G).2 st a5) B λaf ac A O w' a0=>?_;subst ac;have I:(λi=>(c.setIfInBounds j true).getD i false)=λi=>c.getD i false||i==j:=by
    funext i;by_cases q:i=j
    ·subst q
     simp[avA,show i<c.size by omega]
    ·have d:¬j=i:=λh=>q h.symm
     simp[avA,axD,d,q]
   refine ih _ _ A O w' (by simpa using F) ?_ ?_ ?_ a0
   ·rw[I]
    intro i oi N aa H J p;by_cases q:i=j
    ·subst q
     obtain rfl:=aut (r.symm.trans N);simp[t H J p]
    ·have ab:c.getD i false=true:=by simpa[q]using aa
     have:=x i oi N ab H J p;simp[this]
   ·intro m a6
    have d:(c.toList.filter (·==false)).length=k+1:=z _ rfl;have U:∀(L:br) (j:Nat),L[j]? =some false->((L.set j true).filter (·==false)).length+1=(L.filter (·==false)).length:=by
     intro L
     induction L with
     |nil=>intro j h;simp at h
     |cons b L ad=>
      intro j h;cases j with
      |zero=>simp at h;subst h;simp
      |succ j=>
       have:=ad j (by simpa using h);cases b<;>simp_all<;>omega
    have h4:=U c.toList j (by
     have y:j<c.size:=bv
     have:c[j]=false:=by simpa[y]using D
     simp[y,this])
    rw[awN]at a6;omega
   ·rw[I]
    exact u.step s.w r G x D
def AC.arU{id:Nat}{t:IO->St->Prop}(B:P.follows .mixedOrders=true)(E:JW P l iW pl)(h:t .normal ⟨iW.n,CQ iW.t pl,Av iW.h pl⟩):AC G P (.region id l.toArray true) iW t:=by
 intro r n s e a w Q F v D;refine wpIn_region_any B (l3 (λx c g q=>?_) _ _ _ _ (xp (r:=r) (m:=n.df.length) (l0:=Ef l) (a0:=a)
  (Q:=λx c g=>x=.normal/\c.defers.length<=n.df.length/\∃f,Ga n s f ⟨iW.n,CQ iW.t pl,Av iW.h pl⟩ c g) (λx c g q=>⟨q.1,q.2.1⟩)
  (λi o y d z=>HN z (l:=l) (auI (by simpa using y))) _ _ a _ (by rw[v.d];exact auq _) (Kp.refl _ _)
  (E.any (w0:=n) (Rd0:=s) (λf c g p=>⟨rfl,by rw[p.d];exact auq _,f,p⟩) _ _ iW e a _ d5 ?_ ?_ ?_ (v.later ((Ext.refl w).drewN 1)))))
 ·obtain⟨⟨rfl,_,f,p⟩,A⟩:=q
  exact D .normal _ h n s Bk.refl f c g p (by simpa[wrL]using A)
 ·intro j o y b
  have b:(Array.replicate l.toArray.size false).getD j false=true:=b;rw[awj]at b;cases b
 ·intro m C
  rw[C];simp
 ·exact⟨rfl,λx _=>rfl,λi u d _ b=>(by
   have b:(Array.replicate l.toArray.size false).getD i false=true:=b;rw[awj]at b;cases b),λk _=>rfl,λk i u _ b=>(by
   have b:(Array.replicate l.toArray.size false).getD i false=true:=b;rw[awj]at b;cases b)⟩
