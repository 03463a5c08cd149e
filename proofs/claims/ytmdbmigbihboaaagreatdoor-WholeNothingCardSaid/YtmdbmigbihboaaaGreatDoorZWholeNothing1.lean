/- part 1 -/
import Derived.Test.YtmdbmigbihboaaaGreatDoorRows
import Derived.WalkKit
import Derived.Lib.Hide
import Derived.Deep.Draws
import Derived.Laws.CopyOwn
import Derived.WalkSmall
import Derived.MapKept
import Derived.ChangeKeysEq
import Derived.Deep.Quiet
import Derived.LoopNIn
import Derived.OrdersIn
import Derived.TacticsIn
import Derived.RangeFuncCalls
import Derived.RangeFuncRecord
import Derived.Scope
import Derived.LoopN
import Derived.Great.BuildSlice
import Derived.Laws.MakeOwn
import Derived.StillTail
import Derived.Carry
import Derived.Lib.SliceRun
import Derived.Lib.AppendZeros
import Derived.Laws.IdiomRangeMap
import Derived.RangeFuncMany
import Derived.Laws.StructEq
import Derived.KernelRfl
import Derived.ProofKit
import Derived.OpenShut
import Derived.Lib.LaidTab
import Derived.Deep.DeepHandedRow
import Derived.SizedLaws
import Derived.Test.YtmdbmigbihboaaaGreatDoorCards
import Derived.Test.YtmdbmigbihboaaaGreatDoorTie
import Derived.Test.YtmdbmigbihboaaaGreatDoorProg
import Derived.WalkSpells
import Derived.WalkLawsBesides
import Derived.Recover
import Derived.DefersIn
import Derived.Shelf.SlSortCmp.NoneTotal
import Derived.Shelf.SortM.SortNone
import Derived.Shelf.SortM.Plain
import Derived.Lib.QuietBelow
import Derived.Shelf.Spec.SlicesGrow
import Derived.Laws.BitsLemmas
import Derived.Defers
set_option linter.all false
noncomputable section
open Go Go.RowKit
set_option maxRecDepth 100000
namespace Go.Proofs.YtmdbmigbihboaaaGreatDoor
def aqk:=@decide_eq_true
def aqn:=@decide_eq_false
def apT:=@Nat.le_refl
def aqM:=@Nat.le_trans
def atH:=@Nat.le_succ_of_le
def arT:=@Go.World.block_lt_of_cell?
def aqx:=@Array.getElem?_eq_some_iff
def arU:=@Bool.or_eq_false_iff
def apV:=@List.getElem?_eq_some_iff
def ap0:=@List.getElem?_eq_getElem
def aqF:=@List.getElem?_append_left
def aq7:=@List.getElem?_append_right
def aqw:=@List.getElem?_take
def arb:=@List.getElem?_drop
def aqS:=@List.getElem?_set
def aqu:=@List.flatten_cons
def aqb:=@List.length_append
def aqf:=@List.length_cons
def aqv:=@Nat.add_mul
def aqY:=@List.all_cons
def apS:=@Bool.and_eq_true
def aqN:=@if_false
def ash:=@Go.World.cell?_of_block
def aq8:=@Array.getD_eq_getD_getElem?
def atI:=@Array.getElem?_setIfInBounds
def apQ:=@if_neg
def ar2:=@Array.getElem?_push
def apR:=@if_pos
def apZ:=@Option.some.inj
def aql:=@Nat.zero_le
def atJ:=@Go.heap_setCell_other
def ap5:=@congrArg
def atM:=@Go.heap_setCell_same
def asz:=@List.mem_or_eq_of_mem_set
def asA:=@Array.toList_setIfInBounds
def ard:=@List.length_set
def atd:=@List.take_set
def aqq:=@Nat.zero_add
def aqV:=@Go.cell_of_row
def arV:=@Nat.lt_of_lt_of_le
def ate:=@Bool.and_true
def aq5:=@Bool.not_false
def aqd:=@List.getElem?_map
def aqo:=@Option.map_eq_some_iff
def ap1:=@List.length_map
def aqB:=@List.getElem_of_mem
def asi:=@List.getElem_mem
def aqi:=@Go.run_underlying
def asC:=@Go.setRow_other
def ap3:=@List.mem_append
def ars:=@List.flatten_append
def aqT:=@List.eq_nil_of_length_eq_zero
def aqy:=@List.append_nil
def aqI:=@List.length_nil
def asj:=@Nat.mul_pos
def aqz:=@Go.Addr.add_lit
def ar3:=@Array.size_append
def arG:=@List.size_toArray
def art:=@Go.size_zeroCells
def ar4:=@Array.toList_append
def asD:=@List.take_left
def atN:=@Go.grownCap_le_maxLen
def aqC:=@List.nil_append
def are:=@Go.grownCap_ge
def atO:=@Go.run_append_nil
def ar5:=@Go.run_append_grow
def ar6:=@Nat.mul_le_mul_right
def atP:=@Go.setRow_heap
def arj:=@List.getElem?_toArray
def aqm:=@List.append_assoc
def arH:=@List.length_drop
def ar7:=@Array.length_toList
def asE:=@List.take_left'
def asF:=@Go.growslice_fits
def aqD:=@List.length_take
def ap_:=@List.mem_of_getElem?
def asl:=@Nat.zero_mul
def aqG:=@List.drop_zero
def arW:=@Nat.one_mul
def atQ:=@Nat.add_comm
def auE:=@List.drop_length_add_append
def arX:=@List.drop_drop
def ar8:=@List.take_take
def ap6:=@Go.Sem.run_bind
def ap7:=@Go.Result.andThen_ok
def apU:=@Option.some.injEq
def aqa:=@Prod.mk.injEq
def aqs:=@if_true
def ap8:=@Go.Sem.run_pure
def arf:=@Nat.add_zero
def aru:=@Bool.false_eq_true
def asG:=@Nat.add_assoc
def auF:=@List.extract_eq_drop_take'
def ar9:=@Option.bind_eq_some_iff
def asm:=@Go.frozen_of_row
def aqg:=@List.all_eq_true
def arv:=@Array.toList_map
def atS:=@Array.toArray_toList
def aq6:=@List.cons_append
def arI:=@List.any_cons
def atT:=@Bool.false_or
def apX:=@Nat.eq_of_beq_eq_true
def aqp:=@Nat.beq_refl
def aqU:=@List.mem_cons_of_mem
def aq1:=@Bool.not_eq_true'
def aqj:=@List.mem_cons
def ap4:=@List.mem_map
def aqc:=@List.map_cons
def apY:=@Nat.le_of_ble_eq_true
def aqO:=@Bool.or_eq_true
def arw:=@Option.isSome_iff_exists
def asH:=@beq_iff_eq
def aqJ:=@List.map_congr_left
def arJ:=@List.map_id
def atU:=@Go.callsIn_wide
def asK:=@List.mem_cons_self
def atV:=@List.mem_append_left
def atW:=@List.mem_append_right
def atf:=@Array.getElem?_setIfInBounds_ne
def atg:=@Array.toList_inj
def aqA:=@Array.getElem?_eq_getElem
def asM:=@Go.wpList_step
def arK:=@List.take_append_drop
def asn:=@List.getElem?_replicate
def arL:=@Nat.mul_le_mul_left
def ath:=@Int.toNat_of_nonneg
def aqt:=@List.take_of_length_le
def ar_:=@List.mem_of_mem_take
def asN:=@List.mem_of_mem_drop
def aso:=@Nat.lt_or_ge
def aqP:=@List.drop_eq_nil_of_le
def asp:=@Int.le_refl
def arM:=@Int.natCast_mul
def ap2:=@Int.toNat_natCast
def auG:=@List.eq_of_mem_replicate
def ark:=@List.replicate_succ
def asa:=@Nat.mod_eq_of_lt
def atX:=@Nat.mod_eq_sub_mod
def asq:=@Nat.le_of_not_lt
def asb:=@Nat.mod_lt
def atY:=@Go.size_madeCells
def asP:=@List.mapM_cons
def atZ:=@Go.World.putObj_heap_other
def aq2:=@List.nodup_cons
def asQ:=@Nat.sub_zero
def asR:=@Array.getElem?_append
def aqE:=@List.getElem?_eq_none
def at0:=@Array.mapM_eq_mapM_toList
def asT:=@Go.Sem.run_map
def asd:=@List.map_toArray
def aqZ:=@List.map_nil
def asr:=@List.foldlM_cons
def ass:=@List.foldlM_nil
def arx:=@Nat.lt_trichotomy
def ary:=@List.any_eq_true
def auH:=@List.filter_eq_nil_iff
def arz:=@List.eq_nil_iff_forall_not_mem
def ast:=@Go.mem_ready
def ati:=@Go.getD_both
def asU:=@List.exists_mem_of_ne_nil
def arN:=@List.mem_filter
def auI:=@Classical.not_forall
def asV:=@Go.getD_replicate_false
def aq3:=@Option.map_some
def aq4:=@List.map_map
def at1:=@Go.MapKept.run_checkKey
def aqQ:=@decide_eq_true_eq
def arY:=@Go.run_part_plain
def at2:=@Go.run_equalIn_int
def atj:=@not_false_eq_true
def apW:=@cond_false
def auJ:=@Array.mem_of_getElem?
def atk:=@List.pairwise_iff_getElem
def at3:=@Go.MapKept.stamped_iff
def aqW:=@Go.MapKept.run_getObj_map
def arl:=@Go.MapKept.run_setObj_map
def at4:=@Go.MapKept.stamped_modify
def asX:=@Array.getElem_toList
def atl:=@Array.getElem_modify
def arB:=@Array.getElem?_modify
def atm:=@List.getElem?_set_ne
def asY:=@Go.MapKept.heap_set
def at5:=@Go.Lib.run_eql_slice_nil
def auK:=@Go.run_sliceAt_array_all
def arO:=@Option.map_none
def auL:=@Go.run_sliceAt_array_h
def auM:=@Go.run_sliceAt_array_l
def auN:=@Go.run_sliceAt_array_lh
def arh:=@Nat.mul_one
def aqe:=@List.mem_singleton
def aqH:=@List.map_append
def asZ:=@Prod.ext
def aqh:=@cond_true
def arP:=@List.map_set
def ase:=@List.map_take
def asu:=@List.map_drop
def aqK:=@of_decide_eq_true
def auO:=@List.getElem?_set_self
def arZ:=@of_decide_eq_false
def at6:=@List.all_append
def as0:=@List.set_cons_zero
def auP:=@List.set_append_left
def at7:=@List.set_cons_succ
def atn:=@List.set_append_right
def arQ:=@List.set_getElem_self
def aua:=@List.set_set
def ato:=@beq_self_eq_true
def arn:=@List.singleton_append
def ar0:=@List.length_singleton
def atp:=@Nat.sub_self
def aub:=@Nat.ble_eq_true_of_le
def arR:=@List.mem_flatten
def auc:=@List.map_replicate
def as1:=@List.length_replicate
def atq:=@List.contains_eq_mem
def aq9:=@List.mem_flatMap
def arC:=@List.ext_getElem?
def ara:=@Array.getElem?_toList
def auQ:=@Array.findIdx?_eq_some_iff_getElem
def aq_:=@Nat.min_eq_left
def aro:=@List.headD_cons
def asv:=@false_iff
def auR:=@List.take_append_of_le_length
def aud:=@Option.bind_some
def aue:=@Bool.not_eq_false'
def as2:=@List.getElem?_range
def aqX:=@List.cons.injEq
def arD:=@List.length_pos_iff
def arp:=@Nat.mul_le_mul
def ari:=@List.getD_eq_getElem?_getD
def auf:=@Go.Proofs.Tryz.func97
def arS:=@Go.wp_seq
def aug:=@Go.calls_of_wp_defers
def arE:=@List.pairwise_cons
def auh:=@List.mergeSort_perm
def auS:=@List.pairwise_mergeSort
def asw:=@getElem!_pos
def asf:=@Array.getElem?_append_left
def as3:=@Nat.eq_zero_or_pos
def aui:=@Nat.div_eq_of_lt
def auj:=@Go.Proofs.AnyF.slices_SortFunc_none
def auk:=@List.length_eq_zero_iff
def as4:=@List.pairwise_map
def auT:=@List.length_mergeSort
def aq0:=@decide_true
def ap9:=@Bool.not_true
def atr:=@List.exists_cons_of_ne_nil
def as5:=@Go.Proofs.Tryz.func116
def ats:=@Go.Proofs.Tryz.func48
def att:=@List.getElem?_cons_zero
def arF:=@List.getElem?_cons_succ
def auU:=@Bool.and_eq_true_iff
def arq:=@decide_eq_decide
def aqL:=@List.nodup_append
def as6:=@List.perm_append_comm
def atu:=@List.getElem?_of_mem
def as7:=@Nat.le_total
def as8:=@Nat.min_eq_right
def aul:=@Nat.max_eq_right
def aum:=@Nat.max_eq_left
def as9:=@List.forall_mem_cons
def atv:=@List.getLast?_cons_cons
def ar1:=@List.filter_cons
def aun:=@Nat.lt_irrefl
def atw:=@List.Perm.refl
def auV:=@List.perm_cons_erase
def auo:=@List.cons.inj
def auW:=@Nat.div_lt_of_lt_mul
def atx:=@Nat.le_div_iff_mul_le
def auX:=@List.eq_nil_or_concat
def auY:=@List.concat_eq_append
def aqr:=@List.flatMap_cons
def aqR:=@List.mem_range
def aup:=@List.nodup_range
def asg:=@List.filter_append
def auq:=@List.eraseIdx_sublist
def aty:=@List.flatMap_nil
def atz:=@List.range_succ
def aur:=@Bool.and_self
def as_:=@List.length_filter_le
def auZ:=@List.pairwise_append
def aus:=@Int.fdiv_eq_ediv_of_nonneg
def au0:=@List.getElem?_zipWith
def asx:=@List.countP_append
def aut:=@List.countP_singleton
def au1:=@List.countP_pos_iff
def au2:=@List.getElem?_eq_none_iff
def asy:=@List.sum_cons
def atA:=@List.flatMap_def
def au3:=@List.nodup_iff_pairwise_ne
def auu:=@List.perm_append_comm_assoc
def ata:=@List.countP_le_length
def auv:=@List.flatMap_append
def atB:=@List.filter_eq_self
def auw:=@Go.IntKind.wrap_u32
def atC:=@List.sum_append
def atb:=@Nat.add_one_mul
def au4:=@Nat.le_mul_of_pos_right
def au5:=@Nat.div_mul_le_self
def auy:=@Nat.pow_le_pow_right
def atD:=@Int.ofNat_eq_natCast
def auz:=@List.contains_iff_mem
def atE:=@List.mem_filterMap
def auA:=@List.range'_succ
def atc:=@Option.ne_none_iff_exists'
def au6:=@List.range_eq_range'
def auB:=@Go.wp_scope_straight
def au7:=@Nat.testBit_lt_two_pow
def atF:=@Go.Proofs.Tryz.func3
def atG:=@Go.Proofs.Tryz.params3
def auC:=@Go.ChangeShapes.trodAll_cons
def auD:=@Go.DataW.weights_mem_each
abbrev H8:=Option (Int×Option Nat)
abbrev bE:=Nat->Nat->Value->Prop
abbrev CH:=List ((Int×Int)×Int)
abbrev ju:=List (Int×Int×Int)
abbrev CI:=Array (Nat×Operand)
abbrev vT:=List (Nat×Operand)
abbrev fE:=Option (Nat×Bool)
abbrev mC:=Option ((List Int))
abbrev Kl:=Option (Nat×Nat)
abbrev Pk:=Option (Int×Int)
abbrev bH:=List (Nat×Nat)
abbrev bh:=List (Int×Int)
abbrev bM:=List (List Int)
abbrev vU:=Array MapEntry
abbrev iL:=Option Operand
abbrev vV:=List Deferred
abbrev fU:=Array Operand
abbrev eA:=Option (Bool)
abbrev iM:=Array TypeId
abbrev mL:=List Operand
abbrev eR:=Option (Int)
abbrev eb:=Array Value
abbrev bU:=Option Nat
abbrev bD:=List Value
abbrev iN:=Option Tmp
abbrev dI:=Array Edge
abbrev tZ:=Array Oper
abbrev qc:=Option Int
abbrev bp:=List Oper
abbrev bq:=List Bool
abbrev aZ:=List Nat
abbrev aX:=List Int
def eh{α:Type}{p:Prop} [Decidable p]{x y:α}(h:p):cond (decide p) x y=x:=by
 rw[aqk h];rfl
def dX{α:Type}{p:Prop} [Decidable p]{x y:α}(h:¬p):cond (decide p) x y=y:=by
 rw[aqn h];rfl
def y6{α:Type}{p:Prop} [Decidable p]{x y:α}(h:p):cond (!(decide p)) x y=y:=by
 rw[aqk h];rfl
def cnF{α:Type}{p:Prop} [Decidable p]{x y:α}(h:¬p):cond (!(decide p)) x y=x:=by
 rw[aqn h];rfl
variable{c:Nat}{I d:World}
structure Ext(w w':World):Prop where
 FM:Below w.heap.size w w'
 drawn:w.drawn<=w'.drawn
def Ext.os{a b:World}(h:Ext a b):b.os=a.os:=h.FM.os
def Ext.tape{a b:World}(h:Ext a b):b.tape=a.tape:=h.FM.tape
def Ext.output{a b:World}(h:Ext a b):b.output=a.output:=h.FM.output
def Ext.refl(w:World):Ext w w:=⟨Below.refl _ _,apT _⟩
def Ext.size{a b:World}(h:Ext a b):a.heap.size<=b.heap.size:=Below.size h.FM
def Ext.trans{a b c:World}(h:Ext a b)(k:Ext b c):Ext a c:=⟨Below.trans h.FM (Below.mono k.FM h.size),aqM h.drawn k.drawn⟩
def Ext.drew{a w:World}(h:Ext a w):Ext a w.drew:=⟨Below.drew h.FM,atH h.drawn⟩
def Ext.drewN(h:Ext d I)(n:Nat):Ext d (I.drewN n):=⟨⟨h.os,h.tape,h.output,h.size,h.FM.block⟩,aqM h.drawn (Nat.le_add_right _ _)⟩
def Ext.alloc{a w:World}(h:Ext a w)(o:Obj):Ext a (w.alloc o):=⟨Below.alloc h.FM h.size o,h.drawn⟩
def Ext.bS(h:Ext d I):∀k,k<d.heap.size->I.heap[k]? =d.heap[k]? :=h.FM.block
def Ext.cell{a b:World}(h:Ext a b){p:Addr}{v:Value}(c:a.cell? p=some v):b.cell? p=some v:=
 (Below.cell h.FM (arT a p c)).trans c
def Ext.block(h:Ext d I){o:Obj}(a:d.heap[c]? =some o):I.heap[c]? =some o:=
 (h.bS c (aqx.1 a).1).trans a
def Y_:List (Nat×IntKind×aX):=[(0,(.u8,[0,1,28,2,29,14,24,3,30,22,20,15,25,17,4,8,31,27,13,23,21,19,16,7,26,12,18,6,11,5,10,9]))]
def gNr:bH:=[(40,29),(42,38),(42,41),(73,62)]
def ahc:aZ:=[]
variable{L:Type}{g:Value}{s:bD}
inductive AV where
 |un
 |v (x:Value)
 |sl (tight:Bool) (sz:Nat) (rows:List (List AV))
 |ow (k:Nat)
 |pt (k o:Nat)
 |pe (k i sz o:Nat)
 |sw (k l n sz:Nat)
 |fp (cs:List AV)
 |ag (cs:List AV)
 |tu (vs:List AV)
 |mp (k:Nat)
 |cl (fn:Fn) (fs cs:List AV)
instance:Inhabited AV:=⟨.un⟩
structure Env where
 bS:Nat->bU
 sv:Nat->Value
 cM:Nat->Nat
def LR(R:L->Value->Prop)(a:List L)(b:bD):Prop:=b.length=a.length/\∀(j:Nat) c u,a[j]? =some c->b[j]? =some u->R c u
def AV.one:AV->Bool
 |.v x=>x.oneCell'
 |.sl .. |.ow _|.pt .. |.pe .. |.sw .. |.fp _|.mp _|.cl .. =>true
 |.un|.ag _|.tu _=>false
inductive VR(Rd:bE):Option Env->AV->Value->Prop
 |un {E x}:VR Rd E .un x
 |v {E x}:VR Rd E (.v x) x
 |sl {E tight sz rows a cap} (us:bD) (hw:∀r∈rows,r.length=sz) (h1c:∀c∈rows.flatten,c.one=true) (hl:us.length=rows.flatten.length)
  (hc:∀(j:Nat) c u,rows.flatten[j]? =some c->us[j]? =some u->VR Rd none c u) (h1:rows.length<=cap) (h2:cap<=maxLen) (h3:tight=true->cap=rows.length)
  (ha:us≠[]->∃b o,a=some ⟨b,o,none⟩/\∀(j:Nat) u,us[j]? =some u->Rd b (o+j) u):VR Rd E (.sl tight sz rows) (.slice a rows.length cap)
 |ow {e k}:VR Rd (some e) (.ow k) (e.sv k)
 |pt {e k o b} (h:e.bS k=some b):VR Rd (some e) (.pt k o) (.pointer (some ⟨b,o,none⟩))
 |pe {e k i sz o b} (h:e.bS k=some b):VR Rd (some e) (.pe k i sz o) (.pointer (some ⟨b,i*sz+o,none⟩))
 |sw {e k l n sz b o cap} (h:e.bS k=some b) (ho:0<n->o=l*sz) (h1:n<=cap) (h2:cap<=maxLen):VR Rd (some e) (.sw k l n sz) (.slice (some ⟨b,o,none⟩) n cap)
 |fp {E cs b o} (us:bD) (hl:us.length=cs.length) (hc:∀(j:Nat) c u,cs[j]? =some c->us[j]? =some u->VR Rd none c u)
  (ha:∀(j:Nat) u,us[j]? =some u->Rd b (o+j) u):VR Rd E (.fp cs) (.pointer (some ⟨b,o,none⟩))
 |ag {E cs} (us:bD) (hl:us.length=cs.length) (hc:∀(j:Nat) c u,cs[j]? =some c->us[j]? =some u->VR Rd E c u):VR Rd E (.ag cs) (.agg us.toArray)
 |tu {E cs} (us:bD) (hl:us.length=cs.length) (hc:∀(j:Nat) c u,cs[j]? =some c->us[j]? =some u->VR Rd E c u):VR Rd E (.tu cs) (.tuple us.toArray)
 |mp {e k b} (h:e.bS k=some b):VR Rd (some e) (.mp k) (.map (some b))
 |cl {E fn fs cs} (us xs:bD) (hl:us.length=fs.length) (hl2:xs.length=cs.length) (hc:∀(j:Nat) c u,fs[j]? =some c->us[j]? =some u->VR Rd E c u)
  (hc2:∀(j:Nat) c u,cs[j]? =some c->xs[j]? =some u->VR Rd E c u):VR Rd E (.cl fn fs cs) (.func fn us.toArray xs.toArray)
def VR.mono{Rd n:bE}(p:∀b o g,Rd b o g->n b o g){E:Option Env}{c:AV}(h:VR Rd E c g):VR n E c g:=by
 induction h with
 |un=>exact .un
 |v=>exact .v
 |sl e w q a f i k r l d=>
  refine .sl e w q a d i k r λt=>?_;obtain⟨b,o,rfl,h⟩:=l t;exact⟨b,o,rfl,λj g m=>p _ _ _ (h j g m)⟩
 |ow=>exact .ow
 |pt h=>exact .pt h
 |pe h=>exact .pe h
 |sw h u i k=>exact .sw h u i k
 |fp e a f l d=>exact .fp e a d λj g m=>p _ _ _ (l j g m)
 |ag e a f d=>exact .ag e a d
 |tu e a f d=>exact .tu e a d
 |mp h=>exact .mp h
 |cl e y a s f z d x=>exact .cl e y a s d x
def VR.cS{Rd:bE}{E:Option Env}{c:AV}(h:VR Rd none c g):VR Rd E c g:=by
 generalize d:(none:Option Env)=s at h
 induction h with
 |un=>exact .un
 |v=>exact .v
 |sl f p m e k a b n l i=>exact .sl f p m e k a b n l
 |ow=>cases d
 |pt h=>cases d
 |pe h=>cases d
 |sw h=>cases d
 |fp f e k l i=>exact .fp f e k l
 |ag f e k i=>exact .ag f e λj c g a b=>i j c g a b d
 |tu f e k i=>exact .tu f e λj c g a b=>i j c g a b d
 |mp h=>cases d
 |cl f r e o k t i q=>exact .cl f r e o (λj c g a b=>i j c g a b d) (λj c g a b=>q j c g a b d)
mutual
def AV.ga(k:Nat):AV->Bool
 |.ow j=>j==k
 |.pt j _=>j==k
 |.pe j _ _ _=>j==k
 |.sw j _ _ _=>j==k
 |.mp j=>j==k
 |.ag a=>AV.lV k a
 |.tu a=>AV.lV k a
 |.cl _ b a=>AV.lV k b||AV.lV k a
 |_=>false
def AV.lV(k:Nat):List AV->Bool
 |[]=>false
 |c::a=>AV.ga k c||AV.lV k a
end
def e5{k:Nat}:∀{a:List AV},AV.lV k a=false->∀(j:Nat) c,a[j]? =some c->c.ga k=false
 |[],_,j,c,h=>by simp at h
 |x::a,b,j,c,h=>by
  simp only[AV.lV,arU]at b;cases j with
  |zero=>simp at h;exact h▸b.1
  |succ j=>exact e5 b.2 j c (by simpa using h)
def VR.env{Rd:bE}{E:Option Env}{c:AV}(h:VR Rd E c g){e e':Env}(m:E=some e)(k:Nat)(f:c.ga k=false)
 (u:∀j,j≠k->e'.bS j=e.bS j) (D:∀j,j≠k->e'.sv j=e.sv j):VR Rd (some e') c g:=by
 induction h with
 |un=>exact .un
 |v=>exact .v
 |sl r F z q t a d A w s=>exact .sl r F z q t a d A w
 | @ow e0 j=>
  cases m;have p:j≠k:=by simpa[AV.ga]using f
  rw[<-D j p];exact .ow
 | @pt e0 j o b h=>
  cases m;have p:j≠k:=by simpa[AV.ga]using f
  exact .pt (by rw[u j p];exact h)
 | @pe e0 j i H o b h=>
  cases m;have p:j≠k:=by simpa[AV.ga]using f
  exact .pe (by rw[u j p];exact h)
 | @sw e0 j l n H b o J h C a d=>
  cases m;have p:j≠k:=by simpa[AV.ga]using f
  exact .sw (by rw[u j p];exact h) C a d
 |fp r q t w s=>exact .fp r q t w
 | @ag x y r q t s=>exact .ag r q λj c g a d=>s j c g a d m (e5 (by simpa[AV.ga]using f) j c a)
 | @tu x y r q t s=>exact .tu r q λj c g a d=>s j c g a d m (e5 (by simpa[AV.ga]using f) j c a)
 | @mp e0 j b h=>
  cases m;have p:j≠k:=by simpa[AV.ga]using f
  exact .mp (by rw[u j p];exact h)
 | @cl x K L y r I q B t M s G=>
  simp only[AV.ga,arU]at f;exact .cl r I q B (λj c g a d=>s j c g a d m (e5 f.1 j c a)) (λj c g a d=>G j c g a d m (e5 f.2 j c a))
def VR.ir{Rd:bE}{E:Option Env}{c:AV}(h:VR Rd E c g){e e':Env}(f:E=some e)(r:∀j,e'.bS j=e.bS j)(y:∀j,e'.sv j=e.sv j):VR Rd (some e') c g:=by
 induction h with
 |un=>exact .un
 |v=>exact .v
 |sl m z t k q a d u s p=>exact .sl m z t k q a d u s
 | @ow e0 j=>cases f;rw[<-y j];exact .ow
 | @pt e0 j o b h=>cases f;exact .pt (by rw[r j];exact h)
 | @pe e0 j i B o b h=>cases f;exact .pe (by rw[r j];exact h)
 | @sw e0 j l n B b o D h x a d=>cases f;exact .sw (by rw[r j];exact h) x a d
 |fp m k q s p=>exact .fp m k q s
 |ag m k q p=>exact .ag m k λj c g a d=>p j c g a d f
 |tu m k q p=>exact .tu m k λj c g a d=>p j c g a d f
 | @mp e0 j b h=>cases f;exact .mp (by rw[r j];exact h)
 |cl m C k w q F p A=>exact .cl m C k w (λj c g a d=>p j c g a d f) (λj c g a d=>A j c g a d f)
def VR.jv{Rd:bE}{E:Option Env}{c:AV}(h:VR Rd E c g)(a:c.one=true)(b:∀e k,E=some e->c=.ow k->(e.sv k).oneCell'=true):g.oneCell'=true:=by
 cases h with
 |un=>simp[AV.one]at a
 |v=>simpa[AV.one]using a
 |sl=>rfl
 |ow=>exact b _ _ rfl rfl
 |pt=>rfl
 |pe=>rfl
 |sw=>rfl
 |fp=>rfl
 |ag=>simp[AV.one]at a
 |tu=>simp[AV.one]at a
 |mp=>rfl
 |cl=>rfl
def LR.get{R:L->Value->Prop}{a:List L}(h:LR R a s){j:Nat}{c:L}(b:a[j]? =some c):∃u,s[j]? =some u/\R c u:=by
 have d:j<s.length:=by rw[h.1];exact(apV.1 b).1
 exact⟨s[j],ap0 d,h.2 j c _ b (ap0 d)⟩
def LR.imp{R a:L->Value->Prop}{b:List L}(h:LR R b s)(f:∀c u,R c u->a c u):LR a b s:=⟨h.1,λj c u d e=>f _ _ (h.2 j c u d e)⟩
def LR.nil{R:L->Value->Prop}:LR R [] []:=⟨rfl,by simp⟩
def LR.cons{R:L->Value->Prop}{c:L}{d:List L}(h:R c g)(e:LR R d s):LR R (c::d) (g::s):=
 ⟨by simp[e.1],λj f i a b=>by
  cases j with
  |zero=>simp at a b;subst a;subst b;exact h
  |succ j=>exact e.2 j f i (by simpa using a) (by simpa using b)⟩
def LR.append{R:L->Value->Prop}{d ds:List L}{f xs:bD}(h:LR R d f)(k:LR R ds xs):LR R (d++ds) (f++xs):=by
 refine⟨by simp[h.1,k.1],λj c u a b=>?_⟩;by_cases e:j<d.length
 ·rw[aqF e]at a
  rw[aqF (by rw[h.1];exact e)]at b;exact h.2 j c u a b
 ·rw[aq7 (by omega)]at a
  rw[aq7 (by rw[h.1];omega),h.1]at b;exact k.2 _ c u a b
def LR.take{R:L->Value->Prop}{d:List L}(h:LR R d s)(n:Nat):LR R (d.take n) (s.take n):=by
 refine⟨by simp[h.1],λj c u a b=>?_⟩;rw[aqw]at a b;split at a
 ·rename_i e;simp[e]at b;exact h.2 j c u a b
 ·cases a
def LR.drop{R:L->Value->Prop}{a:List L}(h:LR R a s)(n:Nat):LR R (a.drop n) (s.drop n):=by
 refine⟨by simp[h.1],λj c u b d=>?_⟩;rw[arb]at b d;exact h.2 _ c u b d
def LR.set{R:L->Value->Prop}{d:List L}(h:LR R d s)(j:Nat){c:L}{u:Value}(k:R c u):LR R (d.set j c) (s.set j u):=by
 refine⟨by simp[h.1],λi g l a b=>?_⟩;rw[aqS]at a b;rw[h.1]at b;by_cases e:j=i
 ·subst e
  by_cases f:j<d.length
  ·simp[f]at a b;subst a;subst b;exact k
  ·simp[f]at a
 ·simp[e]at a b;exact h.2 i g l a b
def VR.e9{Rd:bE}{E:Option Env}{cs:List AV}(h:VR Rd E (.ag cs) g):∃a,g=.agg a.toArray/\LR (VR Rd E) cs a:=by
 cases h with
 |ag a c b=>exact⟨a,rfl,c,b⟩
def VR.CJ{Rd:bE}{E:Option Env}{cs:List AV}(h:VR Rd E (.tu cs) g):∃a,g=.tuple a.toArray/\LR (VR Rd E) cs a:=by
 cases h with
 |tu a c b=>exact⟨a,rfl,c,b⟩
def VR.bN{Rd:bE}{E:Option Env}{x u:Value}(h:VR Rd E (.v x) u):u=x:=by
 cases h;rfl
variable{u:Env}{N:List (List AV)}{J:List (Nat×AV)}{W v:Nat}{m:TypeId}{h:bE}{H:bU}
inductive Ob where
 |box (t:TypeId) (cs:List AV)
 |arr (t:TypeId) (sz:Nat) (rows:List (List AV)) (wr:Bool)
 |mp (d:TypeDesc) (es:List (Value×AV))
 |nr (t:TypeId) (cs:List AV)
abbrev Hp:=List (Nat×Option Ob)
def a_:Hp->Nat->Option Ob
 |[],_=>none
 |(j,o)::h,k=>if k=j then o else a_ h k
def bG:List (Nat×AV)->Nat->AV
 |[],_=>.un
 |(j,c)::t,i=>if i=j then c else bG t i
structure St where
 n:Nat
 t:List (Nat×AV)
 h:Hp
structure Bs where
 w:World
 own:Nat->Prop
 bS:Nat->bU
 sv:Nat->Value
 df:vV
def Bs.hI(B:Bs)(b:Nat):Prop:=B.w.heap.size<=b\/B.own b
structure Bx(B:Bs)(w:World):Prop where
 os:w.os=B.w.os
 tape:w.tape=B.w.tape
 output:w.output=B.w.output
 size:B.w.heap.size<=w.heap.size
 block:∀b,¬B.hI b->w.heap[b]? =B.w.heap[b]?
 drawn:B.w.drawn<=w.drawn
def Bx.drew{B:Bs}(h:Bx B d):Bx B d.drew:=⟨h.os,h.tape,h.output,h.size,h.block,atH h.drawn⟩
def Bx.step{B:Bs}(h:Bx B d)(c:I.os=d.os)(e:I.tape=d.tape)(f:I.output=d.output)(g:d.heap.size<=I.heap.size)(i:∀b,¬B.hI b->b<d.heap.size->I.heap[b]? =d.heap[b]?)(j:d.drawn<=I.drawn:=by exact apT _):Bx B I:=
 ⟨c.trans h.os,e.trans h.tape,f.trans h.output,aqM h.size g,λb a=>(i b a (by have:=h.size;unfold Bs.hI at a;omega)).trans (h.block b a),aqM h.drawn j⟩
def Bx.alloc{B:Bs}(h:Bx B d)(o:Obj):Bx B (d.alloc o):=h.step rfl rfl rfl (by simp) λb _ a=>Below.heap_alloc _ _ _ a
def Bx.setCell{B:Bs}{w:World}(h:Bx B w){p:Addr}(c:B.hI p.block)(u:Value):Bx B (w.setCell p u):=
 h.step rfl rfl rfl (by simp[World.setCell]) λb a _=>Below.heap_setCell _ _ _ _ (λe=>a (by rw[e];exact c))
def Bx.later{B:Bs}(h:Bx B d)(a:Ext d I):Bx B I:=h.step a.os a.tape a.output a.size (λb _ c=>a.bS b c) a.drawn
def Bx.hI{B:Bs}(h:Bx B d)(a:d.heap.size<=c):B.hI c:=.inl (aqM h.size a)
def WD:List (Nat×IntKind×aX)->Nat->Option (IntKind×aX)
 |[],_=>none
 |(g,p)::l,k=>cond (Nat.beq k g) (some p) (WD l k)
def GT(b o:Nat)(u:Value):Prop:=∃k l x,WD Y_ b=some (k,l)/\l[o]? =some x/\u=.int k x
def Good(Rd:bE)(B:Bs):Prop:=(∀b o u,Rd b o u->B.w.cell? ⟨b,o,none⟩=some u/\¬B.hI b)/\∀b o u,GT b o u->Rd b o u
def bO(c:Bs)(a:bE)(e:Env)(h:Hp)(w:World)(b o:Nat)(u:Value):Prop:=
 w.cell? ⟨b,o,none⟩=some u/\(¬c.hI b->a b o u)/\∀k ob,a_ h k=some ob->e.bS k=some b->o<e.cM k
def kD(d:TypeDesc)(v:Value):Prop:=match d with
 |.tuple _=>∃a b:Int,v=.agg #[.int .i64 a,.int .i64 b]
 |d=>MapKept.IsKey d v
structure Fz{α:Type}(R:α->Value->Prop)(d:TypeDesc)(es:List (Value×α))(arr:vU)(clock:Nat):Prop where
 len:arr.size=es.length
 key:∀(j:Nat) x m,es[j]? =some x->arr[j]? =some m->m.key=x.1/\R x.2 m.val
 isk:∀m∈arr.toList,kD d m.key
 jV:MapKept.Stamped arr clock
 Pe:∀(j:Nat) m,arr[j]? =some m->m.born=j
 clk:clock=arr.size
def Fz.imp{R b:L->Value->Prop}{d:TypeDesc}{f:List (Value×L)}{e:vU}(h:Fz R d f e c)(k:∀a u,R a u->b a u):Fz b d f e c:=
 ⟨h.len,λj x m i g=>⟨(h.key j x m i g).1,k _ _ (h.key j x m i g).2⟩,h.isk,h.jV,h.Pe,h.clk⟩
abbrev MR(Rd:bE)(d:TypeDesc)(c:List (Value×AV))(a:vU)(b:Nat):Prop:=Fz (VR Rd none) d c a b
def MR.mono{Rd a:bE}(g:∀b o u,Rd b o u->a b o u){d:TypeDesc}{f:List (Value×AV)}{c:vU}{e:Nat}(h:MR Rd d f c e):MR a d f c e:=Fz.imp h λ_ _ k=>k.mono g
def CL:TypeId:=1152921504606846975
def ah2(w:World)(b:Nat)(f:bD):Prop:=∃(d c e:Nat) (a:Int) (seen:Array Nat),f=[.map (some d),.int .i64 (c:Int),.int .i64 (e:Int),.int .i64 a]/\w.heap[b]? =some (.mapIter (some d) c seen c)/\
 (∀j,seen.contains j=e.testBit j)/\(0<=a->seen.back?=some a.toNat)
def qd(w:World)(b:Nat)(t:TypeId)(a:bD):Prop:=(t≠CL/\w.heap[b]? =some (.cells a.toArray t (0,0)))\/(t=CL/\ah2 w b a)
def qd.ext(h:qd d c m s)(b:∀o,d.heap[c]? =some o->I.heap[c]? =some o):qd I c m s:=by
 rcases h with⟨a,h⟩|⟨a,e,k,j,f,seen,g,h,i⟩
 ·exact .inl ⟨a,b _ h⟩
 ·exact .inr ⟨a,e,k,j,f,seen,g,b _ h,i⟩
def qd.lt(h:qd d c m s):c<d.heap.size:=by
 rcases h with⟨_,h⟩|⟨_,a,f,e,b,seen,_,h,_⟩
 ·exact(aqx.1 h).1
 ·exact(aqx.1 h).1
def qd.same(h:qd d c m s)(b:I.heap[c]? =d.heap[c]?):qd I c m s:=h.ext λo a=>by rw[b];exact a
def qd.cells(h:qd d c m s)(b:m≠CL):d.heap[c]? =some (.cells s.toArray m (0,0)):=by
 rcases h with⟨_,h⟩|⟨a,_⟩
 ·exact h
 ·exact absurd a b
def OR(Rd:bE)(e:Env)(w:World)(k:Nat):Ob->Prop
 |.box t h=>e.cM k=0/\∃b n,e.bS k=some b/\qd w b t n/\LR (VR Rd (some e)) h n
 |.arr t m g wr=>(∀r∈g,r.length=m)/\(∀c∈g.flatten,c.one=true)/\(wr=true->e.cM k=0)/\
  ((g=[]/\e.bS k=none/\∃a,e.sv k=.slice a 0 0)\/
   ∃b f i,e.bS k=some b/\e.sv k=.slice (some ⟨b,0,none⟩) g.length f/\g.length<=f/\f<=maxLen/\w.heap[b]? =some (.cells i t (0,0))/\
    i.size=f*m/\LR (VR Rd none) g.flatten (i.toList.take g.flatten.length)/\e.cM k<=g.flatten.length)
 |.mp d o=>e.cM k=0/\∃b j l,e.bS k=some b/\w.heap[b]? =some (.map j l)/\MR Rd d o j l
 |.nr t h=>e.cM k=0/\((h=[]/\e.bS k=none/\∃a,e.sv k=.slice a 0 0)\/
  ∃b f i,e.bS k=some b/\e.sv k=.slice (some ⟨b,0,none⟩) h.length f/\h.length<=f/\f<=maxLen/\w.heap[b]? =some (.cells i t (0,0))/\
   i.size=f/\LR (VR Rd (some e)) h (i.toList.take h.length))
structure SR(w0:Bs)(Rd0:bE)(e:Env)(h:Hp)(w:World):Prop where
 ext:Bx w0 w
 jO:Good Rd0 w0
 ob:∀k ob,a_ h k=some ob->OR (bO w0 Rd0 e h w) e w k ob
 base:∀k ob b,a_ h k=some ob->e.bS k=some b->w0.hI b/\b<w.heap.size
 inj:∀k k' ob ob' b,a_ h k=some ob->a_ h k'=some ob'->e.bS k=some b->e.bS k'=some b->k=k'
 t_:∀k,4294967296<=k->e.bS k=w0.bS k/\e.sv k=w0.sv k
def SR.CM{i:Bs}{a:Hp}(b:SR i h u a d)(m:GT c v g):bO i h u a d c v g:=by
 have e:=b.jO.2 _ _ _ m;obtain⟨j,f⟩:=b.jO.1 c v g e;refine⟨?_,λ_=>e,λk ob n l=>absurd (b.base k ob c n l).1 f⟩;rw[<-j];unfold World.cell?;rw[b.ext.block c f]
def TR(Rd:bE)(e:Env)(t:List (Nat×AV))(a:eb):Prop:=∀i,VR Rd (some e) (bG t i) (a.getD i undef)
def ej{sz:Nat}(h:∀r∈N,r.length=sz):N.flatten.length=N.length*sz:=by
 induction N with
 |nil=>simp
 |cons r N b=>
  rw[aqu,aqb,h r (by simp),b (λx a=>h x (by simp[a])),aqf,aqv];omega
def OR.mono{Rd y:bE}(j:∀b o u,Rd b o u->y b o u){e:Env}{w:World}{k:Nat}{ob:Ob}(h:OR Rd e w k ob):OR y e w k ob:=by
 cases ob with
 |box t B=>
  obtain⟨c,b,C,f,g,a⟩:=h;exact⟨c,b,C,f,g,a.imp λ_ _ i=>i.mono j⟩
 |arr t F E wr=>
  obtain⟨c,f,g,a⟩:=h;refine⟨c,f,g,?_⟩;rcases a with a|⟨b,v,x,l,m,n,p,q,r,s,z⟩
  ·exact .inl a
  ·exact .inr ⟨b,v,x,l,m,n,p,q,r,s.imp λ_ _ i=>i.mono j,z⟩
 |mp d D=>
  obtain⟨c,b,arr,A,f,g,a⟩:=h;exact⟨c,b,arr,A,f,g,a.mono j⟩
 |nr t B=>
  obtain⟨c,a⟩:=h;refine⟨c,?_⟩;rcases a with a|⟨b,v,x,l,m,n,p,q,r,s⟩
  ·exact .inl a
  ·exact .inr ⟨b,v,x,l,m,n,p,q,r,s.imp λ_ _ i=>i.mono j⟩
def Ob.ga(k:Nat):Ob->Bool
 |.box _ a=>AV.lV k a
 |.arr .. =>false
 |.mp .. =>false
 |.nr _ a=>AV.lV k a
def OR.env{Rd:bE}{e e':Env}{w w':World}{k j:Nat}{ob:Ob}(h:OR Rd e w j ob)(a:j≠k)(x:ob.ga k=false\/(e'.bS k=e.bS k/\e'.sv k=e.sv k))
 (g:∀i,i≠k->e'.bS i=e.bS i) (n:∀i,i≠k->e'.sv i=e.sv i) (A:∀i,i≠k->e'.cM i=e.cM i)
 (C:∀b,e.bS j=some b->b<w.heap.size->w'.heap[b]? =w.heap[b]?):OR Rd e' w' j ob:=by
 cases ob with
 |box t L=>
  obtain⟨q,b,N,r,s,m⟩:=h;refine⟨by rw[A j a];exact q,b,N,by rw[g j a];exact r,?_,m.1,λi c u v B=>?_⟩
  ·exact s.same (C b r s.lt)
  ·rcases x with x|⟨H,I⟩
   ·exact(m.2 i c u v B).env rfl k (e5 (by simpa[Ob.ga]using x) i c v) g n
   ·exact(m.2 i c u v B).ir rfl (λj=>by by_cases f:j=k;·rw[f];exact H
                                        ·exact g j f) (λj=>by by_cases f:j=k;·rw[f];exact I
                                                              ·exact n j f)
 |arr t Q P wr=>
  obtain⟨q,r,s,m⟩:=h;refine⟨q,r,λM=>by rw[A j a];exact s M,?_⟩;rcases m with⟨l,o,p⟩|⟨b,F,G,l,o,p,D,y,E,z,J⟩
  ·exact .inl ⟨l,by rw[g j a];exact o,by rw[n j a];exact p⟩
  ·refine .inr ⟨b,F,G,by rw[g j a];exact l,by rw[n j a];exact o,p,D,?_,E,z,by rw[A j a];exact J⟩
   rw[C b l (aqx.1 y).1];exact y
 |mp d O=>
  obtain⟨q,b,arr,K,r,s,m⟩:=h;exact⟨by rw[A j a];exact q,b,arr,K,by rw[g j a];exact r,by rw[C b r (aqx.1 s).1];exact s,m⟩
 |nr t L=>
  obtain⟨q,m⟩:=h;refine⟨by rw[A j a];exact q,?_⟩;rcases m with⟨l,o,p⟩|⟨b,F,G,l,o,p,D,y,E,z⟩
  ·exact .inl ⟨l,by rw[g j a];exact o,by rw[n j a];exact p⟩
  ·refine .inr ⟨b,F,G,by rw[g j a];exact l,by rw[n j a];exact o,p,D,?_,E,⟨z.1,λi c u v B=>?_⟩⟩
   ·rw[C b l (aqx.1 y).1];exact y
   ·rcases x with x|⟨H,I⟩
    ·exact(z.2 i c u v B).env rfl k (e5 (by simpa[Ob.ga]using x) i c v) g n
    ·exact(z.2 i c u v B).ir rfl (λj=>by by_cases f:j=k;·rw[f];exact H
                                         ·exact g j f) (λj=>by by_cases f:j=k;·rw[f];exact I
                                                               ·exact n j f)
def Env.cK(e:Env)(k:Nat)(b:bU)(s:Value)(l:Nat):Env:=
 ⟨λi=>if i=k then b else e.bS i,λi=>if i=k then s else e.sv i,λi=>if i=k then l else e.cM i⟩
def Env.bT:(u.cK c H g v).bS c=H:=by simp[Env.cK]
def Env.dJ:(u.cK c H g v).sv c=g:=by simp[Env.cK]
def Env.bW:(u.cK c H g v).cM c=v:=by simp[Env.cK]
def Env.bx(h:W≠c):(u.cK c H g v).bS W=u.bS W:=by simp[Env.cK,h]
def Env.db(h:W≠c):(u.cK c H g v).sv W=u.sv W:=by simp[Env.cK,h]
def Env.j0(h:W≠c):(u.cK c H g v).cM W=u.cM W:=by simp[Env.cK,h]
def bf{h:Hp}{o:Option Ob}:a_ ((c,o)::h) c=o:=by simp[a_]
def bc{h:Hp}{o:Option Ob}(a:v≠c):a_ ((c,o)::h) v=a_ h v:=by simp[a_,a]
def nP(k:Nat)(h:Hp):Bool:=h.all λp=>match p.2 with|some ob=> !ob.ga k|none=>true
def WE(k:Nat)(t:List (Nat×AV)):Bool:=t.all λp=> !p.2.ga k
def vW{k:Nat}:∀{h:Hp},nP k h=true->∀j ob,a_ h j=some ob->ob.ga k=false
 |[],_,j,ob,a=>by simp[a_]at a
 |(i,o)::h,b,j,ob,a=>by
  simp only[nP,aqY,apS]at b;by_cases c:j=i
  ·subst c
   rw[bf]at a;subst a;simpa using b.1
  ·rw[bc c]at a
   exact vW (by simpa[nP]using b.2) j ob a
def Km{k:Nat}:∀{t:List (Nat×AV)},WE k t=true->∀j,(bG t j).ga k=false
 |[],_,j=>by simp[bG,AV.ga]
 |(i,c)::t,a,j=>by
  simp only[WE,aqY,apS]at a;by_cases b:j=i
  ·subst b;simp[bG];simpa using a.1
  ·simp only[bG,b,aqN];exact Km (by simpa[WE]using a.2) j
def SR.tR{q:Bs}{w w':World}{x:bE}{h:Hp}(g:SR q x u h w)(k:Nat)(p:bU)(s:Value)(l:Nat)(v:Option Ob)
 (S:Bx q w') (nP:(nP k h=true/\k<4294967296)\/(p=u.bS k/\s=u.sv k))
 (a0:w.heap.size<=w'.heap.size)
 (N:∀b,b<w.heap.size->(∀ob,a_ h k=some ob->u.bS k≠some b)->w'.heap[b]? =w.heap[b]?)
 (E:∀b,p=some b->v≠none->q.hI b/\b<w'.heap.size/\((∃ob,a_ h k=some ob/\u.bS k=some b)\/w.heap.size<=b))
 (U:∀b o a ob,a_ h k=some ob->u.bS k=some b->o<u.cM k->w.cell? ⟨b,o,none⟩=some a->w'.cell? ⟨b,o,none⟩=some a/\(v≠none->p=some b->o<l))
 (Z:∀(Rd:bE),(∀b o a,bO q x u h w b o a->Rd b o a)->(∀b o a,w'.cell? ⟨b,o,none⟩=some a->(∀ob,a_ h k=some ob->u.bS k=some b->v=none\/p≠some b)->b<w.heap.size->(∃ob,a_ h k=some ob/\u.bS k=some b)->Rd b o a)->∀J,v=some J->OR Rd (u.cK k p s l) w' k J):
 SR q x (u.cK k p s l) ((k,v)::h) w'/\∀b o a,bO q x u h w b o a->bO q x (u.cK k p s l) ((k,v)::h) w' b o a:=by
 have H:∀b o a,bO q x u h w b o a->bO q x (u.cK k p s l) ((k,v)::h) w' b o a:=by
  rintro b o a ⟨G,Q,K⟩;have L:b<w.heap.size:=arT w _ G;have M:w'.cell? ⟨b,o,none⟩=some a/\(v≠none->p=some b->o<l):=by
   by_cases A:∃ob,a_ h k=some ob/\u.bS k=some b
   ·obtain⟨ob,f,d⟩:=A
    exact U b o a ob f d (K k ob f d) G
   ·have W:∀ob,a_ h k=some ob->u.bS k≠some b:=λob f d=>A ⟨ob,f,d⟩
    refine⟨by rw[ash (w:=w) (N b L W)];exact G,λY V=>?_⟩;rcases(E b V Y).2.2 with C|C
    ·exact absurd C A
    ·omega
  refine⟨M.1,Q,λj ob c d=>?_⟩;by_cases e:j=k
  ·subst e
   rw[bf]at c;rw[Env.bT]at d;rw[Env.bW];exact M.2 (by rw[c];simp) d
  ·rw[bc e]at c
   rw[Env.bx e]at d;rw[Env.j0 e];exact K j ob c d
 refine⟨⟨S,g.jO,λj ob c=>?_,λj ob b c d=>?_,λj P ob J b c z d y=>?_,λj c=>?_⟩,H⟩
 ·by_cases e:j=k
  ·subst e
   rw[bf]at c;refine Z _ H (λb o a R X L A=>?_) ob c;obtain⟨F,f,n⟩:=A;refine⟨R,λI=>?_,λi a1 m B=>?_⟩
   ·exact absurd (g.base _ _ _ f n).1 I
   ·by_cases D:i=j
    ·subst D
     rw[bf]at m;rw[Env.bT]at B;rcases X F f n with h|h
     ·rw[h]at m;cases m
     ·exact absurd B h
    ·rw[bc D]at m
     rw[Env.bx D]at B;exact absurd (g.inj _ _ _ _ _ m f B n) D
  ·rw[bc e]at c
   refine((g.ob j ob c).env (w':=w') e (nP.imp (λt=>vW t.1 j ob c) (λt=>⟨by rw[Env.bT];exact t.1,by rw[Env.dJ];exact t.2⟩)) (λ_ m=>Env.bx m) (λ_ m=>Env.db m) (λ_ m=>Env.j0 m) λb d I=>?_).mono H;exact N b I λF f n=>e (g.inj _ _ _ _ _ c f d n)
 ·by_cases e:j=k
  ·subst e
   rw[bf]at c;rw[Env.bT]at d;have:=E b d (by rw[c];simp);exact⟨this.1,this.2.1⟩
  ·rw[bc e]at c
   rw[Env.bx e]at d;have:=g.base j ob b c d;exact⟨this.1,by omega⟩
 ·by_cases e:j=k
  ·by_cases r:P=k
   ·rw[e,r]
   ·subst e
    rw[bf]at c;rw[bc r]at z;rw[Env.bT]at d;rw[Env.bx r]at y;rcases(E b d (by rw[c];simp)).2.2 with⟨F,f,n⟩|C
    ·exact absurd (g.inj _ _ _ _ _ z f y n) r
    ·have:=(g.base _ _ _ z y).2;omega
  ·rw[bc e]at c
   rw[Env.bx e]at d;by_cases r:P=k
   ·subst r
    rw[bf]at z;rw[Env.bT]at y;rcases(E b y (by rw[z];simp)).2.2 with⟨F,f,n⟩|C
    ·exact g.inj _ _ _ _ _ c f d n
    ·have:=(g.base _ _ _ c d).2;omega
   ·rw[bc r]at z
    rw[Env.bx r]at y;exact g.inj _ _ _ _ _ c z d y
 ·have O:=g.t_ j c
  by_cases e:j=k
  ·subst e
   rw[Env.bT,Env.dJ];rcases nP with t|t
   ·omega
   ·rw[t.1,t.2];exact O
  ·rw[Env.bx e,Env.db e];exact O
def TR.mono{Rd a:bE}{e:Env}{t:List (Nat×AV)}{c:eb}(h:TR Rd e t c)(d:∀b o u,Rd b o u->a b o u):TR a e t c:=λi=>(h i).mono d
def TR.env{Rd:bE}{e e':Env}{t:List (Nat×AV)}{a:eb}(h:TR Rd e t a)(k:Nat)(c:WE k t=true)
 (b:∀j,j≠k->e'.bS j=e.bS j) (d:∀j,j≠k->e'.sv j=e.sv j):TR Rd e' t a:=λi=>(h i).env rfl k (Km c i) b d
def TR.put{Rd:bE}{a:eb}(h:TR Rd u J a){d:Nat}{c:AV}{v:Value}(e:d<a.size)(f:VR Rd (some u) c v):
 TR Rd u ((d,c)::J) (a.setIfInBounds d v):=by
 intro i;by_cases b:i=d
 ·subst b
  simp[bG,e];exact f
 ·have:(a.setIfInBounds d v).getD i undef=a.getD i undef:=by
   simp only[aq8,atI];rw[apQ (by omega)]
  rw[this];simp only[bG,b,aqN];exact h i
variable{B:AV}{y:List AV}
section
variable{w0:Bs}{w:World}{Rd0:bE}{e:Env}{h:Hp}
def Za(w:World)(o:Obj)(i:Nat)(a:i<w.heap.size):(w.alloc o).heap[i]? =w.heap[i]? :=by
 show(w.heap.push o)[i]? =_;rw[ar2,apQ (by omega)]
def WG(w:World)(o:Obj):(w.alloc o).heap[w.heap.size]? =some o:=by
 show(w.heap.push o)[w.heap.size]? =_;rw[ar2,apR rfl]
def SR.aeY(d:SR w0 Rd0 e h w)(k:Nat)(t:TypeId)(o:Obj)(g:qd (w.alloc o) w.heap.size t s)(l:LR (VR (bO w0 Rd0 e h w) (some e)) y s)(A:nP k h=true)(z:k<4294967296)(v:AV.lV k y=false):
 SR w0 Rd0 (e.cK k (some w.heap.size) (e.sv k) 0) ((k,some (.box t y))::h) (w.alloc o)/\
 ∀b m u,bO w0 Rd0 e h w b m u->bO w0 Rd0 (e.cK k (some w.heap.size) (e.sv k) 0) ((k,some (.box t y))::h) (w.alloc o) b m u:=by
 refine d.tR k (some w.heap.size) (e.sv k) 0 _ (d.ext.alloc _) (.inl ⟨A,z⟩) (by simp) (λb a _=>Za w _ b a) (λb a _=>?_) (λb o u ob g a C x=>?_) (λRd p _ D B=>?_)
 ·obtain rfl:=apZ a
  exact⟨d.ext.hI (apT _),by simp,.inr (apT _)⟩
 ·have r:=(d.base _ _ _ g a).2
  refine⟨by rw[ash (w:=w) (Za w _ b r)];exact x,λ_ q=>?_⟩;obtain rfl:=apZ q;omega
 ·obtain rfl:=apZ B
  refine⟨Env.bW,w.heap.size,s,Env.bT,g,l.1,λi c u j n=>?_⟩;exact((l.2 i c u j n).mono p).env rfl k (e5 v i c j) (λ_ f=>Env.bx f) (λ_ f=>Env.db f)
def SR.ah3(g:SR w0 Rd0 e h w)(k:Nat)(t:TypeId)(i:t≠CL)(d:LR (VR (bO w0 Rd0 e h w) (some e)) y s)(f:nP k h=true)(c:k<4294967296)(a:AV.lV k y=false):
 SR w0 Rd0 (e.cK k (some w.heap.size) (e.sv k) 0) ((k,some (.box t y))::h) (w.alloc (.cells s.toArray t))/\
 ∀b o u,bO w0 Rd0 e h w b o u->bO w0 Rd0 (e.cK k (some w.heap.size) (e.sv k) 0) ((k,some (.box t y))::h) (w.alloc (.cells s.toArray t)) b o u:=
 g.aeY k t _ (.inl ⟨i,WG w _⟩) d f c a
def SR.H9(i:SR w0 Rd0 e h w)(k:Nat)(t:TypeId)(g a:Nat){rows:List (List AV)}{cur:eb}(G:∀r∈rows,r.length=g)(m:∀c∈rows.flatten,c.one=true)
 (A:LR (VR (bO w0 Rd0 e h w) none) rows.flatten (cur.toList.take rows.flatten.length)) (s:rows.length<=a) (B:a<=maxLen) (x:cur.size=a*g) (C:nP k h=true) (z:k<4294967296)
 (f:World) (j:f.heap=w.heap.push (.cells cur t)) (y:Bx w0 f):
 SR w0 Rd0 (e.cK k (some w.heap.size) (.slice (some ⟨w.heap.size,0,none⟩) rows.length a) 0) ((k,some (.arr t g rows true))::h) f/\
 ∀b o u,bO w0 Rd0 e h w b o u->bO w0 Rd0 (e.cK k (some w.heap.size) (.slice (some ⟨w.heap.size,0,none⟩) rows.length a) 0) ((k,some (.arr t g rows true))::h) f b o u:=by
 have I:f.heap.size=w.heap.size+1:=by rw[j];simp
 have l:∀b,b<w.heap.size->f.heap[b]? =w.heap[b]? :=λb d=>by rw[j,ar2,apQ (by omega)]
 refine i.tR k (some w.heap.size) (.slice (some ⟨w.heap.size,0,none⟩) rows.length a) 0 _ y (.inl ⟨C,z⟩) (by omega) (λb d _=>l b d) (λb d _=>?_) (λb o u ob D d H v=>?_) (λRd n _ J E=>?_)
 ·obtain rfl:=apZ d
  exact⟨i.ext.hI (apT _),by omega,.inr (apT _)⟩
 ·have q:=(i.base _ _ _ D d).2
  refine⟨by rw[ash (w:=w) (l b q)];exact v,λ_ p=>?_⟩;obtain rfl:=apZ p;omega
 ·obtain rfl:=apZ E
  refine⟨G,m,λ_=>Env.bW,.inr ⟨w.heap.size,a,cur,Env.bT,Env.dJ,s,B,?_,x,A.imp λ_ _ F=>F.mono n,?_⟩⟩
  ·rw[j,ar2,apR rfl]
  ·rw[Env.bW];exact aql _
def SR.CN(d:SR w0 Rd0 e h w)(k:Nat)(t:TypeId)(f:Nat)(a:Option Addr)(l:nP k h=true)(j:k<4294967296):
 SR w0 Rd0 (e.cK k none (.slice a 0 0) 0) ((k,some (.arr t f [] true))::h) w/\
 ∀b o u,bO w0 Rd0 e h w b o u->bO w0 Rd0 (e.cK k none (.slice a 0 0) 0) ((k,some (.arr t f [] true))::h) w b o u:=by
 refine d.tR k none (.slice a 0 0) 0 _ d.ext (.inl ⟨l,j⟩) (apT _) (λb c _=>rfl) (λb c _=>by cases c) (λb o u ob q c p i=>⟨i,λ_ g=>by cases g⟩) (λRd n _ r m=>?_);obtain rfl:=apZ m;exact⟨by simp,by simp,λ_=>Env.bW,.inl ⟨rfl,Env.bT,a,Env.dJ⟩⟩
def SR.nQ(k:SR w0 Rd0 e h w)(C:m≠CL)(f:a_ h c=some (.box m y))(b:e.bS c=some v)(o:Nat)
 (L:VR (bO w0 Rd0 e h w) (some e) B g):
 SR w0 Rd0 (e.cK c (some v) (e.sv c) 0) ((c,some (.box m (y.set o B)))::h) (w.setCell ⟨v,o,none⟩ g)/\
 ∀d r s,bO w0 Rd0 e h w d r s->bO w0 Rd0 (e.cK c (some v) (e.sv c) 0) ((c,some (.box m (y.set o B)))::h) (w.setCell ⟨v,o,none⟩ g) d r s:=by
 obtain⟨G,a,t,E,K,z⟩:=k.ob _ _ f;obtain rfl:a=v:=apZ (E.symm.trans b);have p:=k.base _ _ _ f b;refine k.tR c (some a) (e.sv c) 0 _ (k.ext.setCell p.1 _) (.inr ⟨b.symm,rfl⟩) (by simp) (λd n I=>atJ w _ _ _ (λF=>I _ f (by rw[b];exact ap5 some F.symm))) (λd n _=>?_) (λd r s ob N n H M=>?_) (λRd u _ O J=>?_)
 ·obtain rfl:=apZ n
  exact⟨p.1,by simp;exact p.2,.inl ⟨_,f,b⟩⟩
 ·rw[G]at H;omega
 ·obtain rfl:=apZ J
  refine⟨Env.bW,a,t.set o g,Env.bT,.inl ⟨C,?_⟩,?_⟩
  ·have:=atM w a o t.toArray m g (K.cells C)
   rw[this];simp
  ·have x:∀j,(e.cK c (some a) (e.sv c) 0).bS j=e.bS j:=λj=>by by_cases q:j=c<;>simp[Env.cK,q,b]
   have A:∀j,(e.cK c (some a) (e.sv c) 0).sv j=e.sv j:=λj=>by by_cases q:j=c<;>simp[Env.cK,q]
   have l:LR (VR Rd (some (e.cK c (some a) (e.sv c) 0))) y t:=⟨z.1,λi B g l D=>((z.2 i B g l D).mono u).ir rfl x A⟩;exact l.set o ((L.mono u).ir rfl x A)
def SR.qP(i:SR w0 Rd0 e h w){k rows':List (List AV)}(f:a_ h c=some (.arr m v k true))(a:e.bS c=some W)(o:Nat)
 (q:VR (bO w0 Rd0 e h w) none B g) (G:B.one=true) (A:rows'.length=k.length) (U:∀r∈rows',r.length=v) (z:rows'.flatten=k.flatten.set o B) (P:o<k.flatten.length):
 SR w0 Rd0 (e.cK c (some W) (e.sv c) 0) ((c,some (.arr m v rows' true))::h) (w.setCell ⟨W,o,none⟩ g)/\
 ∀b s t,bO w0 Rd0 e h w b s t->bO w0 Rd0 (e.cK c (some W) (e.sv c) 0) ((c,some (.arr m v rows' true))::h) (w.setCell ⟨W,o,none⟩ g) b s t:=by
 obtain⟨Y,D,p,R⟩:=i.ob _ _ f;have p:=p rfl;have n:=i.base _ _ _ f a;rcases R with⟨_,F,_⟩|⟨d,C,u,E,S,H,N,J,I,L,X⟩
 ·rw[F]at a;cases a
 obtain rfl:d=W:=apZ (E.symm.trans a);refine i.tR c (some d) (e.sv c) 0 _ (i.ext.setCell n.1 _) (.inr ⟨a.symm,rfl⟩) (by simp) (λb l O=>atJ w _ _ _ (λK=>O _ f (by rw[a];exact ap5 some K.symm))) (λb l _=>?_) (λb s t ob P l M V=>?_) (λRd y _ Z Q=>?_)
 ·obtain rfl:=apZ l
  exact⟨n.1,by simp;exact n.2,.inl ⟨_,f,a⟩⟩
 ·rw[p]at M;omega
 ·obtain rfl:=apZ Q
  refine⟨U,?_,λ_=>Env.bW,.inr ⟨d,C,u.setIfInBounds o g,Env.bT,?_,by rw[A];exact H,N,atM w d o u m g J,by simpa using I,?_,?_⟩⟩
  ·intro x j
   rw[z]at j;rcases asz j with j|rfl
   ·exact D x j
   ·exact G
  ·rw[Env.dJ,A];exact S
  ·rw[z,asA,ard,atd]
   exact(L.imp λ_ _ q=>q.mono y).set o (q.mono y)
  ·rw[Env.bW];exact aql _
def SR.Pm(l:SR w0 Rd0 e h w){wr:Bool}(p:a_ h c=some (.arr m v N wr)):
 ∃f,SR w0 Rd0 f ((c,some (.arr m v N false))::h) w/\(∀b o u,bO w0 Rd0 e h w b o u->bO w0 Rd0 f ((c,some (.arr m v N false))::h) w b o u)/\
  (∀j,f.bS j=e.bS j)/\(∀j,f.sv j=e.sv j)/\VR (bO w0 Rd0 f ((c,some (.arr m v N false))::h) w) none (.sl false v N) (e.sv c):=by
 obtain⟨Q,J,a1,G⟩:=l.ob _ _ p;have x:∀j,(e.cK c (e.bS c) (e.sv c) N.flatten.length).bS j=e.bS j:=λj=>by by_cases k:j=c<;>simp[Env.cK,k]
 have H:∀j,(e.cK c (e.bS c) (e.sv c) N.flatten.length).sv j=e.sv j:=λj=>by by_cases k:j=c<;>simp[Env.cK,k]
 have Y:e.cM c<=N.flatten.length\/e.bS c=none:=by
  rcases G with⟨_,n,_⟩|⟨q,z,r,s,_,_,_,_,_,_,y⟩
  ·exact .inr n
  ·exact .inl y
 obtain⟨R,K⟩:=l.tR c (e.bS c) (e.sv c) N.flatten.length (some (.arr m v N false)) l.ext (.inr ⟨rfl,rfl⟩) (apT _) (λb g _=>rfl)
  (λb g _=>⟨(l.base _ _ _ p g).1,(l.base _ _ _ p g).2,.inl ⟨_,p,g⟩⟩)
  (λb o u ob ho g P V=>⟨V,λ_ _=>by
   rcases Y with y|n
   ·omega
   ·rw[n]at g;cases g⟩)
  (λRd S _ a2 a0=>by
   obtain rfl:=apZ a0;refine⟨Q,J,(λW=>by cases W),?_⟩;rcases G with⟨F,n,a,A⟩|⟨q,z,r,s,I,B,E,C,M,t,y⟩
   ·exact .inl ⟨F,by rw[x];exact n,a,by rw[H];exact A⟩
   ·exact .inr ⟨q,z,r,by rw[x];exact s,by rw[H];exact I,B,E,C,M,t.imp λ_ _ hv=>hv.mono S,by rw[Env.bW];exact apT _⟩)
 have Z:(e.cK c (e.bS c) (e.sv c) N.flatten.length).cM c=N.flatten.length:=Env.bW;generalize e.cK c (e.bS c) (e.sv c) N.flatten.length=f at*;refine⟨f,R,K,x,H,?_⟩;rcases G with⟨F,n,a,A⟩|⟨q,z,r,s,I,B,E,C,M,t,y⟩
 ·subst F
  rw[A];exact VR.sl (rows:=[]) [] (by simp) (by simp) rfl (by simp) (apT _) (aql _) (by simp) (by simp)
 ·rw[I]
  refine VR.sl (r.toList.take N.flatten.length) Q J t.1 (λj d u U hu=>(t.2 j d u U hu).mono K) B E (by simp) (λ_=>⟨q,0,rfl,λj u k=>?_⟩);have X:j<N.flatten.length:=by
   have:=(apV.1 k).1;rw[t.1]at this;exact this
  rw[aqw,apR X]at k;refine⟨by rw[aqq,aqV w q j r m (0,0) C];simpa using k,λP=>?_,λi ob O L=>?_⟩
  ·exact absurd (l.base _ _ _ p s).1 P
  ·rw[x]at L
   by_cases D:i=c
   ·subst D;rw[Z];omega
   ·rw[bc D]at O
    exact absurd (l.inj _ _ _ _ _ O p L s) D
def SR.later(l:SR w0 Rd0 e h w){m:World}(i:Ext w m):SR w0 Rd0 e h m/\∀b o u,bO w0 Rd0 e h w b o u->bO w0 Rd0 e h m b o u:=by
 have B:∀b o u,bO w0 Rd0 e h w b o u->bO w0 Rd0 e h m b o u:=λb o u ⟨f,g,a⟩=>⟨i.cell f,g,a⟩;refine⟨⟨l.ext.later i,l.jO,λj ob A=>?_,λj ob b A F=>?_,l.inj,l.t_⟩,B⟩
 ·have k:=(l.ob j ob A).mono B
  cases ob with
  |box t E=>
   obtain⟨c,b,G,f,g,a⟩:=k;exact⟨c,b,G,f,g.ext (λo k=>i.block k),a⟩
  |arr t J I wr=>
   obtain⟨c,f,g,a⟩:=k;refine⟨c,f,g,?_⟩;rcases a with a|⟨b,y,z,n,p,q,r,s,v,x,C⟩
   ·exact .inl a
   ·exact .inr ⟨b,y,z,n,p,q,r,i.block s,v,x,C⟩
  |mp d H=>
   obtain⟨c,b,arr,D,f,g,a⟩:=k;exact⟨c,b,arr,D,f,i.block g,a⟩
  |nr t E=>
   obtain⟨c,a⟩:=k;refine⟨c,?_⟩;rcases a with a|⟨b,y,z,n,p,q,r,s,v,x⟩
   ·exact .inl a
   ·exact .inr ⟨b,y,z,n,p,q,r,i.block s,v,x⟩
 ·have:=l.base j ob b A F
  exact⟨this.1,arV this.2 i.size⟩
end
variable{F:Bool}{O:Option Env}
def AV.kill(k:Nat)(c:AV):AV:=if c.ga k then .un else c
def Ob.kill(k:Nat):Ob->Ob
 |.box t a=>.box t (a.map (AV.kill k))
 |.arr t f c wr=>.arr t f c wr
 |.mp d b=>.mp d b
 |.nr t a=>.nr t (a.map (AV.kill k))
def br(k:Nat):Hp->Hp
 |[]=>[]
 |(j,o)::h=>(j,o.map (Ob.kill k))::br k h
def cY(k:Nat):List (Nat×AV)->List (Nat×AV)
 |[]=>[]
 |(j,c)::t=>(j,c.kill k)::cY k t
def j_(k:Nat)(c:AV):(c.kill k).ga k=false:=by
 unfold AV.kill;split
 ·rfl
 ·rename_i h;simpa using h
def u4(k:Nat):∀a:List AV,AV.lV k (a.map (AV.kill k))=false
 |[]=>rfl
 |c::a=>by simp[AV.lV,j_,u4 k a]
def d_(k:Nat):∀h:Hp,nP k (br k h)=true
 |[]=>rfl
 |(j,o)::h=>by
  have a:=d_ k h;unfold nP at a⊢;simp only[br,aqY,a,ate];cases o with
  |none=>rfl
  |some ob=>cases ob<;>simp[Ob.kill,Ob.ga,u4]
def dO(k:Nat):∀t:List (Nat×AV),WE k (cY k t)=true
 |[]=>rfl
 |(j,c)::t=>by
  have a:=dO k t;unfold WE at a⊢;simp only[cY,aqY,a,ate,j_,aq5]
def dp(k:Nat):∀(h:Hp) (j:Nat),a_ (br k h) j=(a_ h j).map (Ob.kill k)
 |[],_=>rfl
 |(i,o)::h,j=>by
  simp only[br,a_];split
  ·rfl
  ·exact dp k h j
def sN(k:Nat):∀(t:List (Nat×AV)) (j:Nat),bG (cY k t) j=(bG t j).kill k
 |[],_=>by simp[cY,bG,AV.kill,AV.ga]
 |(i,c)::t,j=>by
  simp only[cY,bG];split
  ·rfl
  ·exact sN k t j
def VR.kill{Rd:bE}{E:Option Env}{c:AV}{u:Value}(h:VR Rd E c u)(k:Nat):VR Rd E (c.kill k) u:=by
 unfold AV.kill;split
 ·exact .un
 ·exact h
def TR.kill{Rd:bE}{e:Env}{t:List (Nat×AV)}{a:eb}(h:TR Rd e t a)(k:Nat):TR Rd e (cY k t) a:=λi=>by
 rw[sN];exact(h i).kill k
def LR.kill{Rd:bE}{E:Option Env}{a:List AV}{d:bD}(h:LR (VR Rd E) a d)(k:Nat):LR (VR Rd E) (a.map (AV.kill k)) d:=by
 refine⟨by simpa using h.1,λj c u b g=>?_⟩;rw[aqd]at b;obtain⟨f,i,rfl⟩:=aqo.1 b;exact(h.2 j f u i g).kill k
section
variable{w0:Bs}{w:World}{Rd0:bE}{e:Env}{h:Hp}
def SR.kill(i:SR w0 Rd0 e h w)(k:Nat):SR w0 Rd0 e (br k h) w/\∀b o u,bO w0 Rd0 e h w b o u->bO w0 Rd0 e (br k h) w b o u:=by
 have s:∀b o u,bO w0 Rd0 e h w b o u->bO w0 Rd0 e (br k h) w b o u:=λb o u ⟨g,F,r⟩=>⟨g,F,λj ob c p=>by
  rw[dp]at c;obtain⟨a,f,_⟩:=aqo.1 c;exact r j a f p⟩
 have q:∀j ob,a_ (br k h) j=some ob->∃a,a_ h j=some a/\ob=a.kill k:=λj ob c=>by
  rw[dp]at c;obtain⟨a,f,H⟩:=aqo.1 c;exact⟨a,f,H.symm⟩
 refine⟨⟨i.ext,i.jO,λj ob c=>?_,λj ob b c p=>?_,λj K ob L b c I p G=>?_,i.t_⟩,s⟩
 ·obtain⟨a,f,rfl⟩:=q j ob c
  have g:=(i.ob j a f).mono s;cases a with
  |box t C=>
   obtain⟨v,b,M,l,m,n⟩:=g;exact⟨v,b,M,l,m,n.kill k⟩
  |arr t R Q wr=>exact g
  |mp d N=>exact g
  |nr t C=>
   obtain⟨E,r⟩:=g;refine⟨E,?_⟩;rcases r with⟨l,m,n⟩|⟨b,B,D,l,m,n,x,y,z,A⟩
   ·exact .inl ⟨by rw[l];rfl,m,n⟩
   ·exact .inr ⟨b,B,D,l,by rw[ap1];exact m,by rw[ap1];exact n,x,y,z,by rw[ap1];exact A.kill k⟩
 ·obtain⟨a,f,rfl⟩:=q j ob c
  exact i.base j a b f p
 ·obtain⟨a,f,rfl⟩:=q j ob c
  obtain⟨O,J,rfl⟩:=q K L I;exact i.inj _ _ _ _ _ f J p G
def VR.lW{Rd:bE}(t:VR Rd O (.sl F c N) g):
 ∃a i f,g=.slice a N.length i/\(∀r∈N,r.length=c)/\(∀d∈N.flatten,d.one=true)/\LR (VR Rd none) N.flatten f/\N.length<=i/\i<=maxLen/\(F=true->i=N.length)/\
  (f≠[]->∃b o,a=some ⟨b,o,none⟩/\∀(j:Nat) u,f[j]? =some u->Rd b (o+j) u):=by
 cases t with
 |sl f v l s q k m n p=>exact⟨_,_,f,rfl,v,l,⟨s,q⟩,k,m,n,p⟩
def LR.one{Rd:bE}(h:LR (VR Rd none) y s)(b:∀c∈y,c.one=true):∀u∈s,u.oneCell'=true:=by
 intro u f;obtain⟨j,a,rfl⟩:=aqB f;have d:j<y.length:=by rw[<-h.1];exact a
 exact(h.2 j y[j] s[j] (ap0 d) (ap0 a)).jv (b _ (asi _)) (λ_ _ h=>by cases h)
section
variable{P:Program}
def qe(w:World)(t k E:TypeId)(i:TypeInfo)(j:P.underlying t=some (.slice E))(f:P.info? E=some i)(a c:Option Addr)(n b d:Nat)(g:n<=b):
 (Builtin.append_ #[t,t] k #[.slice a n b,.slice c 0 d]).run P w=.ok (.slice a n b) w:=by
 cases a<;>cases c<;>simp[Builtin.append_,aqi j,sizeOf,typeInfo,f,Builtin.lenOf,Builtin.firstCells,g,storeCells,loadCells,loadCellsFrom]
def Bx.setRow{B:Bs}{w:World}(h:Bx B w){g:Nat}(d:B.hI g)(a:eb):Bx B (w.setRow g a):=
 h.step rfl rfl rfl (by simp[World.setRow]) λb c _=>asC w g b a (λe=>c (by rw[e];exact d))
def SR.append(I:SR w0 Rd0 e h w){k:Nat}(a9:k<4294967296){E:TypeId}{q:Nat}{d ys:List (List AV)}{wr tt:Bool}(hk:a_ h k=some (.arr E q d wr))
 (t R:TypeId) (i:TypeInfo) (z:Value) (Y:P.underlying t=some (.slice E)) (V:P.info? E=some i) (hz:i.zero=some z) (y:i.size=q) (aT:z.cells.size=q) (aJ:0<q)
 {aA:Value} (aN:VR (bO w0 Rd0 e h w) (some e) (.sl tt q ys) aA)
 (ak:d.length+ys.length<=maxLen) (aD:(d.length+ys.length)*i.bytes<=140737488355328):
 ∃v' w' nb l,(Builtin.append_ #[t,t] R #[e.sv k,aA]).run P w=.ok v' w'/\
  SR w0 Rd0 (e.cK k nb v' l) ((k,some (.arr E q (d++ys) wr))::br k h) w'/\
  ∀b o u,bO w0 Rd0 e h w b o u->bO w0 Rd0 (e.cK k nb v' l) ((k,some (.arr E q (d++ys) wr))::br k h) w' b o u:=by
 obtain⟨x,D⟩:=I.kill k;have H:a_ (br k h) k=some (.arr E q d wr):=by rw[dp,hk];rfl
 have ab:=d_ k h;obtain⟨a2,U,us,rfl,ay,ax,Q,aU,aV,_,aQ⟩:=aN.lW;have aS:=ej ay;obtain⟨ag,aj,ao,ae⟩:=x.ob _ _ H;have a5:=ej ag;have aw:∀r∈d++ys,r.length=q:=λr f=>by
  rcases ap3.1 f with f|f
  ·exact ag r f
  ·exact ay r f
 have av:∀c∈(d++ys).flatten,c.one=true:=λc K=>by
  rw[ars]at K;rcases ap3.1 K with K|K
  ·exact aj c K
  ·exact ax c K
 unfold maxLen at ak;by_cases aF:ys.length=0
 ·
  have aR:ys=[]:=aqT aF;subst aR;simp only[aqy,aqI]at*;obtain⟨a,n,m,af,ac⟩:∃a n m,e.sv k=.slice a n m/\n<=m:=by
   rcases ae with⟨_,_,a,J⟩|⟨g,m,cur,F,af,a1,_⟩
   ·exact⟨a,0,0,J,apT _⟩
   ·exact⟨_,_,_,af,a1⟩
  obtain⟨h1,h2⟩:=x.tR k (e.bS k) (e.sv k) (e.cM k) (some (.arr E q d wr)) I.ext (.inl ⟨ab,a9⟩) (apT _) (λ_ _ _=>rfl)
   (λb p _=>⟨(x.base _ _ _ H p).1,(x.base _ _ _ H p).2,.inl ⟨_,H,p⟩⟩) (λb o u ob ho p a3 L=>⟨L,λ_ _=>a3⟩)
   (λRd C _ az W=>by
    obtain rfl:=apZ W;refine⟨ag,aj,λah=>by rw[Env.bW];exact ao ah,?_⟩;rcases ae with⟨f,al,a,J⟩|⟨g,m,cur,F,a6,a1,hm,M,a8,O,ap⟩
    ·exact .inl ⟨f,by rw[Env.bT];exact al,a,by rw[Env.dJ];exact J⟩
    ·exact .inr ⟨g,m,cur,by rw[Env.bT];exact F,by rw[Env.dJ];exact a6,a1,hm,M,a8,O.imp λ_ _ v=>v.mono C,by rw[Env.bW];exact ap⟩)
  refine⟨e.sv k,w,e.bS k,e.cM k,?_,h1,λb o u f=>h2 b o u (D b o u f)⟩;rw[af];exact qe w t R E i Y V a a2 n m U ac
 ·
  have aa:0<ys.length:=by omega
  have A:us.length=ys.length*q:=by rw[Q.1,aS]
  have aP:us≠[]:=by
   intro hh;rw[hh]at A;have:=asj aa aJ;simp at A;omega
  obtain⟨S,Z,rfl,aE⟩:=aQ aP;have a4:∀(j:Nat) u,us[j]? =some u->w.cell? ((⟨S,Z,none⟩:Addr).add j)=some u:=λj u N=>by
   rw[aqz];exact(aE j u N).1
  have aO:=Q.one ax;have ai:∀(B:bD),LR (VR (bO w0 Rd0 e (br k h) w) none) d.flatten B->∀(a0:Nat) (wv:World),wv.heap=w.drew.heap->Bx w0 wv.drew->∀s,d.length+ys.length<=s->s<=maxLen->
   SR w0 Rd0 (e.cK k (some w.heap.size) (.slice (some ⟨w.heap.size,0,none⟩) (d.length+ys.length) s) 0) ((k,some (.arr E q (d++ys) wr))::br k h)
    (w.drew.alloc (.cells (B.toArray++us.toArray++Builtin.zeroCells z.cells (s - (d.length+ys.length))) E))/\
   ∀b o u,bO w0 Rd0 e (br k h) w b o u->bO w0 Rd0 (e.cK k (some w.heap.size) (.slice (some ⟨w.heap.size,0,none⟩) (d.length+ys.length) s) 0) ((k,some (.arr E q (d++ys) wr))::br k h)
    (w.drew.alloc (.cells (B.toArray++us.toArray++Builtin.zeroCells z.cells (s - (d.length+ys.length))) E)) b o u:=by
   intro B X a0 wv _ _ s ac aG;have aM:(B.toArray++us.toArray++Builtin.zeroCells z.cells (s - (d.length+ys.length))).size=s*q:=by
    simp only[ar3,arG,art,aT,X.1,a5,A,<-aqv];congr 1;omega
   have aq:∀b,b<w.heap.size->(w.drew.alloc (.cells (B.toArray++us.toArray++Builtin.zeroCells z.cells (s - (d.length+ys.length))) E)).heap[b]? =w.heap[b]? :=λb p=>Za w.drew _ b p;refine x.tR k (some w.heap.size) _ 0 _ ((I.ext.drew).alloc _) (.inl ⟨ab,a9⟩) (by simp) (λb p _=>aq b p) (λb p _=>?_) (λb o u ob ho p a3 L=>?_) (λRd C _ az W=>?_)
   ·obtain rfl:=apZ p
    exact⟨I.ext.hI (apT _),by simp,.inr (apT _)⟩
   ·have aC:=(x.base _ _ _ ho p).2
    refine⟨by rw[ash (w:=w) (aq b aC)];exact L,λ_ aB=>?_⟩;obtain rfl:=apZ aB;omega
   ·obtain rfl:=apZ W
    refine⟨aw,av,λ_=>Env.bW,.inr ⟨w.heap.size,s,_,Env.bT,?_,?_,aG,WG w.drew _,aM,?_,by rw[Env.bW];exact aql _⟩⟩
    ·rw[Env.dJ,aqb]
    ·rw[aqb];exact ac
    ·rw[ars]
     have e1:(B.toArray++us.toArray++Builtin.zeroCells z.cells (s - (d.length+ys.length))).toList.take (d.flatten++ys.flatten).length=B++us:=by
      rw[ar4,ar4,aqb,<-X.1,<-Q.1,<-aqb];exact asD
     rw[e1];exact(X.imp λ_ _ v=>v.mono C).append (Q.imp λ_ _ v=>v.mono λb o u f=>C b o u (D b o u f))
  have an:∀a0,grownCap w (d.length+ys.length) a0 E<=maxLen:=λa0=>atN w _ a0 E (by unfold maxLen;exact ak);rcases ae with⟨f,al,a,J⟩|⟨g,m,cur,F,a6,a1,hm,M,a8,O,ap⟩
  ·subst f
   simp only[aqI,aqq,aqC]at*;have G:=ai [] LR.nil 0 w rfl I.ext.drew (grownCap w ys.length 0 E) (are w _ 0 E) (an 0);cases a with
   |none=>
    refine⟨_,_,some w.heap.size,0,?_,G.1,λb o u f=>G.2 b o u (D b o u f)⟩;rw[J];have:=atO (P:=P) w t R E i z Y V hz ⟨S,Z,none⟩ ys.length U us (by rw[A,y]) a4 aa (by omega) (by omega);simpa using this
   |some a=>
    refine⟨_,_,some w.heap.size,0,?_,G.1,λb o u f=>G.2 b o u (D b o u f)⟩;rw[J];have:=ar5 (P:=P) w t R E i z Y V hz a 0 0 [] (by simp) (by simp) ⟨S,Z,none⟩ ys.length U us (by rw[A,y]) a4 (by omega) (by omega) (by rw[aqq,nextslicecap_zero aa];omega);simpa using this
  ·by_cases ad:d.length+ys.length<=m
   ·
    have am:d.length*i.size+us.length<=cur.size:=by rw[y,A,a8,<-aqv];exact ar6 _ ad
    have f:=run_append_room (P:=P) w t R E i Y V g d.length m cur M ⟨S,Z,none⟩ ys.length U us (by rw[A,y]) a4 aO ad am;have a7:=x.base _ _ _ H F;have aL:cur.toList.take (d.length*i.size)=cur.toList.take d.flatten.length:=by rw[y,a5]
    have ar:(cur.toList.take d.flatten.length).length=d.flatten.length:=O.1;rw[aL]at f;refine⟨_,_,some g,e.cM k,by rw[a6];exact f,?_⟩;have au:=atP w g cur ((cur.toList.take d.flatten.length++us++cur.toList.drop (d.length*i.size+us.length)).toArray) E (0,0) M;obtain⟨h1,h2⟩:=x.tR (w':=w.setRow g (cur.toList.take d.flatten.length++us++cur.toList.drop (d.length*i.size+us.length)).toArray) k (some g) (.slice (some ⟨g,0,none⟩) (d.length+ys.length) m) (e.cM k) (some (.arr E q (d++ys) wr))
     (I.ext.setRow a7.1 _) (.inl ⟨ab,a9⟩) (by simp) (λb p aH=>asC w g b _ (λhh=>aH _ H (by rw[F];exact ap5 some hh.symm)))
     (λb p _=>by
      obtain rfl:=apZ p;exact⟨a7.1,by simp;exact a7.2,.inl ⟨_,H,F⟩⟩)
     (λb o u ob ho p a3 L=>by
      obtain rfl:g=b:=apZ (F.symm.trans p);refine⟨?_,λ_ _=>a3⟩;have aI:o<d.flatten.length:=by omega
      rw[aqV w g o cur E (0,0) M]at L;rw[aqV _ g o _ E (0,0) au];have:o<(cur.toList.take d.flatten.length).length:=by omega
      simp only[arj];rw[aqm,aqF this,aqw,apR aI];simpa using L)
     (λRd C _ az W=>by
      obtain rfl:=apZ W;refine⟨aw,av,λah=>by rw[Env.bW];exact ao ah,.inr ⟨g,m,_,Env.bT,by rw[Env.dJ,aqb],by rw[aqb];exact ad,hm,au,?_,?_,?_⟩⟩
      ·simp only[arG,aqb,arH,ar7,ar]
       rw[y]at am⊢;rw[a5];omega
      ·have e1:(cur.toList.take d.flatten.length++us++cur.toList.drop (d.length*i.size+us.length)).toArray.toList.take (d++ys).flatten.length=cur.toList.take d.flatten.length++us:=by
        rw[ars,aqb,<-Q.1];exact asE (by rw[aqb,ar])
       rw[e1,ars];exact(O.imp λ_ _ v=>v.mono C).append (Q.imp λ_ _ v=>v.mono λb o u f=>C b o u (D b o u f))
      ·rw[Env.bW,ars,aqb];omega)
    exact⟨h1,λb o u f=>h2 b o u (D b o u f)⟩
   ·have X:∀(j:Nat) u,(cur.toList.take d.flatten.length)[j]? =some u->w.cell? ((⟨g,0,none⟩:Addr).add j)=some u:=λj u N=>by
     rw[aqz,aqq,aqV w g j cur E (0,0) M];rw[aqw]at N;split at N
     ·simpa using N
     ·cases N
    have G:=ai _ O m w rfl I.ext.drew (grownCap w (d.length+ys.length) m E) (are w _ m E) (an m);refine⟨_,_,some w.heap.size,0,?_,G.1,λb o u f=>G.2 b o u (D b o u f)⟩;rw[a6];exact ar5 (P:=P) w t R E i z Y V hz ⟨g,0,none⟩ d.length m (cur.toList.take d.flatten.length) (by rw[O.1,a5,y]) X ⟨S,Z,none⟩ ys.length U us (by rw[A,y]) a4 (by omega) (by omega) (asF (by omega) aD)
end
end
variable{C:Act}{G:Bs}{K:Hp}{A:Operand}{R:TypeId}
structure Ga(w0:Bs)(Rd0:bE)(e:Env)(st:St)(a:Act)(w:World):Prop where
 n:a.tmps.size=st.n/\st.n<=1000000
 d:a.defers=w0.df
 sr:SR w0 Rd0 e st.h w
 tr:TR (bO w0 Rd0 e st.h w) e st.t a.tmps
def lq:Value->AV
 |.slice none 0 0=>.sl true 0 []
 |x=>.v x
def gA(g:Nat):AV:=match WD Y_ g with
 |some (k,l)=>.fp (l.map λx=>.v (.int k x))
 |none=>.un
def St.ev(s:St):Operand->AV
 |.tmp i=>bG s.t i
 |.const v=>lq v
 |.global g=>gA g
 |.func f=>.v (.func (.func f) #[] #[])
def CP{Rd:bE}(x:Value):VR Rd O (lq x) x:=by
 unfold lq;split
 ·exact VR.sl (rows:=[]) [] (by simp) (by simp) rfl (by simp) (apT _) (aql _) (λ_=>rfl) (by simp)
 ·exact .v
def Ga.ev{q:Bs}{p:bE}{e:Env}{st:St}{a:Act}{w:World}(h:Ga q p e st a w)(x:Operand):VR (bO q p e st.h w) (some e) (st.ev x) (a.eval x):=by
 cases x with
 |tmp i=>exact h.tr i
 |const v=>exact CP v
 |global g=>
  simp only[St.ev,gA];split
  ·rename_i k l r
   refine VR.fp (o:=0) (l.map λx=>Value.int k x) (by simp) (λj c u n b=>?_) λj u b=>?_
   ·rw[aqd]at n b
    cases m:l[j]? with
    |none=>rw[m]at n;cases n
    |some x=>rw[m]at n b;cases n;cases b;exact .v
   ·rw[aqd]at b
    cases m:l[j]? with
    |none=>rw[m]at b;cases b
    |some x=>
     rw[m]at b;cases b;rw[aqq];exact h.sr.CM ⟨k,l,x,r,m,rfl⟩
  ·exact .un
 |func f=>exact .v
def aeZ:TypeDesc->Bool
 |.struct _|.array _ _=>true
 |_=>false
def Pn(P:Program)(t:TypeId):Option (Bool×Nat):=
 match P.underlying t,P.info? t with
 |some d,some i=>some (aeZ d,i.size)
 |_,_=>none
def FA(P:Program)(t:TypeId):Option (TypeId×Nat×Nat×bD):=
 match P.underlying t with
 |some (.slice e)=>match P.info? e with
  |some i=>match i.zero with
   |some z=>if z.cells.size=i.size then some (e,i.size,i.bytes,z.cells.toList)else none
   |none=>none
  |none=>none
 |_=>none
def arA(P:Program)(t:TypeId):Option (Nat×TypeId×Nat):=
 match P.underlying t with
 |some (.array n e)=>match P.info? e with
  |some i=>some (n,e,i.size)
  |none=>none
 |_=>none
def Y3(P:Program)(t:TypeId)(f:Nat):Option (Nat×Bool×Nat):=
 match P.underlying t with
 |some (.struct c)=>match c[f]? with
  |some a=>match Pn P a.type with
   |some (b,n)=>some (a.offset,b,n)
   |none=>none
  |none=>none
 |_=>none
def BN(st:St)(p:AV)(n:Nat)(b:List AV):Prop:=
 match p with
 |.pt k o=>∃t a,a_ st.h k=some (.box t a)/\t≠CL/\o+n<=a.length/\b=(a.drop o).take n
 |.pe k i f o=>(∃t e wr r,a_ st.h k=some (.arr t f e wr)/\e[i]? =some r/\o+n<=r.length/\b=(r.drop o).take n)\/
  ∃t a c,a_ st.h k=some (.nr t a)/\a[i]? =some c/\f=1/\o=0/\n=1/\b=[c]
 |.fp a=>n<=a.length/\b=a.take n
 |_=>False
def RS(P:Program)(o:Oper)(st:St)(c:AV):Prop:=
 ∀g f e a w,Ga g f e st a w->∃v,VR (bO g f e st.h w) (some e) c v/\∀b,Ext w b->(execOp a.eval o).run P b=.ok (.value v) b
section
variable{P:Program}{st:St}{d:iN}{ty:TypeId}{pos:String}{af:dI}{gd:fE}
def RS.move(x:Operand):RS P ⟨d,.move x,ty,pos,af,gd⟩ st (st.ev x):=λf b e a w h=>
 ⟨a.eval x,h.ev x,λc _=>by simp[execOp]⟩
def RS.assign(x:Operand):RS P ⟨d,.assign x,ty,pos,af,gd⟩ st (st.ev x):=λf b e a w h=>
 ⟨a.eval x,h.ev x,λc _=>by simp[execOp]⟩
def RS.pick(c x y:Operand)(t:Bool)(g:st.ev c=.v (.bool t)):RS P ⟨d,.pick c x y,ty,pos,af,gd⟩ st (if t then st.ev x else st.ev y):=λk j e a w h=>by
 have b:=h.ev c;rw[g]at b;have f:=b.bN;cases t
 ·exact⟨a.eval y,by simpa using h.ev y,λi _=>by simp[execOp,f,asBool]⟩
 ·exact⟨a.eval x,by simpa using h.ev x,λi _=>by simp[execOp,f,asBool]⟩
def LR.sub{R:AV->Value->Prop}(h:LR R y s)(o n:Nat)(a:o+n<=y.length):LR R ((y.drop o).take n) ((s.drop o).take n)/\((s.drop o).take n).length=n:=by
 refine⟨(h.drop o).take n,?_⟩;rw[aqD,arH,h.1];omega
def CQ(e:Ga G h u st C I){n:Nat}(g:BN st B n y){v:Value}(s:VR (bO G h u st.h I) (some u) B v):
 ∃b o w,v=.pointer (some ⟨b,o,none⟩)/\w.length=n/\LR (VR (bO G h u st.h I) (some u)) y w/\∀(j:Nat) a,w[j]? =some a->I.cell? ⟨b,o+j,none⟩=some a:=by
 cases B with
 |pt k o=>
  obtain⟨t,K,H,a4,O,rfl⟩:=g;cases s with
  |pt p=>
   obtain⟨_,q,w,E,a5,z⟩:=e.sr.ob _ _ H;obtain rfl:=apZ (E.symm.trans p);have A:=z.sub o n O;refine⟨q,o,_,rfl,A.2,A.1,λj a f=>?_⟩;rw[aqV I q (o+j) w.toArray t (0,0) (a5.cells a4)];rw[aqw]at f;split at f
   ·rw[arb]at f;simpa using f
   ·cases f
 |pe k i m o=>
  rcases g with g|⟨t,K,c,H,g,rfl,rfl,rfl,rfl⟩
  case inr=>
   cases s with
   |pe p=>
    obtain⟨_,Q⟩:=e.sr.ob _ _ H;rcases Q with⟨_,M,_⟩|⟨q,V,L,E,a3,X,hm,N,Z,z⟩
    ·rw[M]at p;cases p
    obtain rfl:=apZ (E.symm.trans p);obtain⟨a,U,a6⟩:=z.get g;have hi:i<K.length:=(apV.1 g).1;refine⟨q,i*1+0,[a],rfl,rfl,LR.cons a6 LR.nil,λj u' f=>?_⟩;cases j with
    |zero=>
     simp at f;subst f;rw[aqV I q _ L t (0,0) N];rw[aqw,apR hi]at U;simpa using U
    |succ j=>simp at f
  obtain⟨t,l,wr,r,H,J,O,rfl⟩:=g;cases s with
  |pe p=>
   obtain⟨D,a7,_,Q⟩:=e.sr.ob _ _ H;rcases Q with⟨_,M,_⟩|⟨q,V,L,E,a3,X,hm,N,Z,z,a8⟩
   ·rw[M]at p;cases p
   obtain rfl:=apZ (E.symm.trans p);have a9:r.length=m:=D r (ap_ J);have eW:i<l.length:=(apV.1 J).1;have a0:(l.flatten.drop (i*m)).take m=r:=by
    have:∀(l:List (List AV)) (i:Nat),(∀r∈l,r.length=m)->l[i]? =some r->(l.flatten.drop (i*m)).take m=r:=by
     intro l
     induction l with
     |nil=>intro i _ F;simp at F
     |cons x l ih=>
      intro i D F;have R:x.length=m:=D x (by simp);cases i with
      |zero=>
       simp at F;subst F;simp only[asl,aqG,aqu];exact asE R
      |succ i=>
       rw[aqu,aqv,arW,atQ,<-R,auE];rw[R];exact ih i (λr J=>D r (by simp[J])) (by simpa using F)
    exact this l i D J
   have a2:((l.flatten.drop (i*m+o)).take n)=(r.drop o).take n:=by
    rw[<-a0,<-arX,List.drop_take,ar8];congr 1;omega
   have a1:i*m+o+n<=l.flatten.length:=by
    rw[ej D];have:(i+1)*m<=l.length*m:=ar6 _ eW;rw[aqv]at this;omega
   have A:=z.sub (i*m+o) n a1;rw[a2]at A;refine⟨q,i*m+o,_,rfl,A.2,A.1.imp λ_ _ s=>s.cS,λj a f=>?_⟩;rw[aqV I q _ L t (0,0) N];rw[aqw]at f;split at f
   ·rw[arb,aqw]at f
    split at f
    ·simpa using f
    ·cases f
   ·cases f
 |fp K=>
  obtain⟨O,rfl⟩:=g;cases s with
  |fp w S Y W=>
   have z:LR (VR (bO G h u st.h I) none) K w:=⟨S,Y⟩;refine⟨_,_,w.take n,rfl,by rw[aqD,S];omega,(z.take n).imp λ_ _ s=>s.cS,λj a f=>?_⟩;rw[aqw]at f;split at f
   ·exact(W j a f).1
   ·cases f
 |un=>exact g.elim
 |v x=>exact g.elim
 |sl tt m l=>exact g.elim
 |ow k=>exact g.elim
 |ag y=>exact g.elim
 |tu vs=>exact g.elim
 |mp k=>exact g.elim
 |sw=>exact g.elim
 |cl fn fs y=>exact g.elim
def lO{a:TypeDesc}(w:World)(h:P.underlying m=some a):(isAgg m).run P w=.ok (aeZ a) w:=by
 simp only[isAgg,ap6,aqi h,ap7];cases a<;>simp[aeZ]
def cG{i:TypeInfo}(w:World)(h:P.info? m=some i):(sizeOf m).run P w=.ok i.size w:=by
 simp[sizeOf,typeInfo,h]
def ic(h:Pn P m=some (F,c)):∃a i,P.underlying m=some a/\P.info? m=some i/\F=aeZ a/\c=i.size:=by
 unfold Pn at h;split at h
 ·rename_i a i b e
  simp only[apU,aqa]at h;exact⟨a,i,b,e,h.1.symm,h.2.symm⟩
 ·cases h
def oQ(l:Pn P m=some (F,c)){b o:Nat}{us:bD}{w:World}(k:us.length=c)(f:∀(j:Nat) u,us[j]? =some u->w.cell? ⟨b,o+j,none⟩=some u):
 (F=true->(loadVar m ⟨b,o,none⟩).run P w=.ok (.agg us.toArray) w)/\(F=false->∀u,us=[u]->(loadVar m ⟨b,o,none⟩).run P w=.ok u w):=by
 obtain⟨p,i,e,g,rfl,rfl⟩:=ic l;refine⟨λa=>?_,λa u n=>?_⟩
 ·have:=run_loadCells_list (P:=P) w ⟨b,o,none⟩ us (λj u h=>by rw[aqz];exact f j u h)
  rw[k]at this;simp only[loadVar,ap6,lO w e,ap7,a,aqs,cG w g,this,ap8]
 ·subst n
  have:=f 0 u rfl;simp only[arf]at this;simp only[loadVar,ap6,lO w e,ap7,a,aru,aqN];simp[load,Sem.run,this]
def RS.load(x:Pn P m=some (F,c))(q:BN st (st.ev A) c y)(v:(F=true/\B=.ag y)\/(F=false/\y=[B])):
 RS P ⟨d,.load m A,ty,pos,af,gd⟩ st B:=λC z e a w h=>by
 obtain⟨b,o,i,p,t,k,r⟩:=CQ h q (h.ev A);have n:=λ(f:World) (g:Ext w f)=>oQ (P:=P) x (b:=b) (o:=o) (us:=i) (w:=f) t (λj u s=>g.cell (r j u s));rcases v with⟨l,rfl⟩|⟨l,rfl⟩
 ·refine⟨.agg i.toArray,.ag i k.1 k.2,λf g=>?_⟩
  have:=(n f g).1 l;simp[execOp,Instr.loadAt,Instr.sureAddr,p,this]
 ·obtain⟨u,rfl⟩:∃u,i=[u]:=by
   match i,k.1 with
   |[u],_=>exact⟨u,rfl⟩
  refine⟨u,k.2 0 B u rfl rfl,λf g=>?_⟩;have:=(n f g).2 l u rfl;simp[execOp,Instr.loadAt,Instr.sureAddr,p,this]
def gy(p:AV)(off:Nat):Option AV:=
 match p with
 |.pt k o=>some (.pt k (o+off))
 |.pe k i b o=>some (.pe k i b (o+off))
 |.fp a=>some (.fp (a.drop off))
 |_=>none
def F3{p q:AV}{off:Nat}(e:gy p off=some q){v:Value}(r:VR (bO G h u K I) (some u) p v):
 ∃b o,v=.pointer (some ⟨b,o,none⟩)/\VR (bO G h u K I) (some u) q (.pointer (some ⟨b,o+off,none⟩)):=by
 cases r with
 |pt f=>simp only[gy,apU]at e;subst e;exact⟨_,_,rfl,.pt f⟩
 |pe f=>
  simp only[gy,apU]at e;subst e;refine⟨_,_,rfl,?_⟩;rw[asG];exact .pe f
 |fp s n m l=>
  simp only[gy,apU]at e;subst e;refine⟨_,_,rfl,.fp (s.drop off) (by simp[n]) (λj c a g i=>?_) (λj a k=>?_)⟩
  ·rw[arb]at g i;exact m _ c a g i
  ·rw[arb]at k
   rw[asG];exact l _ a k
 |un=>simp[gy]at e
 |v=>simp[gy]at e
 |sl=>simp[gy]at e
 |ow=>simp[gy]at e
 |sw=>simp[gy]at e
 |ag=>simp[gy]at e
 |tu=>simp[gy]at e
 |mp=>simp[gy]at e
 |cl=>simp[gy]at e
def RS.fieldAddr(f:Y3 P m c=some (v,F,W))(p:W≠0)(q:gy (st.ev A) v=some B):
 RS P ⟨d,.fieldAddr m A c,ty,pos,af,gd⟩ st B:=λG u e a w h=>by
 obtain⟨b,o,r,s⟩:=F3 q (h.ev A);refine⟨_,s,λt C=>?_⟩;unfold Y3 at f;split at f
 ·rename_i y g
  split at f
  ·rename_i fl j
   split at f
   ·rename_i x D k
    simp only[apU,aqa]at f;obtain⟨rfl,rfl,rfl⟩:=f;obtain⟨E,i,z,l,_,rfl⟩:=ic k;have n:(⟨b,o,none⟩:Addr).add fl.offset=⟨b,o+fl.offset,none⟩:=aqz ..;simp[execOp,Instr.fieldAt,aqi g,j,r,Instr.sureAddr,fieldPlace,cG t l,p,n]
   ·cases f
  ·cases f
 ·cases f
def cT(h:FA P m=some (R,c,v,s)):∃i a,P.underlying m=some (.slice R)/\P.info? R=some i/\i.zero=some a/\a.cells.size=c/\i.size=c/\i.bytes=v/\a.cells.toList=s:=by
 unfold FA at h;split at h
 ·rename_i j b
  split at h
  ·rename_i i e
   split at h
   ·rename_i a f
    split at h
    ·rename_i g
     simp only[apU,aqa]at h;obtain⟨rfl,rfl,rfl,rfl⟩:=h;exact⟨i,a,b,e,f,g,rfl,rfl,rfl⟩
    ·cases h
   ·cases h
  ·cases h
 ·cases h
def sO(h:arA P m=some (c,R,v)):∃i,P.underlying m=some (.array c R)/\P.info? R=some i/\i.size=v:=by
 unfold arA at h;split at h
 ·rename_i f e a
  split at h
  ·rename_i i b
   simp only[apU,aqa]at h;obtain⟨rfl,rfl,rfl⟩:=h;exact⟨i,a,b,rfl⟩
  ·cases h
 ·cases h
def RS.RH{x f:Operand}{k:IntKind}{i:Int}
 (O:FA P m=some (R,c,v,s)) (q:st.ev x=.sl F c N) (Q:st.ev f=.v (.int k i)) (B:0<=i) (p:N[i.toNat]? =some y) (a1:0<c):
 RS P ⟨d,.indexAddr m x f,ty,pos,af,gd⟩ st (.fp y):=λw0 W e a w h=>by
 obtain⟨inf,zv,C,D,h3,h4,rfl,_,_⟩:=cT O;have A:=h.ev x;rw[q]at A;have r:=h.ev f;rw[Q]at r;have r:=r.bN;obtain⟨X,Y,U,H,l,Z,z,a0,hm,_,E⟩:=A.lW;have eW:i.toNat<N.length:=(apV.1 p).1;have a2:y.length=inf.size:=l y (ap_ p);have J:(N.flatten.drop (i.toNat*inf.size)).take inf.size=y:=by
  have:∀(N:List (List AV)) (i:Nat),(∀y∈N,y.length=inf.size)->N[i]? =some y->(N.flatten.drop (i*inf.size)).take inf.size=y:=by
   intro N
   induction N with
   |nil=>intro i _ g;simp at g
   |cons x N S=>
    intro i l g;have q:x.length=inf.size:=l x (by simp);cases i with
    |zero=>
     simp at g;subst g;simp only[asl,aqG,aqu];exact asE q
    |succ i=>
     rw[aqu,aqv,arW,atQ,<-q,auE];rw[q];exact S i (λy p=>l y (by simp[p])) (by simpa using g)
  exact this N i.toNat l p
 have K:i.toNat*inf.size+inf.size<=N.flatten.length:=by
  rw[ej l];have:(i.toNat+1)*inf.size<=N.length*inf.size:=ar6 _ eW;rw[aqv]at this;omega
 have M:U≠[]:=by
  intro g;have:=z.1;rw[g]at this;simp only[aqI]at this;omega
 obtain⟨b,o,rfl,I⟩:=E M;have t:=z.sub (i.toNat*inf.size) inf.size K;rw[J]at t;refine⟨.pointer (some ⟨b,o+i.toNat*inf.size,none⟩),.fp _ t.1.1 t.1.2 (λj u n=>?_),λV a3=>?_⟩
 ·rw[aqw]at n
  split at n
  ·rw[arb]at n
   rw[asG];exact I _ u n
  ·cases n
 ·have G:(⟨b,o,none⟩:Addr).add (i.toNat*inf.size)=⟨b,o+i.toNat*inf.size,none⟩:=aqz ..
  have L:i<(N.length:Int):=by omega
  simp[execOp,Instr.indexAt,r,asIntOf,aqi C,H,B,L,cG V D,G]
def RS.ae0{x y:Operand}{rows:List (List AV)}{wr:Bool}{k:IntKind}{i:Int}
 (E:FA P m=some (R,c,v,s)) (F:st.ev x=.ow W) (A:a_ st.h W=some (.arr R c rows wr)) (G:st.ev y=.v (.int k i)) (o:0<=i) (l:i<rows.length):
 RS P ⟨d,.indexAddr m x y,ty,pos,af,gd⟩ st (.pe W i.toNat c 0):=λw0 I e a w h=>by
 obtain⟨j,zv,p,q,L,M,rfl,_,_⟩:=cT E;have g:=h.ev x;rw[F]at g;have f:=h.ev y;rw[G]at f;have f:=f.bN;obtain⟨Z,K,_,C⟩:=h.sr.ob _ _ A;rcases C with⟨B,O,_⟩|⟨b,n,J,z,D,Q,Y,U,S,X,V⟩
 ·subst B;simp at l;omega
 have t:a.eval x=.slice (some ⟨b,0,none⟩) rows.length n:=by
  generalize N:a.eval x=u at g;cases g with
  |ow=>exact D
 refine⟨.pointer (some ⟨b,i.toNat*j.size+0,none⟩),.pe z,λH a0=>?_⟩;have r:(⟨b,0,none⟩:Addr).add (i.toNat*j.size)=⟨b,i.toNat*j.size,none⟩:=by rw[aqz,aqq]
 simp[execOp,Instr.indexAt,f,asIntOf,aqi p,t,o,l,cG H q,r]
def RS.vX{x y:Operand}{k:IntKind}{i:Int}{q:AV}
 (t:arA P m=some (c,R,v)) (A:st.ev y=.v (.int k i)) (j:0<=i) (l:i<c) (s:gy (st.ev x) (i.toNat*v)=some q):
 RS P ⟨d,.indexAddr m x y,ty,pos,af,gd⟩ st q:=λE C e a w h=>by
 obtain⟨g,n,p,rfl⟩:=sO t;have f:=h.ev y;rw[A]at f;have f:=f.bN;obtain⟨b,o,u,z⟩:=F3 s (h.ev x);refine⟨_,z,λB D=>?_⟩;have r:(⟨b,o,none⟩:Addr).add (i.toNat*g.size)=⟨b,o+i.toNat*g.size,none⟩:=aqz ..;simp[execOp,Instr.indexAt,f,asIntOf,aqi n,u,Instr.sureAddr,j,l,cG B p,r]
def qI(st:St):AV->bU
 |.sl _ _ a=>some a.length
 |.sw _ _ n _=>some n
 |.ow k=>match a_ st.h k with
  |some (.arr _ _ a _)=>some a.length
  |some (.nr _ b)=>some b.length
  |_=>none
 |_=>none
def ae1(a:Ga G h u st C I)(b:qI st B=some c){v:Value}(q:VR (bO G h u st.h I) (some u) B v):∃m e,v=.slice m c e:=by
 cases q with
 |sl H D w A z s x y f=>simp only[qI,apU]at b;subst b;exact⟨_,_,rfl⟩
 | @ow u k=>
  simp only[qI]at b;split at b
  ·rename_i t F E wr g
   simp only[apU]at b;subst b;obtain⟨_,_,_,j⟩:=a.sr.ob _ _ g;rcases j with⟨i,_,C,f⟩|⟨n,e,o,p,l,_⟩
   ·subst i;exact⟨C,0,f⟩
   ·exact⟨_,e,l⟩
  ·rename_i t r g
   simp only[apU]at b;subst b;obtain⟨_,j⟩:=a.sr.ob _ _ g;rcases j with⟨i,_,C,f⟩|⟨n,e,o,p,l,_⟩
   ·subst i;exact⟨C,0,f⟩
   ·exact⟨_,e,l⟩
  ·cases b
 |un=>simp[qI]at b
 |v=>simp[qI]at b
 |pt=>simp[qI]at b
 |pe=>simp[qI]at b
 |sw=>simp only[qI,apU]at b;subst b;exact⟨_,_,rfl⟩
 |fp=>simp[qI]at b
 |ag=>simp[qI]at b
 |tu=>simp[qI]at b
 |mp=>simp[qI]at b
 |cl=>simp[qI]at b
def jW(P:Program)(t:TypeId):Bool:=match P.underlying t with|some (.slice _)=>true|_=>false
def RS.len{f:iM}(b:jW P m=true)(j:f[0]? =some m)(i:qI st (st.ev A)=some c):
 RS P ⟨d,.call ⟨.builtin .len, #[A],f⟩,ty,pos,af,gd⟩ st (.v (.int .i64 c)):=λq l e a w h=>by
 obtain⟨n,o,k⟩:=ae1 h i (h.ev A);refine⟨_,.v,λp _=>?_⟩;unfold jW at b;split at b
 ·rename_i E g
  simp[execOp,resolve,invoke,builtin,Builtin.len_,j,aqi g,k,goInt]
 ·cases b
def RS.extract{x:Operand}{i:Nat}{f:List AV}{c:AV}(n:st.ev x=.tu f)(j:f[i]? =some c):RS P ⟨d,.extract x i,ty,pos,af,gd⟩ st c:=λr o e a w h=>by
 have b:=h.ev x;rw[n]at b;obtain⟨p,g,k⟩:=b.CJ;obtain⟨u,m,l⟩:=k.get j;exact⟨u,l,λq _=>by simp[execOp,Instr.extract,g,m]⟩
def RS.field{t:TypeId}{x:Operand}{f l n:Nat}{o:Bool}{j:List AV}{c:AV}(b:Y3 P t f=some (l,o,n))(K:st.ev x=.ag j)(G:l+n<=j.length)
 (H:(o=true/\c=.ag ((j.drop l).take n))\/(o=false/\j[l]? =some c)):RS P ⟨d,.field t x f,ty,pos,af,gd⟩ st c:=λR L e a w h=>by
 have B:=h.ev x;rw[K]at B;obtain⟨q,y,z⟩:=B.e9;unfold Y3 at b;split at b
 ·rename_i N r
  split at b
  ·rename_i g s
   split at b
   ·rename_i M O D
    simp only[apU,aqa]at b;obtain⟨rfl,rfl,rfl⟩:=b;obtain⟨Q,i,v,E,k,rfl⟩:=ic D;rcases H with⟨p,rfl⟩|⟨p,F⟩
    ·have A:=z.sub g.offset i.size G
     refine⟨.agg ((q.drop g.offset).take i.size).toArray,.ag _ A.1.1 A.1.2,λm _=>?_⟩;rw[p]at k;have C:q.toArray.extract g.offset (g.offset+i.size)=((q.drop g.offset).take i.size).toArray:=by
      simp[auF]
     simp[execOp,Instr.field,aqi r,s,y,asAgg,part,lO m v,<-k,cG m E,C]
    ·obtain⟨u,J,I⟩:=z.get F
     refine⟨u,I,λm _=>?_⟩;rw[p]at k;simp[execOp,Instr.field,aqi r,s,y,asAgg,part,lO m v,<-k,J]
   ·cases b
  ·cases b
 ·cases b
def AV.val:AV->Value
 |.v x=>x
 |_=>undef
end
variable{j:Exit->Act->World->Prop}{D:Oper}
def SS(P:Program)(o:Oper)(st:St)(K:St->Prop):Prop:=
 ∀h b e a w next Q,Ga h b e st a w->(∀f,K f->∀i c g,Ga h b i f c g->next c g)->o.wp P a w next Q
section
variable{P:Program}{st:St}{d:Nat}{ty:TypeId}{pos:String}{af:dI}{gd:fE}{K:St->Prop}
def eo{w w':World}{v:Value}{next:Act->World->Prop}(a:(execOp C.eval D).run P w=.ok (.value v) w')(h:next (C.put D.dst v) w'):D.wp P C w next j:=by
 unfold Oper.wp;rw[a];exact h
def sP{w w':World}{next:Act->World->Prop}(a:(execOp C.eval D).run P w=.ok .skip w')(h:next (C.put D.dst undef) w'):D.wp P C w next j:=by
 unfold Oper.wp;rw[a];exact h
def Ga.put{f:Bs}{b:bE}{e:Env}{a:Act}{w:World}(h:Ga f b e st a w){c:AV}{v:Value}(g:d<st.n)(i:VR (bO f b e st.h w) (some e) c v):
 Ga f b e ⟨st.n,(d,c)::st.t,st.h⟩ (a.put (some d) v) w:=
 ⟨by simpa[Act.put]using h.n,h.d,h.sr,h.tr.put (by rw[h.n.1];exact g) i⟩
def SS.read{b:Op}(j:RS P ⟨some d,b,ty,pos,af,gd⟩ st B)(g:d<st.n)(f:K ⟨st.n,(d,B)::st.t,st.h⟩):SS P ⟨some d,b,ty,pos,af,gd⟩ st K:=by
 intro m c e a w next Q h i
 obtain⟨v,l,k⟩:=j m c e a w h;exact eo (k w (Ext.refl w)) (i _ f _ _ _ (h.put g l))
def cellsOf:AV->Option (List AV)
 |.ag a=>some a
 |c=>if c.one then some [c]else none
def nh(h:g.oneCell'=true):g.cells= #[g]:=by
 cases g<;>simp_all[Value.oneCell',Value.cells]
def oR{Rd:bE}(a:cellsOf B=some y)(c:VR Rd (some u) B g)(j:∀k,B=.ow k->(u.sv k).oneCell'=true):
 ∃b,g.cells=b.toArray/\LR (VR Rd (some u)) y b:=by
 cases B with
 |ag l=>
  simp only[cellsOf,apU]at a;subst a;obtain⟨b,rfl,i⟩:=c.e9;exact⟨b,rfl,i⟩
 |_=>
  simp only[cellsOf]at a;split at a
  ·rename_i e
   simp only[apU]at a;subst a;have:=c.jv e (λm k f h=>by cases f;exact j k h);exact⟨[g],by rw[nh this],LR.cons c LR.nil⟩
  ·cases a
def Ga.akv(a:Ga G h u st C I)(i:(match a_ st.h c with|some (.arr ..)=>true|some (.nr ..)=>true|_=>false)=true):(u.sv c).oneCell'=true:=by
 split at i
 ·rename_i t p o wr e
  obtain⟨_,_,_,f⟩:=a.sr.ob _ _ e;rcases f with⟨_,_,C,b⟩|⟨j,k,l,m,g,_⟩
  ·rw[b];rfl
  ·rw[g];rfl
 ·rename_i t n e
  obtain⟨_,f⟩:=a.sr.ob _ _ e;rcases f with⟨_,_,C,b⟩|⟨j,k,l,m,g,_⟩
  ·rw[b];rfl
  ·rw[g];rfl
 ·cases i
def nR(h:Hp):AV->Bool
 |.ow k=>match a_ h k with|some (.arr ..)=>true|some (.nr ..)=>true|_=>false
 |_=>true
def Ga.nR(a:Ga G h u st C I)(b:nR st.h B=true):∀k,B=.ow k->(u.sv k).oneCell'=true:=by
 rintro k rfl;exact a.akv b
def Ga.new(a:Ga G h u st C I)(g:d<st.n)(t:TypeId)(l:t≠CL)(i:LR (VR (bO G h u st.h I) (some u)) y s):
 ∃e,Ga G h e ⟨st.n,(d,.pt d 0)::cY d st.t,(d,some (.box t (y.map (AV.kill d))))::br d st.h⟩ (C.put (some d) (.pointer (some ⟨I.heap.size,0,none⟩))) (I.alloc (.cells s.toArray t)):=by
 obtain⟨j,c⟩:=a.sr.kill d;obtain⟨k,f⟩:=j.ah3 d t l ((i.imp λ_ _ m=>m.mono c).kill d) (d_ d st.h) (by have:=a.n.2;omega) (u4 d y);refine⟨_,⟨by simpa[Act.put]using a.n,a.d,k,TR.put ?_ (by rw[a.n.1];exact g) (.pt Env.bT)⟩⟩;exact(((a.tr.kill d).mono c).mono f).env d (dO d st.t) (λ_ b=>Env.bx b) (λ_ b=>Env.db b)
def SS.box{t:TypeId}{x:Operand}{b:List AV}(m:t≠CL)(f:cellsOf (st.ev x)=some b)(l:nR st.h (st.ev x)=true)(g:d<st.n)
 (c:K ⟨st.n,(d,.pt d 0)::cY d st.t,(d,some (.box t (b.map (AV.kill d))))::br d st.h⟩):SS P ⟨some d,.box t x,ty,pos,af,gd⟩ st K:=by
 intro r p e a w next Q h k
 obtain⟨o,n,j⟩:=oR f (h.ev x) (h.nR l);obtain⟨q,i⟩:=h.new g t m j;refine eo (v:=.pointer (some ⟨w.heap.size,0,none⟩)) (w':=w.alloc (.cells o.toArray t)) ?_ (k _ c _ _ _ i);simp[execOp,Instr.box,newVar,newRow,newObj,n,Sem.run]
def Aj(P:Program)(t:TypeId):Option bD:=(P.info? t).bind λi=>i.zero.map λz=>z.cells.toList
def vY{Rd:bE}{E:Option Env}(b:bD):LR (VR Rd E) (b.map lq) b:=
 ⟨by simp,λj c u a e=>by
  rw[aqd,e]at a;simp at a;subst a;exact CP u⟩
def SS.alloc{t:TypeId}{z:bD}(l:t≠CL)(b:Aj P t=some z)(f:d<st.n)
 (c:K ⟨st.n,(d,.pt d 0)::cY d st.t,(d,some (.box t ((z.map lq).map (AV.kill d))))::br d st.h⟩):SS P ⟨some d,.alloc t,ty,pos,af,gd⟩ st K:=by
 intro q o e a w next Q h k
 obtain⟨p,g⟩:=h.new f t l (vY z);unfold Aj at b;obtain⟨i,j,b⟩:=ar9.1 b;obtain⟨n,m,rfl⟩:=aqo.1 b;refine eo (v:=.pointer (some ⟨w.heap.size,0,none⟩)) (w':=w.alloc (.cells n.cells.toList.toArray t)) ?_ (k _ c _ _ _ g);simp[execOp,Instr.alloc,zeroValue,typeInfo,j,m,newVar,newRow,newObj,Sem.run]
def setCells{α:Type}(a:List α)(o:Nat):List α->List α
 |[]=>a
 |x::b=>setCells (a.set o x) (o+1) b
def k4{α:Type}:∀(b a:List α) (o:Nat),(setCells a o b).length=a.length
 |[],_,_=>rfl
 |x::b,a,o=>by rw[setCells,k4 b];simp
def TR.ir{Rd:bE}{e e':Env}{t:List (Nat×AV)}{a:eb}(h:TR Rd e t a)(b:∀j,e'.bS j=e.bS j)(c:∀j,e'.sv j=e.sv j):TR Rd e' t a:=λi=>(h i).ir rfl b c
def Ga.nQ{B:Bs}{r:bE}{k b:Nat}{t:TypeId}(F:t≠CL):∀(xs:List AV) (q:bD) (o:Nat) {st:St} {e:Env} {a:Act} {w:World} {n:List AV} (h:Ga B r e st a w) (l:a_ st.h k=some (.box t n)) (y:e.bS k=some b)
 (m:LR (VR (bO B r e st.h w) (some e)) xs q) (D:∀u∈q,u.oneCell'=true) (L:o+xs.length<=n.length) (i:Nat) (z:Nat) (O:z+i=o),
 ∃I H C,(storeCells ⟨b,z,none⟩ q i).run P w=.ok () H/\Ga B r I ⟨st.n,st.t,(k,some (.box t (setCells n o xs)))::C⟩ a H/\∀j,j≠k->a_ C j=a_ st.h j
 |[],[],o,st,e,a,w,n,h,l,y,m,D,L,i,z,O=>by
  obtain⟨S,g,A,J,G,M⟩:=h.sr.ob _ _ l;have a6:=h.sr.base _ _ _ l y;obtain⟨Q,s⟩:=h.sr.tR k (e.bS k) (e.sv k) 0 (some (.box t n)) h.sr.ext (.inr ⟨rfl,rfl⟩) (apT _) (λ_ _ _=>rfl)
   (λV E _=>⟨(h.sr.base _ _ _ l E).1,(h.sr.base _ _ _ l E).2,.inl ⟨_,l,E⟩⟩) (λV o' u' ob a8 E N Y=>by rw[S]at N;omega)
   (λRd s _ aa a3=>by
    obtain rfl:=apZ a3;exact⟨Env.bW,g,A,by rw[Env.bT];exact J,G,M.imp λ_ _ p=>(p.mono s).ir rfl (λj=>by by_cases f:j=k<;>simp[Env.cK,f]) (λj=>by by_cases f:j=k<;>simp[Env.cK,f])⟩)
  refine⟨_,w,st.h,rfl,⟨h.n,h.d,Q,(h.tr.mono s).ir (λj=>by by_cases f:j=k<;>simp[Env.cK,f]) (λj=>by by_cases f:j=k<;>simp[Env.cK,f])⟩,λ_ _=>rfl⟩
 |x::xs,u::q,o,st,e,a,w,n,h,l,y,m,D,L,i,z,O=>by
  have hx:VR (bO B r e st.h w) (some e) x u:=m.2 0 x u rfl rfl;have a2:LR (VR (bO B r e st.h w) (some e)) xs q:=⟨by simpa using m.1,λj c v X p=>m.2 (j+1) c v (by simpa using X) (by simpa using p)⟩;obtain⟨Q,s⟩:=h.sr.nQ F l y o hx;obtain⟨S,g,A,J,G,M⟩:=h.sr.ob _ _ l;obtain rfl:=apZ (J.symm.trans y);have R:∀j,(e.cK k (some g) (e.sv k) 0).bS j=e.bS j:=λj=>by by_cases f:j=k<;>simp[Env.cK,f,y]
  have U:∀j,(e.cK k (some g) (e.sv k) 0).sv j=e.sv j:=λj=>by by_cases f:j=k<;>simp[Env.cK,f]
  have Z:Ga B r (e.cK k (some g) (e.sv k) 0) ⟨st.n,st.t,(k,some (.box t (n.set o x)))::st.h⟩ a (w.setCell ⟨g,o,none⟩ u):=⟨h.n,h.d,Q,(h.tr.mono s).ir R U⟩;simp only[aqf]at L;obtain⟨I,H,C,a4,a0,a1⟩:=Ga.nQ F xs q (o+1) Z bf Env.bT (a2.imp λ_ _ p=>(p.mono s).ir rfl R U) (λv p=>D v (by simp[p])) (by simp;omega) (i+1) z (by omega);refine⟨I,H,C,?_,a0,λj f=>by rw[a1 j f,bc f]⟩;have W:(⟨g,z,none⟩:Addr).add i=⟨g,o,none⟩:=by rw[aqz,O]
  have N:o<A.length:=by rw[M.1];omega
  have Y:w.cell? ⟨g,o,none⟩=some A[o]:=by
   rw[aqV w g o A.toArray t (0,0) (G.cells F)];simp[N]
  have a7:=asm w g o A.toArray t (G.cells F);have a9:=D u (by simp);have a5:(store ⟨g,o,none⟩ u).run P w=.ok () (w.setCell ⟨g,o,none⟩ u):=by
   cases u<;>simp_all[store,Sem.run,Value.oneCell']
  simp only[storeCells,ap6,W,a5,ap7];exact a4
 |[],u::q,_,_,_,_,_,_,_,_,_,m,_,_,_,_,_=>by have:=m.1;simp at this
 |x::xs,[],_,_,_,_,_,_,_,_,_,m,_,_,_,_,_=>by have:=m.1;simp at this
def LR.anQ{Rd:bE}(h:LR (VR Rd (some u)) y s)(f:y.all AV.one=true)(l:∀k,.ow k∈y->(u.sv k).oneCell'=true):∀a∈s,a.oneCell'=true:=by
 intro a m;obtain⟨j,b,rfl⟩:=aqB m;have c:j<y.length:=by rw[<-h.1];exact b
 have e:=asi c;exact(h.2 j y[j] s[j] (ap0 c) (ap0 b)).jv (aqg.1 f _ e) (λn k g i=>by cases g;exact l k (i▸e))
def Ga.kE{e i:Hp}(f:Ga G h u ⟨c,J,e⟩ C I)(g:∀j,a_ i j=a_ e j):Ga G h u ⟨c,J,i⟩ C I:=by
 have m:∀b o a,bO G h u e I b o a↔bO G h u i I b o a:=λb o a=>by unfold bO;simp only[g]
 exact⟨f.n,f.d,⟨f.sr.ext,f.sr.jO,λk ob l=>(f.sr.ob k ob (by rw[<-g];exact l)).mono λb o a=>(m b o a).1,λk ob b l=>f.sr.base k ob b (by rw[<-g];exact l),λk q ob r b n p=>f.sr.inj k q ob r b (by rw[<-g];exact n) (by rw[<-g];exact p),f.sr.t_⟩,f.tr.mono λb o a=>(m b o a).1⟩
def SS.nQ{t g:TypeId}{x y:Operand}{k o:Nat}{l f:List AV}{r:Bool}{n:Nat}(R:g≠CL)(L:st.ev x=.pt k o)(F:a_ st.h k=some (.box g l))(O:Pn P t=some (r,n))(C:cellsOf (st.ev y)=some f)(G:f.length=n)
 (s:f.all AV.one=true) (I:nR st.h (st.ev y)=true) (J:f.all (nR st.h)=true) (Z:o+n<=l.length) (z:K ⟨st.n,st.t,(k,some (.box g (setCells l o f)))::st.h⟩):
 SS P ⟨none,.store t x y,ty,pos,af,gd⟩ st K:=by
 intro w0 V e a w next Q h H
 obtain⟨q,S,m⟩:=oR C (h.ev y) (h.nR I);have p:=h.ev x;rw[L]at p;generalize A:a.eval x=u at p;cases p with
 | @pt _ _ _ b B=>
  obtain⟨td,i,Y,v,_,rfl⟩:=ic O;obtain⟨W,U,X,M,D,E⟩:=Ga.nQ (P:=P) R f q o h F B m (m.anQ s λj c=>h.nR (aqg.1 J _ c) j rfl) (by omega) 0 o rfl;refine sP (w':=U) ?_ (H _ z _ _ _ ((D.kE (λj=>by
   by_cases c:j=k
   ·subst c;rw[bf,bf]
   ·rw[bc c,bc c,E j c]))))
  have N:q.length=i.size:=by rw[m.1];exact G
  simp[execOp,Instr.storeAt,Instr.sureAddr,A,storeVar,S,cG w v,N,M]
end
def AV.fz:AV->Bool
 |.un|.v _|.sl .. |.fp _=>true
 |_=>false
def VR.CR{Rd:bE}(h:VR Rd O B g)(l:B.fz=true):VR Rd none B g:=by
 cases h with
 |un=>exact .un
 |v=>exact .v
 |sl e m i c b f j k a=>exact .sl e m i c b f j k a
 |fp e c b a=>exact .fp e c b a
 |_=>simp[AV.fz]at l
def plA(P:Program)(t:TypeId):Option (bD×(Nat->Kl)):=
 match P.info? t,P.underlying t with
 |some a,some (.array _ e)=>
  match a.zero,P.info? e with
  |some z,some b=>some (z.cells.toList,λi=>some (i*b.size,b.size))
  |_,_=>none
 |some a,some (.struct c)=>
  match a.zero,c.toList.mapM (λf=>(P.info? f.type).map λi=>(f.offset,i.size))with
  |some z,some g=>some (z.cells.toList,λi=>g[i]?)
  |_,_=>none
 |_,_=>none
def gv{α:Type}(c:Nat->Kl)(a:List α):List (Nat×List α)->Option (List α)
 |[]=>some a
 |(i,e)::f=>match c i with
  |none=>none
  |some (b,size)=>if e.length=size/\b+size<=a.length then gv c (setCells a b e) f else none
def Ko{R:L->Value->Prop}:∀(e:List L) (a:bD) (b:List L) (f:eb) (o:Nat),LR R b f.toList->LR R e a->
 LR R (setCells b o e) ((a.zipIdx).foldl (λ(b:eb) (p:Value×Nat)=>b.setIfInBounds (o+p.2) p.1) f).toList:=by
 have r:∀(e:List L) (a:bD) (b:List L) (f:eb) (o i:Nat),LR R b f.toList->LR R e a->
  LR R (setCells b (o+i) e) ((a.zipIdx i).foldl (λ(b:eb) (p:Value×Nat)=>b.setIfInBounds (o+p.2) p.1) f).toList:=by
  intro e
  induction e with
  |nil=>
   intro a b f o i h g;have:a=[]:=aqT (by simpa using g.1);subst this;simpa[setCells]using h
  |cons x e q=>
   intro a b f o i h g;cases a with
   |nil=>have:=g.1;simp at this
   |cons u a=>
    have k:R x u:=g.2 0 x u rfl rfl;have l:LR R e a:=⟨by simpa using g.1,λj c v m n=>g.2 (j+1) c v (by simpa using m) (by simpa using n)⟩;simp only[setCells,List.zipIdx_cons,List.foldl_cons];rw[asG];refine q a _ _ o (i+1) ?_ l;rw[asA];exact h.set _ k
 intro e a b f o h g;exact r e a b f o 0 h g
def jw{α:Type}{R:α->Value->Prop}{place:Nat->Kl}:∀(g:List (Nat×List α)) (k:List (Nat×Value)) (c e:List α) (b:eb),
 LR R c b.toList->g.length=k.length->(∀(j:Nat) p q,g[j]? =some p->k[j]? =some q->p.1=q.1/\LR R p.2 q.2.cells.toList)->gv place c g=some e->
 ∃l,Instr.fill place b k=some l/\LR R e l.toList
 |[],[],c,e,b,h,_,_,a=>by
  simp only[gv,apU]at a;subst a;exact⟨b,rfl,h⟩
 |(i,A)::g,(E,v)::k,c,e,b,h,f,o,a=>by
  obtain⟨rfl,n⟩:=o 0 _ _ rfl rfl;simp only at n;simp only[gv]at a;cases m:place i with
  |none=>simp[m]at a
  |some z=>
   obtain⟨off,r⟩:=z;simp only[m]at a;split at a
   ·rename_i B
    have s:=Ko A v.cells.toList c b off h n;obtain⟨l,t,w⟩:=jw g k _ e _ s (by simpa using f) (λj p q x y=>o (j+1) p q (by simpa using x) (by simpa using y)) a;refine⟨l,?_,w⟩;have D:v.cells.size=r:=by have:=n.1;simp at this;omega
    have C:b.size=c.length:=by have:=h.1;simpa using this
    have u:(v.cells.size≠r||off+v.cells.size>b.size)=false:=by simp;omega
    simp only[Instr.fill,m,u];rw[apQ (by simp)];rw[<-t];congr 1;rw[<-Array.foldl_toList,Array.toList_zipIdx]
   ·cases a
 |[],_::_,_,_,_,_,f,_,_=>by simp at f
 |_::_,[],_,_,_,_,f,_,_=>by simp at f
def qQ(st:St):vT->Option (List (Nat×List AV))
 |[]=>some []
 |(i,x)::b=>match cellsOf (st.ev x),qQ st b with
  |some a,some r=>some ((i,a)::r)
  |_,_=>none
def sQ(st:St):vT->Bool
 |[]=>true
 |(_,x)::a=>nR st.h (st.ev x) && sQ st a
section
variable{P:Program}{st:St}{d:Nat}{dd:iN}{ty:TypeId}{pos:String}{af:dI}{gd:fE}{K:St->Prop}
def Kq{o:Bs}{n:bE}{e:Env}{a:Act}{w:World}(h:Ga o n e st a w):∀(c:vT) (f:List (Nat×List AV)),qQ st c=some f->sQ st c=true->
 f.length=(c.map λp=>(p.1,a.eval p.2)).length/\∀(j:Nat) p q,f[j]? =some p->(c.map λp=>(p.1,a.eval p.2))[j]? =some q->p.1=q.1/\LR (VR (bO o n e st.h w) (some e)) p.2 q.2.cells.toList
 |[],f,b,_=>by simp only[qQ,apU]at b;subst b;simp
 |(i,x)::c,f,b,k=>by
  simp only[qQ]at b;simp only[sQ,apS]at k;cases g:cellsOf (st.ev x)with
  |none=>simp[g]at b
  |some y=>
   cases m:qQ st c with
   |none=>simp[g,m]at b
   |some r=>
    simp only[g,m,apU]at b;subst b;obtain⟨s,t⟩:=Kq h c r m k.2;refine⟨by simpa using s,λj p q l b=>?_⟩;cases j with
    |zero=>
     simp at l b;subst l;subst b;obtain⟨z,v,u⟩:=oR g (h.ev x) (h.nR k.1);exact⟨rfl,by simpa[v]using u⟩
    |succ j=>exact t j p q (by simpa using l) (by simpa using b)
def RS.build{c:CI}{p:Nat->Kl}{f:List (Nat×List AV)}(b:plA P m=some (s,p))(C:qQ st c.toList=some f)(B:sQ st c.toList=true)
 (A:gv p (s.map lq) f=some y):RS P ⟨dd,.build m c,ty,pos,af,gd⟩ st (.ag y):=λG t e a w h=>by
 obtain⟨u,v⟩:=Kq h c.toList f C B;have D:LR (VR (bO G t e st.h w) (some e)) (s.map lq) s.toArray.toList:=by simpa using vY s
 obtain⟨g,q,r⟩:=jw (place:=p) f _ (s.map lq) y s.toArray D u v A;refine⟨.agg g.toList.toArray,.ag _ r.1 r.2,λF _=>?_⟩;have z:P.built m (c.map λ(i,x)=>(i,a.eval x)).toList=some g:=by
  unfold plA at b;unfold Program.built;simp only[arv];split at b
  ·rename_i E n e j k
   split at b
   ·rename_i H J l o
    simp only[apU,aqa]at b;obtain⟨rfl,rfl⟩:=b;simp only[j,k,l,o];simpa using q
   ·cases b
  ·rename_i E I j k
   split at b
   ·rename_i H L l o
    simp only[apU,aqa]at b;obtain⟨rfl,rfl⟩:=b;simp only[j,k,l,o];simpa using q
   ·cases b
  ·cases b
 have:=run_build F m _ g z;simp only[execOp,ap6,this,ap7,ap8,atS]
def hJ(h:Hp):AV->Option (Hp×AV)
 |.ow k=>match a_ h k with
  |some (.arr t b a _)=>some ((k,some (.arr t b a false))::h,.sl false b a)
  |_=>none
 |c=>if c.fz then some (h,c)else none
def iE(h:Hp):List AV->Option (Hp×List AV)
 |[]=>some (h,[])
 |c::b=>match hJ h c with
  |some (f,a)=>match iE f b with
   |some (g,e)=>some (g,a::e)
   |none=>none
  |none=>none
def jx(h:Hp):AV->Option (Hp×AV)
 |.ag a=>match iE h a with
  |some (e,b)=>some (e,.ag b)
  |none=>none
 |c=>hJ h c
def ni(h:Hp):List AV->Option (Hp×List AV)
 |[]=>some (h,[])
 |c::b=>match jx h c with
  |some (f,a)=>match ni f b with
   |some (g,e)=>some (g,a::e)
   |none=>none
  |none=>none
structure nk(w0:Bs)(Rd0:bE)(e:Env)(h:Hp)(w:World)(e':Env)(h':Hp):Prop where
 sr:SR w0 Rd0 e' h' w
 rd:∀b o u,bO w0 Rd0 e h w b o u->bO w0 Rd0 e' h' w b o u
 bS:∀j,e'.bS j=e.bS j
 sv:∀j,e'.sv j=e.sv j
def nk.trans{f:Bs}{c:bE}{e g i:Env}{h k l:Hp}{w:World}(a:nk f c e h w g k)(b:nk f c g k w i l):nk f c e h w i l:=
 ⟨b.sr,λx o u m=>b.rd x o u (a.rd x o u m),λj=>(b.bS j).trans (a.bS j),λj=>(b.sv j).trans (a.sv j)⟩
def nk.refl{a:Hp}(b:SR G h u a I):nk G h u a I u a:=⟨b,λ_ _ _ a=>a,λ_=>rfl,λ_=>rfl⟩
def nS{a f:Hp}(j:SR G h u a I){c i:AV}(l:VR (bO G h u a I) (some u) c g)(b:hJ a c=some (f,i)):
 ∃e,nk G h u a I e f/\VR (bO G h e f I) none i g:=by
 cases c with
 |ow k=>
  simp only[hJ]at b;split at b
  ·rename_i t w v wr s
   simp only[apU,aqa]at b;obtain⟨rfl,rfl⟩:=b;obtain⟨e,m,n,o,p,q⟩:=j.Pm s;cases l with
   |ow=>exact⟨e,⟨m,n,o,p⟩,q⟩
  ·cases b
 |_=>
  simp only[hJ]at b;split at b
  ·rename_i r
   simp only[apU,aqa]at b;obtain⟨rfl,rfl⟩:=b;exact⟨u,nk.refl j,l.CR r⟩
  ·cases b
def F4{m:Bs}{g:bE}{w:World}:∀(i:List AV) (b:bD) (e:Env) (h k:Hp) (n:List AV),SR m g e h w->LR (VR (bO m g e h w) (some e)) i b->iE h i=some (k,n)->
 ∃q,nk m g e h w q k/\LR (VR (bO m g q k w) none) n b
 |[],b,e,h,k,n,p,f,a=>by
  simp only[iE,apU,aqa]at a;obtain⟨rfl,rfl⟩:=a;have:b=[]:=aqT (by simpa using f.1);subst this;exact⟨e,nk.refl p,LR.nil⟩
 |c::i,b,e,h,k,n,p,f,a=>by
  cases b with
  |nil=>have:=f.1;simp at this
  |cons u b=>
   simp only[iE]at a;split at a
   ·rename_i r H A
    split at a
    ·rename_i z t B
     simp only[apU,aqa]at a;obtain⟨rfl,rfl⟩:=a;obtain⟨o,l,F⟩:=nS p (f.2 0 c u rfl rfl) A;have C:LR (VR (bO m g o r w) (some o)) i b:=⟨by simpa using f.1,λj x y D E=>((f.2 (j+1) x y (by simpa using D) (by simpa using E)).mono l.rd).ir rfl l.bS l.sv⟩;obtain⟨v,s,G⟩:=F4 i b o r z t l.sr C B;exact⟨v,l.trans s,LR.cons (F.mono s.rd) G⟩
    ·cases a
   ·cases a
def qR{a f:Hp}(j:SR G h u a I){c i:AV}(k:VR (bO G h u a I) (some u) c g)(b:jx a c=some (f,i)):
 ∃e,nk G h u a I e f/\VR (bO G h e f I) none i g:=by
 cases c with
 |ag n=>
  simp only[jx]at b;split at b
  ·rename_i p o q
   simp only[apU,aqa]at b;obtain⟨rfl,rfl⟩:=b;obtain⟨m,rfl,r⟩:=k.e9;obtain⟨e,l,v⟩:=F4 n m u a p o j r q;exact⟨e,l,.ag m v.1 v.2⟩
  ·cases b
 |_=>exact nS j k (by simpa only[jx]using b)
def y_{m:Bs}{g:bE}{w:World}:∀(i:List AV) (b:bD) (e:Env) (h k:Hp) (n:List AV),SR m g e h w->LR (VR (bO m g e h w) (some e)) i b->ni h i=some (k,n)->
 ∃q,nk m g e h w q k/\LR (VR (bO m g q k w) none) n b
 |[],b,e,h,k,n,p,f,a=>by
  simp only[ni,apU,aqa]at a;obtain⟨rfl,rfl⟩:=a;have:b=[]:=aqT (by simpa using f.1);subst this;exact⟨e,nk.refl p,LR.nil⟩
 |c::i,b,e,h,k,n,p,f,a=>by
  cases b with
  |nil=>have:=f.1;simp at this
  |cons u b=>
   simp only[ni]at a;split at a
   ·rename_i r H A
    split at a
    ·rename_i z t B
     simp only[apU,aqa]at a;obtain⟨rfl,rfl⟩:=a;obtain⟨o,l,F⟩:=qR p (f.2 0 c u rfl rfl) A;have C:LR (VR (bO m g o r w) (some o)) i b:=⟨by simpa using f.1,λj x y D E=>((f.2 (j+1) x y (by simpa using D) (by simpa using E)).mono l.rd).ir rfl l.bS l.sv⟩;obtain⟨v,s,G⟩:=y_ i b o r z t l.sr C B;exact⟨v,l.trans s,LR.cons (F.mono s.rd) G⟩
    ·cases a
   ·cases a
def Ga.cM{e b:Env}{c:Hp}(a:Ga G h e st C I)(l:nk G h e st.h I b c):Ga G h b ⟨st.n,st.t,c⟩ C I:=
 ⟨a.n,a.d,l.sr,(a.tr.mono l.rd).ir l.bS l.sv⟩
def u5(a:Bool)(n h:Nat):bU->Bool
 |some m=>m==h
 |none=>a && h==n
def u9(c:Bool)(a:List (List AV))(b:Nat)(l h:Nat)(m:bU):AV:=
 .sl (u5 c a.length h m) b ((a.take h).drop l)
end
mutual
def AV.ie(π:Nat->Nat):AV->AV
 |.un=>.un
 |.v x=>.v x
 |.sl g b f=>.sl g b f
 |.ow j=>.ow (π j)
 |.pt j o=>.pt (π j) o
 |.pe j i b o=>.pe (π j) i b o
 |.sw j l n b=>.sw (π j) l n b
 |.fp a=>.fp a
 |.mp j=>.mp (π j)
 |.ag a=>.ag (AV.qS π a)
 |.tu a=>.tu (AV.qS π a)
 |.cl c d a=>.cl c (AV.qS π d) (AV.qS π a)
def AV.qS(π:Nat->Nat):List AV->List AV
 |[]=>[]
 |c::a=>AV.ie π c::AV.qS π a
def AV.gp(p:Nat->Bool):AV->Bool
 |.un=>true
 |.v _=>true
 |.sl _ _ _=>true
 |.fp _=>true
 |.ow j=> !p j
 |.pt j _=> !p j
 |.pe j _ _ _=> !p j
 |.sw j _ _ _=> !p j
 |.mp j=> !p j
 |.ag a=>AV.lX p a
 |.tu a=>AV.lX p a
 |.cl _ b a=>AV.lX p b && AV.lX p a
def AV.lX(p:Nat->Bool):List AV->Bool
 |[]=>true
 |c::a=>AV.gp p c && AV.lX p a
end
def kF(π:Nat->Nat):∀a:List AV,AV.qS π a=a.map (AV.ie π)
 |[]=>rfl
 |c::a=>by rw[AV.qS,kF π a];rfl
def e_{p:Nat->Bool}:∀{a:List AV},AV.lX p a=true->∀(j:Nat) c,a[j]? =some c->c.gp p=true
 |[],_,j,c,h=>by simp at h
 |x::a,b,j,c,h=>by
  simp only[AV.lX,apS]at b;cases j with
  |zero=>simp at h;exact h▸b.1
  |succ j=>exact e_ b.2 j c (by simpa using h)
def CS{p:Nat->Bool}:∀{cs:List AV},(∀c∈cs,c.gp p=true)->AV.lX p cs=true
 |[],_=>rfl
 |x::cs,a=>by simp[AV.lX,a x (by simp),CS (cs:=cs) λc b=>a c (by simp[b])]
def VR.ie{Rd:bE}{E:Option Env}{c:AV}{u:Value}(h:VR Rd E c u){e e':Env}(m:E=some e)(π:Nat->Nat)(r:∀j,e'.bS (π j)=e.bS j)(K:∀j,e'.sv (π j)=e.sv j):
 VR Rd (some e') (c.ie π) u:=by
 have s:∀(g:List AV) (a:bD),a.length=g.length->(∀(j:Nat) c u,g[j]? =some c->a[j]? =some u->VR Rd (some e') (c.ie π) u)->a.length=(AV.qS π g).length/\∀(j:Nat) c u,(AV.qS π g)[j]? =some c->a[j]? =some u->VR Rd (some e') c u:=by
  intro g a k p;rw[kF];refine⟨by simpa using k,λj c u d f=>?_⟩;rw[aqd]at d;obtain⟨z,G,rfl⟩:=aqo.1 d;exact p j z u G f
 induction h with
 |un=>exact .un
 |v=>exact .v
 |sl a L C k p d f F t q=>exact .sl a L C k p d f F t
 | @ow e0 j=>cases m;rw[<-K j];exact .ow
 | @pt e0 j o b h=>cases m;exact .pt (by rw[r j];exact h)
 | @pe e0 j i N o b h=>cases m;exact .pe (by rw[r j];exact h)
 | @sw e0 j l n N b o O h J d f=>cases m;exact .sw (by rw[r j];exact h) J d f
 |fp a k p t q=>exact .fp a k p t
 | @ag x g a k p q=>
  have:=s g a k λj c u d f=>q j c u d f m;exact .ag a this.1 this.2
 | @tu x g a k p q=>
  have:=s g a k λj c u d f=>q j c u d f m;exact .tu a this.1 this.2
 | @mp e0 j b h=>cases m;exact .mp (by rw[r j];exact h)
 | @cl x P A g a y k I p Q q M=>
  have d:=s A a k λj c u d f=>q j c u d f m;have f:=s g y I λj c u d f=>M j c u d f m;exact .cl a y d.1 f.1 d.2 f.2
def VR.FN{Rd:bE}{c:AV}(h:VR Rd O c g){e e':Env}(k:O=some e)(p:Nat->Bool)(f:c.gp p=true)
 (t:∀j,p j=false->e'.bS j=e.bS j) (F:∀j,p j=false->e'.sv j=e.sv j):VR Rd (some e') c g:=by
 induction h with
 |un=>exact .un
 |v=>exact .v
 |sl q G z m s a d A u r=>exact .sl q G z m s a d A u
 | @ow e0 j=>
  cases k;rw[<-F j (by simpa[AV.gp]using f)];exact .ow
 | @pt e0 j o b h=>
  cases k;exact .pt (by rw[t j (by simpa[AV.gp]using f)];exact h)
 | @pe e0 j i J o b h=>
  cases k;exact .pe (by rw[t j (by simpa[AV.gp]using f)];exact h)
 | @sw e0 j l n J b o L h E a d=>
  cases k;exact .sw (by rw[t j (by simpa[AV.gp]using f)];exact h) E a d
 |fp q m s u r=>exact .fp q m s u
 | @ag x y q m s r=>exact .ag q m λj c g a d=>r j c g a d k (e_ (by simpa[AV.gp]using f) j c a)
 | @tu x y q m s r=>exact .tu q m λj c g a d=>r j c g a d k (e_ (by simpa[AV.gp]using f) j c a)
 | @mp e0 j b h=>
  cases k;exact .mp (by rw[t j (by simpa[AV.gp]using f)];exact h)
 | @cl x M N y q K m C s P r I=>
  simp only[AV.gp,apS]at f;exact .cl q K m C (λj c g a d=>r j c g a d k (e_ f.1 j c a)) (λj c g a d=>I j c g a d k (e_ f.2 j c a))
def AV.jP(p:Nat->Bool)(c:AV):AV:=if c.gp p then c else .un
def Ob.jP(p:Nat->Bool):Ob->Ob
 |.box t a=>.box t (a.map (AV.jP p))
 |.arr t f c wr=>.arr t f c wr
 |.mp d b=>.mp d b
 |.nr t a=>.nr t (a.map (AV.jP p))
def hL(p:Nat->Bool):Hp->Hp
 |[]=>[]
 |(j,o)::h=>(j,if p j then none else o.map (Ob.jP p))::hL p h
def qf(p:Nat->Bool):List (Nat×AV)->List (Nat×AV)
 |[]=>[]
 |(j,c)::t=>(j,c.jP p)::qf p t
def nT(p:Nat->Bool)(c:AV):(c.jP p).gp p=true:=by
 unfold AV.jP;split
 ·assumption
 ·rfl
def VR.jP{Rd:bE}{E:Option Env}{c:AV}{u:Value}(h:VR Rd E c u)(p:Nat->Bool):VR Rd E (c.jP p) u:=by
 unfold AV.jP;split
 ·exact h
 ·exact .un
def lP(p:Nat->Bool):∀(t:List (Nat×AV)) (j:Nat),bG (qf p t) j=(bG t j).jP p
 |[],_=>by simp[qf,bG,AV.jP,AV.gp]
 |(i,c)::t,j=>by
  simp only[qf,bG];split
  ·rfl
  ·exact lP p t j
def sR(p:Nat->Bool):∀(h:Hp) (j:Nat),a_ (hL p h) j=if p j then none else(a_ h j).map (Ob.jP p)
 |[],j=>by simp[hL,a_]
 |(i,o)::h,j=>by
  simp only[hL,a_];by_cases a:j=i
  ·subst a;simp
  ·simp only[a,aqN];exact sR p h j
def Ob.ie(π:Nat->Nat):Ob->Ob
 |.box t a=>.box t (AV.qS π a)
 |.arr t f c wr=>.arr t f c wr
 |.mp d b=>.mp d b
 |.nr t a=>.nr t (AV.qS π a)
def ke(π:Nat->Nat):Hp->Hp
 |[]=>[]
 |(j,o)::h=>(π j,o.map (Ob.ie π))::ke π h
def Kr(π:Nat->Nat):List (Nat×AV)->List (Nat×AV)
 |[]=>[]
 |(j,c)::t=>(j,c.ie π)::Kr π t
def Ks(π:Nat->Nat):∀(t:List (Nat×AV)) (j:Nat),bG (Kr π t) j=(bG t j).ie π
 |[],_=>by simp[Kr,bG,AV.ie]
 |(i,c)::t,j=>by
  simp only[Kr,bG];split
  ·rfl
  ·exact Ks π t j
def Kt(π:Nat->Nat)(b:∀i j,π i=π j->i=j):∀(h:Hp) (j:Nat),a_ (ke π h) (π j)=(a_ h j).map (Ob.ie π)
 |[],j=>by simp[ke,a_]
 |(i,o)::h,j=>by
  simp only[ke,a_];by_cases a:j=i
  ·subst a;simp
  ·have:¬π j=π i:=λc=>a (b _ _ c)
   simp only[a,this,aqN];exact Kt π b h j
def ep(h h':Hp)(k:Nat):a_ (h++h') k=if h.any (λp=>p.1==k)then a_ h k else a_ h' k:=by
 induction h with
 |nil=>simp
 |cons p h b=>
  obtain⟨i,o⟩:=p;simp only[aq6,a_,arI];by_cases a:k=i
  ·subst a;simp
  ·have:(i==k)=false:=by simp;exactλh=>a h.symm
   simp only[a,aqN,this,atT];exact b
def OR.ie{Rd:bE}{e e':Env}{w:World}{k:Nat}{ob:Ob}(h:OR Rd e w k ob)(π:Nat->Nat)(f:∀j,e'.bS (π j)=e.bS j)(o:∀j,e'.sv (π j)=e.sv j)(r:∀j,e'.cM (π j)=e.cM j):
 OR Rd e' w (π k) (ob.ie π):=by
 cases ob with
 |box t n=>
  obtain⟨m,b,J,p,q,c⟩:=h;have E:=(VR.ag J c.1 c.2:VR Rd (some e) (.ag n) _).ie rfl π f o;obtain⟨x,I,G⟩:=VR.e9 (by simpa only[AV.ie]using E);have:x=J:=by
   have:=ap5 (λv=>match v with|.agg a=>a.toList|_=>[]) I;simpa using this.symm
  subst this;exact⟨by rw[r];exact m,b,x,by rw[f];exact p,q,G⟩
 |arr t P O wr=>
  obtain⟨m,p,q,c⟩:=h;refine⟨m,p,λM=>by rw[r];exact q M,?_⟩;rcases c with⟨g,i,l⟩|⟨b,C,u,g,i,l,y,z,A,s,K⟩
  ·exact .inl ⟨g,by rw[f];exact i,by rw[o];exact l⟩
  ·exact .inr ⟨b,C,u,by rw[f];exact g,by rw[o];exact i,l,y,z,A,s,by rw[r];exact K⟩
 |mp d N=>
  obtain⟨m,b,arr,L,p,q,c⟩:=h;exact⟨by rw[r];exact m,b,arr,L,by rw[f];exact p,q,c⟩
 |nr t n=>
  obtain⟨m,c⟩:=h;refine⟨by rw[r];exact m,?_⟩;have F:(AV.qS π n).length=n.length:=by rw[kF,ap1]
  rcases c with⟨g,i,l⟩|⟨b,C,u,g,i,l,y,z,A,s⟩
  ·exact .inl ⟨by rw[g];rfl,by rw[f];exact i,by rw[o];exact l⟩
  ·have E:=(VR.ag _ s.1 s.2:VR Rd (some e) (.ag n) _).ie rfl π f o
   obtain⟨x,I,G⟩:=VR.e9 (by simpa only[AV.ie]using E);have:x=u.toList.take n.length:=by
    have:=ap5 (λv=>match v with|.agg a=>a.toList|_=>[]) I;simpa using this.symm
   subst this;exact .inr ⟨b,C,u,by rw[f];exact g,by rw[o,F];exact i,by rw[F];exact l,y,z,A,by rw[F];exact G⟩
def OR.FN{Rd:bE}{e e':Env}{w:World}{k:Nat}{ob:Ob}(p:Nat->Bool)(h:OR Rd e w k ob)(a:p k=false)(g:∀j,p j=false->e'.bS j=e.bS j)(o:∀j,p j=false->e'.sv j=e.sv j)(x:e'.cM k=e.cM k):
 OR Rd e' w k (ob.jP p):=by
 cases ob with
 |box t L=>
  obtain⟨n,b,N,r,s,f⟩:=h;refine⟨by rw[x];exact n,b,N,by rw[g k a];exact r,s,by simpa using f.1,λj c u v I=>?_⟩;rw[aqd]at v;obtain⟨q,G,rfl⟩:=aqo.1 v;exact((f.2 j q u G I).jP p).FN rfl p (nT p q) g o
 |arr t Q P wr=>
  obtain⟨n,r,s,f⟩:=h;refine⟨n,r,λM=>by rw[x];exact s M,?_⟩;rcases f with⟨i,l,m⟩|⟨b,E,F,i,l,m,z,A,C,y,J⟩
  ·exact .inl ⟨i,by rw[g k a];exact l,by rw[o k a];exact m⟩
  ·exact .inr ⟨b,E,F,by rw[g k a];exact i,by rw[o k a];exact l,m,z,A,C,y,by rw[x];exact J⟩
 |mp d O=>
  obtain⟨n,b,arr,K,r,s,f⟩:=h;exact⟨by rw[x];exact n,b,arr,K,by rw[g k a];exact r,s,f⟩
 |nr t L=>
  obtain⟨n,f⟩:=h;refine⟨by rw[x];exact n,?_⟩;rcases f with⟨i,l,m⟩|⟨b,E,F,i,l,m,z,A,C,y⟩
  ·exact .inl ⟨by rw[i];rfl,by rw[g k a];exact l,by rw[o k a];exact m⟩
  ·refine .inr ⟨b,E,F,by rw[g k a];exact i,by rw[o k a,ap1];exact l,by rw[ap1];exact m,z,A,C,?_⟩
   rw[ap1];refine⟨by simpa using y.1,λj c u v I=>?_⟩;rw[aqd]at v;obtain⟨q,G,rfl⟩:=aqo.1 v;exact((y.2 j q u G I).jP p).FN rfl p (nT p q) g o
def mA(B k:Nat):Bool:=Nat.ble B k && Nat.blt k (B+1000)
def VR.anR{Rd:bE}{e a:Env}{c:AV}(h:VR Rd (some e) c g)(p:Nat->Bool)(i:c.gp p=true)(π:Nat->Nat)(f:∀j,p j=false->a.bS (π j)=e.bS j)(l:∀j,p j=false->a.sv (π j)=e.sv j):
 VR Rd (some a) (c.ie π) g:=by
 have d:=h.FN (e':=⟨λk=>a.bS (π k),λk=>a.sv (π k),e.cM⟩) rfl p i (λj b=>f j b) (λj b=>l j b);exact d.ie rfl π (λ_=>rfl) (λ_=>rfl)
def kG{p:Nat->Bool}{c:AV}(h:c.gp p=true):c.jP p=c:=by simp[AV.jP,h]
def VR.nU{Rd:bE}{e e':Env}(π:Nat->Nat)(t:∀j,e'.bS j=e.bS (π j))(J:∀j,e'.sv j=e.sv (π j)){y:AV}(h:VR Rd O y g)(l:O=some e):∀{c:AV},y=c.ie π->VR Rd (some e') c g:=by
 have u:∀(s r:List AV) (b:bD),s=AV.qS π r->b.length=s.length->(∀(j:Nat) c g,s[j]? =some c->b[j]? =some g->∀{z:AV},c=z.ie π->VR Rd (some e') z g)->b.length=r.length/\∀(j:Nat) c g,r[j]? =some c->b[j]? =some g->VR Rd (some e') c g:=by
  intro s r b A i a;rw[kF]at A;subst A;exact⟨by simpa using i,λj c g d f=>a j (c.ie π) g (by simp[d]) f rfl⟩
 induction h with
 |un=>intro c a;cases c<;>simp[AV.ie]at a;exact .un
 |v=>intro c a;cases c<;>simp[AV.ie]at a;subst a;exact .v
 |sl b K E i o d f F x n=>
  intro c a;cases c<;>simp[AV.ie]at a;obtain⟨rfl,rfl,rfl⟩:=a;exact .sl b K E i o d f F x
 | @ow e0 k=>
  intro c a;cases l;cases c<;>simp[AV.ie]at a;rename_i M;subst a;rw[<-J M];exact .ow
 |pt m=>
  intro c a;cases l;cases c<;>simp[AV.ie]at a;obtain⟨rfl,rfl⟩:=a;exact .pt ((t _).trans m)
 |pe m=>
  intro c a;cases l;cases c<;>simp[AV.ie]at a;obtain⟨rfl,rfl,rfl,rfl⟩:=a;exact .pe ((t _).trans m)
 |sw m I d f=>
  intro c a;cases l;cases c<;>simp[AV.ie]at a;obtain⟨rfl,rfl,rfl,rfl⟩:=a;exact .sw ((t _).trans m) I d f
 |fp b i o x n=>
  intro c a;cases c<;>simp[AV.ie]at a;subst a;exact .fp b i o x
 |ag b i o n=>
  intro c a;cases c<;>simp[AV.ie]at a;obtain⟨p,q⟩:=u _ _ b a i λj c g d f=>n j c g d f l;exact .ag b p q
 |tu b i o n=>
  intro c a;cases c<;>simp[AV.ie]at a;obtain⟨p,q⟩:=u _ _ b a i λj c g d f=>n j c g d f l;exact .tu b p q
 |mp m=>
  intro c a;cases l;cases c<;>simp[AV.ie]at a;subst a;exact .mp ((t _).trans m)
 |cl b C i G o Q n L=>
  intro c a;cases c<;>simp[AV.ie]at a;obtain⟨rfl,d,f⟩:=a;obtain⟨p,q⟩:=u _ _ b d i λj c g d f=>n j c g d f l;obtain⟨N,P⟩:=u _ _ C f G λj c g d f=>L j c g d f l;exact .cl b C p N q P
def OR.nU{Rd:bE}{e e':Env}{w:World}{k:Nat}{ob:Ob}(π:Nat->Nat)(h:OR Rd e w (π k) (ob.ie π))(l:∀j,e'.bS j=e.bS (π j))(p:∀j,e'.sv j=e.sv (π j))(u:e'.cM k=e.cM (π k)):OR Rd e' w k ob:=by
 cases ob with
 |box t o=>
  obtain⟨n,b,G,r,s,i⟩:=h;refine⟨by rw[u];exact n,b,G,by rw[l];exact r,s,?_⟩;have:=(VR.ag G i.1 i.2:VR Rd (some e) (.ag _) _).nU π l p rfl (c:=.ag o) (by simp[AV.ie]);obtain⟨I,F,E⟩:=VR.e9 this;have:I=G:=by
   have:=ap5 (λv=>match v with|.agg a=>a.toList|_=>[]) F;simpa using this.symm
  subst this;exact E
 |arr t P O wr=>
  obtain⟨n,r,s,i⟩:=h;refine⟨n,r,λM=>by rw[u];exact s M,?_⟩;rcases i with⟨m,f,g⟩|⟨b,C,x,m,f,g,y,z,A,q,K⟩
  ·exact .inl ⟨m,by rw[l];exact f,by rw[p];exact g⟩
  ·exact .inr ⟨b,C,x,by rw[l];exact m,by rw[p];exact f,g,y,z,A,q,by rw[u];exact K⟩
 |mp d N=>
  obtain⟨n,b,arr,L,r,s,i⟩:=h;exact⟨by rw[u];exact n,b,arr,L,by rw[l];exact r,s,i⟩
 |nr t o=>
  obtain⟨n,i⟩:=h;refine⟨by rw[u];exact n,?_⟩;have J:(AV.qS π o).length=o.length:=by rw[kF,ap1]
  rcases i with⟨m,f,g⟩|⟨b,C,x,m,f,g,y,z,A,q⟩
  ·exact .inl ⟨aqT (by rw[<-J,m];rfl),by rw[l];exact f,by rw[p];exact g⟩
  ·rw[J]at f g q
   have:=(VR.ag _ q.1 q.2:VR Rd (some e) (.ag _) _).nU π l p rfl (c:=.ag o) (by simp[AV.ie]);obtain⟨I,F,E⟩:=VR.e9 this;have:I=x.toList.take o.length:=by
    have:=ap5 (λv=>match v with|.agg a=>a.toList|_=>[]) F;simpa using this.symm
   subst this;exact .inr ⟨b,C,x,by rw[l];exact m,by rw[p];exact f,g,y,z,A,E⟩
def ua:bH->Nat->bU
 |[],_=>none
 |(p,c)::D,k=>cond (Nat.beq k p) (some c) (ua D k)
def Pf:bH->Nat->bU
 |[],_=>none
 |(p,c)::D,k=>cond (Nat.beq k c) (some p) (Pf D k)
def fQ(D:bH)(B k:Nat):Nat:=match ua D k with
 |some c=>c
 |none=>B+k
def Bv:aZ->Bool
 |[]=>true
 |x::l=> !(l.any (Nat.beq x)) && Bv l
def Kh(B:Nat)(D:bH):Bool:=D.all (λq=>Nat.ble 4294967296 q.1 && !mA B q.2) && Bv (D.map (·.1)) && Bv (D.map (·.2)) && Nat.ble (B+1000) 4294967296
def FB(D:bH)(k:Nat):Bool:=Nat.blt k 1000||(ua D k).isSome
def obX(D:bH):Ob->Bool
 |.box _ a=>AV.lX (λk=> !FB D k) a
 |.nr _ a=>AV.lX (λk=> !FB D k) a
 |_=>true
def lY(D:bH)(H:Hp):Bool:=H.all λp=>FB D p.1 && (match p.2 with|some ob=>obX D ob|none=>true)
def nq(D:bH):Hp:=D.map λq=>(q.2,none)
def H_(h:¬c=v):Nat.beq c v=false:=by
 cases a:Nat.beq c v with
 |false=>rfl
 |true=>exact absurd (apX a) h
def f_:∀{D:bH} {p c:Nat},ua D p=some c->(p,c)∈D
 |[],p,c,h=>by cases h
 |(q,x)::D,p,c,h=>by
  simp only[ua]at h;by_cases e:p=q
  ·subst e;rw[aqp]at h;cases h;simp
  ·rw[H_ e]at h;exact aqU _ (f_ h)
def Zb:∀{l:aZ} {x:Nat},Bv (x::l)=true->x∉l:=λ{l x} h a=>by
 simp only[Bv,apS,aq1,List.any_eq_false]at h;exact h.1 x a (aqp x)
def lZ:∀{D:bH} {p c:Nat},Bv (D.map (·.2))=true->(p,c)∈D->Pf D c=some p
 |[],p,c,_,h=>by cases h
 |(q,x)::D,p,c,a,h=>by
  simp only[Pf];rcases aqj.1 h with h|h
  ·cases h;rw[aqp];rfl
  ·have d:x∉D.map (·.2):=Zb (by simpa using a)
   have b:¬c=x:=λe=>d (by rw[<-e];exact ap4.2 ⟨_,h,rfl⟩);rw[H_ b];exact lZ (by simp only[aqc,Bv,apS]at a;exact a.2) h
def RI:∀{D:bH} {p c:Nat},Pf D c=some p->(p,c)∈D
 |[],p,c,h=>by cases h
 |(q,x)::D,p,c,h=>by
  simp only[Pf]at h;by_cases e:c=x
  ·subst e;rw[aqp]at h;cases h;simp
  ·rw[H_ e]at h;exact aqU _ (RI h)
def cB(D:bH)(B:Nat)(e:Env)(w:World):Bs:=
 ⟨w,λb=>∃p c,ua D p=some c/\e.bS c=some b,λk=>e.bS (fQ D B k),λk=>e.sv (fQ D B k),[]⟩
def cRd(D:bH)(B:Nat)(w0:Bs)(Rd0:bE)(e:Env)(h:Hp)(w:World)(b o:Nat)(u:Value):Prop:=bO w0 Rd0 e h w b o u/\¬(cB D B e w).hI b
def Env.pi(D:bH)(B:Nat)(e:Env):Env:=⟨λk=>e.bS (fQ D B k),λk=>e.sv (fQ D B k),λk=>e.cM (fQ D B k)⟩
def Env.eE(D:bH)(B:Nat)(e e2:Env):Env:=
 ⟨λk=>if mA B k then e2.bS (k - B)else e.bS k,λk=>if mA B k then e2.sv (k - B)else e.sv k,
  λk=>if mA B k then e2.cM (k - B)else match Pf D k with
   |some p=>e2.cM p
   |none=>e.cM k⟩
def Handed(D:bH)(e:Env)(h:Hp):Prop:=∀p c,ua D p=some c->(∃ob,a_ h c=some ob)/\e.cM c=0
section
variable{w0:Bs}{w w':World}{Rd0:bE}{e e2:Env}{h H H0:Hp}{D:bH}{B:Nat}
def bO.nt(t:Handed D e h)(f:bO w0 Rd0 e h w c v g)(m:∀p ob,a_ H0 p=some ob->∃a,ua D p=some a/\∃b,a_ h a=some b):
 bO (cB D B e w) (cRd D B w0 Rd0 e h w) (e.pi D B) H0 w c v g:=by
 have r:=f;obtain⟨j,s,k⟩:=r;refine⟨j,λn=>⟨f,n⟩,λp ob q d=>?_⟩;obtain⟨a,l,b,o⟩:=m p ob q;have i:fQ D B p=a:=by simp[fQ,l]
 simp only[Env.pi,i]at d⊢;exact k a b o d
def SR.Ku(b:SR w0 Rd0 e h w)(m:Handed D e h)(d:GT c v g):¬(cB D B e w).hI c:=by
 have n:=b.CM d;have f:=(b.jO.1 c v g (b.jO.2 _ _ _ d)).2;rintro(k|⟨p,a,j,i⟩)
 ·have:=arT w _ n.1
  simp only[cB]at k;simp only at this;omega
 ·obtain⟨⟨ob,l⟩,_⟩:=m p a j
  exact f (b.base a ob c l i).1
def SR.nt(l:SR w0 Rd0 e h w)(y:Handed D e h)(q:Kh B D=true)
 (j:∀p ob,a_ H0 p=some ob->∃c d,ua D p=some c/\a_ h c=some d/\∀Rd,OR Rd e w c d->OR Rd e w c (ob.ie (fQ D B))):
 SR (cB D B e w) (cRd D B w0 Rd0 e h w) (e.pi D B) H0 w:=by
 have E:∀p ob,a_ H0 p=some ob->∃c,ua D p=some c/\∃d,a_ h c=some d:=λp ob g=>by
  obtain⟨c,d,a,b,_⟩:=j p ob g;exact⟨c,a,d,b⟩
 have m:∀{p c},ua D p=some c->fQ D B p=c:=λ{p c} f=>by simp[fQ,f]
 refine⟨⟨rfl,rfl,rfl,apT _,λ_ _=>rfl,apT _⟩,⟨λb o u n=>⟨n.1.1,n.2⟩,λb o u x=>⟨l.CM x,l.Ku y x⟩⟩,λp ob g=>?_,λp ob b g i=>?_,λp J ob d b g I i t=>?_,λk _=>⟨rfl,rfl⟩⟩
 ·obtain⟨c,d,f,r,C⟩:=j p ob g
  have s:=C _ (l.ob c d r);have A:=m f;rw[<-A]at s;exact(OR.nU (fQ D B) s (e':=e.pi D B) (λ_=>rfl) (λ_=>rfl) rfl).mono λb o u n=>n.nt y E
 ·obtain⟨c,d,f,r,_⟩:=j p ob g
  simp only[Env.pi,m f]at i;exact⟨.inr ⟨p,c,f,i⟩,(l.base c d b r i).2⟩
 ·obtain⟨c,M,f,F,_⟩:=j p ob g
  obtain⟨L,N,v,G,_⟩:=j J d I;simp only[Env.pi,m f]at i;simp only[Env.pi,m v]at t;have:=l.inj _ _ _ _ _ F G i t;subst this;simp only[Kh,apS]at q;have K:=lZ q.1.2 (f_ f);have z:=lZ q.1.2 (f_ v);rw[K]at z;exact apZ z
def SR.eE(J:SR w0 Rd0 e h w)(hp:Handed D e h)(hD:Kh B D=true)(y:SR (cB D B e w) (cRd D B w0 Rd0 e h w) e2 H w')(A:lY D H=true):
 SR w0 Rd0 (e.eE D B e2) (ke (fQ D B) H++(nq D++hL (mA B) h)) w'/\
 (∀b o u,bO w0 Rd0 e h w b o u->bO w0 Rd0 (e.eE D B e2) (ke (fQ D B) H++(nq D++hL (mA B) h)) w' b o u)/\
 (∀b o u,bO (cB D B e w) (cRd D B w0 Rd0 e h w) e2 H w' b o u->bO w0 Rd0 (e.eE D B e2) (ke (fQ D B) H++(nq D++hL (mA B) h)) w' b o u)/\
 (∀k,FB D k=true->(e.eE D B e2).bS (fQ D B k)=e2.bS k/\(e.eE D B e2).sv (fQ D B k)=e2.sv k):=by
 have ag:=hD;simp only[Kh,apS,aqg,aq1]at ag;obtain⟨⟨⟨d1,d2⟩,d3⟩,d4⟩:=ag;have d4:B+1000<=4294967296:=apY d4;have M:∀p c,ua D p=some c->4294967296<=p/\mA B c=false:=λp c l=>by
  have:=d1 _ (f_ l);exact⟨apY this.1,this.2⟩
 have ar:∀p p' c,ua D p=some c->ua D p'=some c->p=p':=λp p' c W X=>by
  have r1:=lZ d3 (f_ W);have r2:=lZ d3 (f_ X);rw[r1]at r2;exact apZ r2
 have eW:∀k,mA B k=true↔B<=k/\k<B+1000:=λk=>by simp[mA]
 have a4:∀k,k<1000->fQ D B k=B+k:=λk a=>by
  unfold fQ;cases l:ua D k with
  |none=>rfl
  |some c=>have:=(M k c l).1;omega
 have R:∀p c,ua D p=some c->fQ D B p=c:=λp c l=>by simp[fQ,l]
 have a6:∀k,k<1000->mA B (B+k)=true:=λk a=>(eW (B+k)).2 ⟨by omega,by omega⟩;have O:∀k,FB D k=true->(e.eE D B e2).bS (fQ D B k)=e2.bS k:=λk a=>by
  simp only[FB,aqO]at a;rcases a with a|a
  ·have a:k<1000:=apY a
   rw[a4 k a];simp[Env.eE,a6 k a]
  ·obtain⟨c,l⟩:=arw.1 a
   have:=y.t_ k (M k c l).1;rw[this.1,R k c l];simp[Env.eE,(M k c l).2,cB,R k c l]
 have ak:∀k,FB D k=true->(e.eE D B e2).sv (fQ D B k)=e2.sv k:=λk a=>by
  simp only[FB,aqO]at a;rcases a with a|a
  ·have a:k<1000:=apY a
   rw[a4 k a];simp[Env.eE,a6 k a]
  ·obtain⟨c,l⟩:=arw.1 a
   have:=y.t_ k (M k c l).1;rw[this.2,R k c l];simp[Env.eE,(M k c l).2,cB,R k c l]
 have aj:∀k,FB D k=true->(e.eE D B e2).cM (fQ D B k)=e2.cM k:=λk a=>by
  simp only[FB,aqO]at a;rcases a with a|a
  ·have a:k<1000:=apY a
   rw[a4 k a];simp[Env.eE,a6 k a]
  ·obtain⟨c,l⟩:=arw.1 a
   rw[R k c l];simp[Env.eE,(M k c l).2,lZ d3 (f_ l)]
 have Q:∀k,mA B k=false->(e.eE D B e2).bS k=e.bS k:=λk a=>by simp[Env.eE,a]
 have an:∀k,mA B k=false->(e.eE D B e2).sv k=e.sv k:=λk a=>by simp[Env.eE,a]
 have ae:∀k,mA B k=false->Pf D k=none->(e.eE D B e2).cM k=e.cM k:=λk a L=>by simp[Env.eE,a,L]
 have aD:∀k s,FB D k=true->FB D s=true->fQ D B k=fQ D B s->k=s:=by
  intro k s a r C;simp only[FB,aqO]at a r;rcases a with a|a
  ·have a:k<1000:=apY a
   rw[a4 k a]at C;rcases r with r|r
   ·have r:s<1000:=apY r
    rw[a4 s r]at C;omega
   ·obtain⟨c,l⟩:=arw.1 r
    rw[R s c l]at C;have:=(M s c l).2;rw[<-C,a6 k a]at this;cases this
  ·obtain⟨c,l⟩:=arw.1 a
   rw[R k c l]at C;rcases r with r|r
   ·have r:s<1000:=apY r
    rw[a4 s r]at C;have:=(M k c l).2;rw[C,a6 s r]at this;cases this
   ·obtain⟨c',ai⟩:=arw.1 r
    rw[R s c' ai]at C;subst C;exact ar _ _ _ l ai
 have ay:∀(H:Hp),lY D H=true->∀k ob,a_ H k=some ob->FB D k=true/\obX D ob=true:=by
  intro H
  induction H with
  |nil=>intro _ k ob hh;simp[a_]at hh
  |cons q H ih=>
   intro A k ob a;obtain⟨i,o⟩:=q;simp only[lY,aqY,apS]at A;by_cases P:k=i
   ·subst P
    rw[bf]at a;subst a;exact⟨A.1.1,A.1.2⟩
   ·rw[bc P]at a
    exact ih (by simpa[lY]using A.2) k ob a
 have aC:∀(H:Hp),lY D H=true->∀k,(ke (fQ D B) H).any (λq=>q.1==k)=true->∃j,FB D j=true/\fQ D B j=k/\a_ (ke (fQ D B) H) k=(a_ H j).map (Ob.ie (fQ D B)):=by
  intro H
  induction H with
  |nil=>intro _ k G;simp[ke]at G
  |cons q H ih=>
   intro A k G;obtain⟨i,o⟩:=q;simp only[lY,aqY,apS]at A;simp only[ke,arI,aqO,asH]at G;by_cases P:fQ D B i=k
   ·refine⟨i,A.1.1,P,?_⟩
    simp only[ke,a_,P,aqs]
   ·obtain⟨j,j1,j2,j3⟩:=ih (by simpa[lY]using A.2) k (G.resolve_left P)
    refine⟨j,j1,j2,?_⟩;have ax:¬j=i:=λe=>P (by rw[<-e];exact j2);have az:¬k=fQ D B i:=λe=>P e.symm;simp only[ke,a_,az,aqN,ax,j3]
 have av:∀(D:bH) k,a_ (nq D) k=none:=by
  intro D k
  induction D with
  |nil=>rfl
  |cons q D ih=>
   simp only[nq,aqc,a_];split
   ·rfl
   ·exact ih
 have au:∀k,(nq D).any (λq=>q.1==k)=false->Pf D k=none:=by
  intro k a;cases L:Pf D k with
  |none=>rfl
  |some p=>
   have:=RI L;rw[List.any_eq_false]at a;exact absurd (by simp) (a (k,none) (ap4.2 ⟨_,this,rfl⟩))
 have Z:∀k ob,a_ (ke (fQ D B) H++(nq D++hL (mA B) h)) k=some ob->(∃j f,FB D j=true/\obX D f=true/\k=fQ D B j/\a_ H j=some f/\ob=f.ie (fQ D B))\/(mA B k=false/\Pf D k=none/\∃f,a_ h k=some f/\ob=f.jP (mA B)):=by
  intro k ob a;rw[ep]at a;split at a
  ·rename_i G
   obtain⟨j,j1,j2,j3⟩:=aC H A k G;rw[j3]at a;obtain⟨f,n,rfl⟩:=aqo.1 a;exact .inl ⟨j,f,j1,(ay H A j f n).2,j2.symm,n,rfl⟩
  ·rw[ep]at a
   split at a
   ·rw[av]at a;cases a
   ·rename_i _ G
    have G:(nq D).any (λq=>q.1==k)=false:=(Bool.not_eq_true _).mp G;rw[sR]at a;split at a
    ·cases a
    ·rename_i v
     obtain⟨f,n,rfl⟩:=aqo.1 a;exact .inr ⟨by simpa using v,au k G,f,n,rfl⟩
 have af:∀b,(cB D B e w).hI b->w0.hI b:=by
  rintro b (m|⟨p,c,l,m⟩)
  ·exact J.ext.hI m
  ·obtain⟨⟨ob,F⟩,_⟩:=hp p c l
   exact(J.base c ob b F m).1
 have a7:∀k f b,Pf D k=none->a_ h k=some f->e.bS k=some b->¬(cB D B e w).hI b:=by
  rintro k f b L n m (Y|⟨p,c,l,ab⟩)
  ·have:=(J.base k f b n m).2
   simp only[cB]at Y;omega
  ·obtain⟨⟨ob,F⟩,_⟩:=hp p c l
   have:=J.inj _ _ _ _ _ n F m ab;subst this;rw[lZ d3 (f_ l)]at L;cases L
 have aw:∀b o u,bO w0 Rd0 e h w b o u->¬(cB D B e w).hI b:=by
  rintro b o u ⟨W,X,h3⟩ (Y|⟨p,c,l,ab⟩)
  ·have:=arT w _ W
   simp only[cB]at Y;simp only at this;omega
  ·obtain⟨⟨ob,F⟩,hl⟩:=hp p c l
   have:=h3 c ob F ab;omega
 have a5:∀b o u,bO w0 Rd0 e h w b o u->bO w0 Rd0 (e.eE D B e2) (ke (fQ D B) H++(nq D++hL (mA B) h)) w' b o u:=by
  rintro b o u L;have am:=aw b o u L;have aB:=L;obtain⟨W,X,h3⟩:=aB;refine⟨by rw[ash (w:=w) (y.ext.block b am)];exact W,X,λk ob a m=>?_⟩;rcases Z k ob a with⟨j,f,E,_,rfl,n,rfl⟩|⟨v,I,f,n,rfl⟩
  ·rw[O j E]at m
   exact absurd (y.base _ _ _ n m).1 am
  ·rw[Q k v]at m
   rw[ae k v I];exact h3 k f n m
 have ah:∀b o u,bO (cB D B e w) (cRd D B w0 Rd0 e h w) e2 H w' b o u->bO w0 Rd0 (e.eE D B e2) (ke (fQ D B) H++(nq D++hL (mA B) h)) w' b o u:=by
  rintro b o u ⟨W,X,h3⟩;refine⟨W,λal=>(X λY=>al (af b Y)).1.2.1 al,λk ob a m=>?_⟩;rcases Z k ob a with⟨j,f,E,_,rfl,n,rfl⟩|⟨v,I,f,n,rfl⟩
  ·rw[O j E]at m
   rw[aj j E];exact h3 j f n m
  ·rw[Q k v]at m
   rw[ae k v I];exact(X (a7 k f b I n m)).1.2.2 k f n m
 refine⟨⟨?_,J.jO,λk ob a=>?_,λk ob b a m=>?_,λk s ob ap b a r m N=>?_,λk a=>?_⟩,a5,ah,λk a=>⟨O k a,ak k a⟩⟩
 ·exact J.ext.step y.ext.os y.ext.tape y.ext.output y.ext.size (λb m _=>y.ext.block b λY=>m (af b Y)) y.ext.drawn
 ·rcases Z k ob a with⟨j,f,E,hx,rfl,n,rfl⟩|⟨v,I,f,n,rfl⟩
  ·have F:=(y.ob j f n).mono ah
   have aA:OR (bO w0 Rd0 (e.eE D B e2) (ke (fQ D B) H++(nq D++hL (mA B) h)) w') ⟨λk=>(e.eE D B e2).bS (fQ D B k),λk=>(e.eE D B e2).sv (fQ D B k),λk=>(e.eE D B e2).cM (fQ D B k)⟩ w' j f:=by
    have:=F.FN (e':=⟨λk=>(e.eE D B e2).bS (fQ D B k),λk=>(e.eE D B e2).sv (fQ D B k),λk=>(e.eE D B e2).cM (fQ D B k)⟩) (λk=> !FB D k) (by simpa using E)
     (λi K=>O i (by simpa using K)) (λi K=>ak i (by simpa using K)) (aj j E)
    have C:f.jP (λk=> !FB D k)=f:=by
     cases f with
     |box t cs=>
      simp only[Ob.jP];refine ap5 (Ob.box t) ?_;rw[aqJ (g:=id),arJ];intro c l;obtain⟨i,K,rfl⟩:=aqB l;exact kG (e_ hx i _ (ap0 K))
     |arr=>rfl
     |mp=>rfl
     |nr t cs=>
      simp only[Ob.jP];refine ap5 (Ob.nr t) ?_;rw[aqJ (g:=id),arJ];intro c l;obtain⟨i,K,rfl⟩:=aqB l;exact kG (e_ hx i _ (ap0 K))
    rw[C]at this;exact this
   exact aA.ie (fQ D B) (λ_=>rfl) (λ_=>rfl) (λ_=>rfl)
  ·refine OR.FN (mA B) (e:=e) ?_ v Q an (ae k v I)
   have x:=J.ob k f n;have hx:∀{b:Nat} {o:Obj},e.bS k=some b->w.heap[b]? =some o->w'.heap[b]? =some o:=λ{b o} m F=>(y.ext.block b (a7 k f b I n m)).trans F;cases f with
   |box t cs=>
    obtain⟨S,b,us,U,a2,z⟩:=x;exact⟨S,b,us,U,a2.ext (λo F=>hx U F),z.imp λ_ _ hv=>hv.mono a5⟩
   |arr t sz aE wr=>
    obtain⟨S,U,a2,z⟩:=x;refine⟨S,U,a2,?_⟩;rcases z with z|⟨b,a9,aa,b1,b2,b3,b4,b5,b6,b7,b8⟩
    ·exact .inl z
    ·exact .inr ⟨b,a9,aa,b1,b2,b3,b4,hx b1 b5,b6,b7.imp λ_ _ hv=>hv.mono a5,b8⟩
   |mp d es=>
    obtain⟨S,b,arr,aq,U,a2,z⟩:=x;exact⟨S,b,arr,aq,U,hx U a2,z.mono a5⟩
   |nr t cs=>
    obtain⟨S,z⟩:=x;refine⟨S,?_⟩;rcases z with z|⟨b,a9,aa,b1,b2,b3,b4,b5,b6,b7⟩
    ·exact .inl z
    ·exact .inr ⟨b,a9,aa,b1,b2,b3,b4,hx b1 b5,b6,b7.imp λ_ _ hv=>hv.mono a5⟩
 ·rcases Z k ob a with⟨j,f,E,_,rfl,n,rfl⟩|⟨v,I,f,n,rfl⟩
  ·rw[O j E]at m
   have:=y.base _ _ _ n m;exact⟨af b this.1,this.2⟩
  ·rw[Q k v]at m
   have:=J.base _ _ _ n m;exact⟨this.1,arV this.2 y.ext.size⟩
 ·rcases Z k ob a with⟨j,f,E,_,rfl,n,rfl⟩|⟨v,I,f,n,rfl⟩
  ·rw[O j E]at m
   rcases Z s ap r with⟨j',a8,ad,_,rfl,V,rfl⟩|⟨ac,ao,a8,V,rfl⟩
   ·rw[O j' ad]at N
    rw[y.inj _ _ _ _ _ n V m N]
   ·rw[Q s ac]at N
    exact absurd (y.base _ _ _ n m).1 (a7 s a8 b ao V N)
  ·rw[Q k v]at m
   rcases Z s ap r with⟨j',a8,ad,_,rfl,V,rfl⟩|⟨ac,ao,a8,V,rfl⟩
   ·rw[O j' ad]at N
    exact absurd (y.base _ _ _ V N).1 (a7 k f b I n m)
   ·rw[Q s ac]at N
    exact J.inj _ _ _ _ _ n V m N
 ·have v:mA B k=false:=by
   cases K:mA B k with
   |false=>rfl
   |true=>have:=(eW k).1 K;omega
  rw[Q k v,an k v];exact J.t_ k a
end
variable{M:Code}{U:FuncId}{Y:aZ}
def WH:bU->Fence
 |none=>Fence.wide
 |some l=>Fence.wide.inRound l
def Po(r:bU)(f:FuncId):(WH r).fn f:=by cases r<;>trivial
def F5(r:bU):(WH r).depth=none:=by cases r<;>rfl
def Pp(P:Program)(r:bU):Machine.fenced P (WH r)=Machine.fenced P Fence.wide:=by cases r<;>rfl
def Kv{r:bU}{n:Nat}{P:Program}{c:eb}{w:World}{R:Ending->World->Prop}(h:Calls P U c w R):CallsIn (WH r) n P U c w R:=by
 cases r with
 |none=>exact atU.2 h
 |some l=>exact(atU.2 h).inRound l
def Pq{r:bU}{n:Nat}{P:Program}{e:String}{d:eb}{w:World}{R:Value->World->Prop}(h:Rows P e d w R):RowsIn (WH r) n P e d w R:=λc cs _=>by
 obtain⟨v,g,f,s⟩:=h c cs;refine⟨v,g,f,?_⟩;rw[Pp];exact stepsIn_wide.2 s
def CU:bp->aZ
 |[]=>[]
 |o::l=>match o.dst with
  |some d=>d::CU l
  |none=>CU l
def F6(d:D.dst=some c):∀{l:bp},D∈l->c∈CU l:=by
 intro l
 induction l with
 |nil=>intro h;cases h
 |cons f l e=>
  intro h;unfold CU;rcases aqj.1 h with h|h
  ·subst h
   rw[d];exact asK
  ·have:=e h
   split
   ·exact aqU _ this
   ·exact this
def wrL:Code->aZ
 |.region _ ops _=>CU ops.toList
 |.seq a b=>wrL a++wrL b
 |.cond _ a b=>wrL a++wrL b
 |.block _ a=>wrL a
 |.loop a=>wrL a
 |.scope a=>wrL a
 |_=>[]
def Kp(l:aZ)(a c:Act):Prop:=∀i,i∉l->c.tmps[i]? =a.tmps[i]?
def Kp.refl(l:aZ)(a:Act):Kp l a a:=λ_ _=>rfl
def Kp.trans{l:aZ}{a b c:Act}(h:Kp l a b)(k:Kp l b c):Kp l a c:=λi d=>(k i d).trans (h i d)
def Kp.mono{l m:aZ}{a b:Act}(h:Kp l a b)(e:∀i,i∈l->i∈m):Kp m a b:=λi d=>h i λc=>d (e i c)
def Kp.left{l m:aZ}{a b:Act}(h:Kp l a b):Kp (l++m) a b:=h.mono λi c=>atV _ c
def Kp.right{l m:aZ}{a b:Act}(h:Kp m a b):Kp (l++m) a b:=h.mono λi c=>atW _ c
def Kp.put{l:aZ}{a:Act}{d:bU}{v:Value}(h:∀x,d=some x->x∈l):Kp l a (a.put d v):=λi c=>by
 cases d with
 |none=>rfl
 |some x=>
  have f:x≠i:=λe=>c (e▸h x rfl);simp only[Act.put];rw[atf f]
def jy(a:Act)(d:bU)(v:Value):(a.put d v).defers=a.defers:=by cases d<;>rfl
section
variable{P:Program}{b:Frame}{a:Act}{k:List Item}{cs:List Frame}{w:World}{Q:Exit->Act->World->Prop}{F:Fence}{n:Nat}
def Kw:step P (lone (b.atR a (.code (.scope M)::k)) cs w)=.next (lone (b.atR a (.code M:: .inScope M::k)) cs w):=
 step_lone_go (by simp[stepG,stepG.exec,Frame.atR])
def FO:step P (lone (b.atR a (.inScope M::k)) cs w)=.next (lone (b.atR a k) cs w):=
 step_lone_go (by simp[stepG,stepG.exec,Frame.atR])
def tT(h:M.wpIn F n P (Exit.noGoto Q) a w):(Code.scope M).wpIn F n P Q a w:=by
 intro b k cs p j o;obtain⟨e,f,i,d,c⟩:=h b (.inScope M::k) cs p j o;have g:StepsIn (Machine.fenced P F) P (lone (b.atR a (.code (.scope M)::k)) cs w) (lone (b.atR a (.code M:: .inScope M::k)) cs w):=.one (fenced_calm j o rfl) Kw;cases e with
 |normal=>exact⟨.normal,f,i,d,.of_steps g (StepsIn.trans c (.one (fenced_calm j o rfl) FO))⟩
 |exit id=>exact⟨.exit id,f,i,d,.of_steps g ⟨λs m=>c.1 s (by simp[exitTo,m]),λq m=>c.2 q (by simp[exitTo,m])⟩⟩
 |goto l=>exact d.elim
 |ret=>exact⟨_,f,i,d,.of_steps g c⟩
 |panic t=>exact⟨_,f,i,d,.of_steps g c⟩
 |outgrown=>exact⟨_,f,i,d,.of_steps g c⟩
end
section
variable{P:Program}{ops:tZ}{r:bU}
def Kx{a:Act}{next:Act->World->Prop}{Q:Exit->Act->World->Prop}(g:∀d i,next d i->d.defers.length<=c)(j:∀x d i,Q x d i->x=.normal){res:Result Next}(h:D.upon P a next Q res):a.defers.length<=c:=by
 unfold Oper.upon at h;split at h
 ·have:=g _ _ h;rwa[jy]at this
 ·have:=g _ _ h;rwa[jy]at this
 ·have:=g _ _ h;rw[jy]at this;simp at this;omega
 ·obtain⟨e,m,p,f,_⟩:=h []
  cases e with
  |returned v=>have:=g _ _ f;rwa[jy]at this
  |panicked o=>cases j _ _ _ f
  |outgrown=>obtain⟨d,i,l⟩:=f;cases j _ _ _ l
 ·obtain⟨v,m,f,_⟩:=h default []
  have:=g _ _ f;rwa[jy]at this
 ·cases j _ _ _ h
 ·cases h
def BO{Q:Exit->Act->World->Prop}(d:∀x c e,Q x c e->x=.normal):¬LetsOut Q:=λ⟨a,w,h⟩=>by cases d _ _ _ h
def akw{a:Act}{w:World}{next:Act->World->Prop}{Q:Exit->Act->World->Prop}(o:∀i e,next i e->i.defers.length<=a.defers.length)(l:∀x i e,Q x i e->x=.normal)(h:D.wp P a w next Q):
 D.wpIn (WH r) 0 P a w next Q:=by
 refine⟨λf _=>Po r f,?_⟩;unfold Oper.wp at h;have p:D.semAt (WH r).round a.eval=execOp a.eval D:=by
  refine Oper.semAt_eq _ _ _ λc m=>?_;have q:(execOp a.eval D).run P w=((resolve a.eval c D.type).run P w).andThen λd e=>.ok (.defer d) e:=by
   unfold execOp;rw[m];simp only[ap6,ap8]
  rw[q]at h;cases j:(resolve a.eval c D.type).run P w with
  |ok d e=>
   rw[j]at h;have:=o _ _ h;rw[jy]at this;simp at this;omega
  |halt x e=>
   rw[j]at h;cases x<;>first|exact h.elim|(cases l _ _ _ h)
 rw[p];generalize(execOp a.eval D).run P w=res at h;unfold Oper.upon at h;unfold Oper.uponIn;split at h
 ·exact h
 ·exact h
 ·exact h
 ·exact⟨λg=>by(rw[F5]at g;cases g),Kv h⟩
 ·exact⟨λg=>by(rw[F5]at g;cases g),Pq h⟩
 ·exact h
 ·exact h.elim
def u_{Q:Exit->Act->World->Prop}{m:Nat}(d:∀x c e,Q x c e->x=.normal/\c.defers.length<=m):∀(l:bp) (a:Act) (w:World),wpList P ops Q l a w->a.defers.length<=m
 |[],a,w,h=>(d _ _ _ h).2
 |o::l,a,w,h=>by
  unfold wpList at h;split at h
  ·rcases h with h|⟨_,h⟩
   ·exact Kx (u_ d l) (λx c e f=>(d x c e f).1) h
   ·exact absurd h (BO λx c e f=>(d x c e f).1)
  ·have:=u_ d l _ _ h
   rwa[jy]at this
def WI{F:Fence}{n:Nat}{a:Act}{w:World}{next m:Act->World->Prop}{Q p:Exit->Act->World->Prop}(g:∀x j f,Q x j f->x=.normal)(h:D.wpIn F n P a w next Q)
 (d:∀(i:Act) (v:Value) (f:World),i.tmps=a.tmps->a.defers.length<=i.defers.length->next (i.put D.dst v) f->m (i.put D.dst v) f):D.wpIn F n P a w m p:=by
 refine⟨h.1,?_⟩;have h:=h.2;generalize(D.semAt F.round a.eval).run P w=res at h;unfold Oper.uponIn at h⊢;split at h
 ·exact d _ _ _ rfl (apT _) h
 ·exact d _ _ _ rfl (apT _) h
 ·exact d {a with defers:=_::a.defers} _ _ rfl (by simp) h
 ·exact⟨h.1,h.2.mono λe o c=>by
   cases e with
   |returned v=>exact d _ _ _ rfl (apT _) c
   |panicked q=>cases g _ _ _ c
   |outgrown=>obtain⟨j,f,l⟩:=c;cases g _ _ _ l⟩
 ·exact⟨h.1,h.2.mono λv o c=>d _ _ _ rfl (apT _) c⟩
 ·exact⟨h.1,h.2.mono λe o c=>by
   cases e with
   |returned v=>exact d _ _ _ rfl (apT _) c
   |panicked q=>cases g _ _ _ c
   |outgrown=>obtain⟨j,f,l⟩:=c;cases g _ _ _ l⟩
 ·cases g _ _ _ h
 ·exact h.elim
def CW{a j:Act}{w:World}{next o:Act->World->Prop}{Q p:Exit->Act->World->Prop}(l:∀x e f,Q x e f->x=.normal)(y:∀e f,next e f->e.defers.length<=c)(t:∀d,D.dst=some d->d∈Y)
 (z:c<=a.defers.length) (u:Kp Y j a) (h:D.wp P a w next Q) (A:∀e f,next e f->c<=e.defers.length->Kp Y j e->o e f):D.wpIn (WH r) 0 P a w o p:=by
 have s:=akw (r:=r) (λe f g=>aqM (y e f g) z) l h;refine WI l s λq v f B C g=>A _ _ g ?_ ?_
 ·rw[jy];omega
 ·intro i m
  rw[Kp.put (a:=q) (v:=v) t i m,B];exact u i m
def F7{F:Fence}{n:Nat}{a:Act}{w:World}{next m:Act->World->Prop}{Q l:Exit->Act->World->Prop}(f:∀x a w,Q x a w->l x a w)(d:∀a w,next a w->m a w)(h:D.wpIn F n P a w next Q):D.wpIn F n P a w m l:=by
 refine⟨h.1,?_⟩;have h:=h.2;generalize(D.semAt F.round a.eval).run P w=res at h;unfold Oper.uponIn at h⊢;split at h
 ·exact d _ _ h
 ·exact d _ _ h
 ·exact d _ _ h
 ·exact⟨h.1,h.2.mono λe o c=>by
   cases e with
   |returned v=>exact d _ _ c
   |panicked p=>exact f _ _ _ c
   |outgrown=>obtain⟨g,j,i⟩:=c;exact⟨g,j,f _ _ _ i⟩⟩
 ·exact⟨h.1,h.2.mono λv o c=>d _ _ c⟩
 ·exact⟨h.1,h.2.mono λe o c=>by
   cases e with
   |returned v=>exact d _ _ c
   |panicked p=>exact f _ _ _ c
   |outgrown=>obtain⟨g,j,i⟩:=c;exact⟨g,j,f _ _ _ i⟩⟩
 ·exact f _ _ _ h
 ·exact h.elim
def za{Q:Exit->Act->World->Prop}{m:Nat}(g:∀x c e,Q x c e->x=.normal/\c.defers.length<=m){l0:aZ}{a0:Act}:∀(l:bp) (a:Act) (w:World),(∀o∈l,∀d,o.dst=some d->d∈l0)->m<=a.defers.length->Kp l0 a0 a->wpList P ops Q l a w->
 wpListIn (WH r) 0 P ops (λx c e=>Q x c e/\Kp l0 a0 c) l a w
 |[],a,w,_,_,j,h=>⟨h,j⟩
 |o::l,a,w,p,v,j,h=>by
  unfold wpList at h;unfold wpListIn;have u:∀x,o.dst=some x->x∈l0:=λx A=>p o (by simp) x A;split at h
  ·rename_i s
   rw[apR s];rcases h with h|⟨_,h⟩
   ·exact CW (λx c e i=>(g x c e i).1) (u_ g l) u v j h λc e i z y=>za g l c e (λt q=>p t (by simp[q])) z y i
   ·exact absurd h (BO λx c e i=>(g x c e i).1)
  ·rename_i s
   rw[apQ s];exact⟨λf _=>Po r f,za g l _ w (λt q=>p t (by simp[q])) (by rw[jy];exact v) (j.trans (Kp.put u)) h⟩
def nu{F:Fence}{n:Nat}{Q e:Exit->Act->World->Prop}(c:∀x a w,Q x a w->e x a w):∀(l:bp) (a:Act) (w:World),wpListIn F n P ops Q l a w->wpListIn F n P ops e l a w
 |[],a,w,h=>c _ _ _ h
 |o::l,a,w,h=>by
  unfold wpListIn at h⊢;split at h
  ·rename_i d
   rw[apR d];exact F7 c (λa w f=>nu c l a w f) h
  ·rename_i d
   rw[apQ d];exact⟨h.1,nu c l _ _ h.2⟩
def lE{F:Fence}{n:Nat}{m:Region.Mode}{Q l:Exit->Act->World->Prop}(e:∀x a w,Q x a w->l x a w):∀(d:Nat) (j:Array Bool) (a:Act) (w:World),wpAnyIn F n P m ops Q d j a w->wpAnyIn F n P m ops l d j a w
 |0,_,a,w,h=>⟨h.1,e _ _ _ h.2⟩
 |d+1,j,a,w,h=>by
  refine⟨λs=>e _ _ _ (h.1 s),λi q=>?_⟩;have c:=h.2 i q;unfold wpOpIn at c⊢;split
  ·rename_i f
   rw[f]at c;exact lE e d _ a w c
  ·rename_i o f
   rw[f]at c;simp only at c;split at c
   ·rename_i g
    rw[apR g];exact F7 e (λa w p=>lE e d _ a w p) c
   ·rename_i g
    rw[apQ g];exact⟨c.1,lE e d _ _ _ c.2⟩
def sS{p:Region.Mode}{Q:Exit->Act->World->Prop}{m:Nat}(d:∀x e g,Q x e g->x=.normal/\e.defers.length<=m):∀(f:Nat) (l:Array Bool) (a:Act) (w:World),wpAny P p ops Q f l a w->a.defers.length<=m
 |0,_,a,w,h=>(d _ _ _ h.2).2
 |f+1,l,a,w,h=>by
  obtain⟨q,s⟩:=h;cases o:Region.ready p ops l with
  |nil=>exact(d _ _ _ (q o)).2
  |cons i t=>
   have c:=s i (by rw[o];simp);unfold wpOp at c;split at c
   ·exact sS d f _ _ _ c
   ·split at c
    ·rcases c with c|⟨_,c⟩
     ·exact Kx (sS d f _) (λx e g j=>(d x e g j).1) c
     ·exact absurd c (BO λx e g j=>(d x e g j).1)
    ·have:=sS d f _ _ _ c
     rwa[jy]at this
def vZ{z:Region.Mode}{Q:Exit->Act->World->Prop}{m:Nat}(l:∀x c g,Q x c g->x=.normal/\c.defers.length<=m){l0:aZ}{a0:Act}(q:∀(i:Nat) o,ops[i]? =some o->∀d,o.dst=some d->d∈l0):∀(j:Nat) (y:Array Bool) (a:Act) (w:World),m<=a.defers.length->Kp l0 a0 a->wpAny P z ops Q j y a w->
 wpAnyIn (WH r) 0 P z ops (λx c g=>Q x c g/\Kp l0 a0 c) j y a w
 |0,_,a,w,_,p,h=>⟨h.1,h.2,p⟩
 |j+1,y,a,w,u,p,h=>by
  obtain⟨A,B⟩:=h;refine⟨λG=>⟨A G,p⟩,λi C=>?_⟩;have e:=B i C;unfold wpOp at e;unfold wpOpIn;split at e
  ·rename_i t
   rw[t];exact vZ l q j _ a w u p e
  ·rename_i o t
   rw[t];simp only;split at e
   ·rename_i v
    rw[apR v];rcases e with e|⟨_,e⟩
    ·exact CW (λx c g s=>(l x c g s).1) (sS l j _) (q i o t) u p e λc g s E D=>vZ l q j _ c g E D s
    ·exact absurd e (BO λx c g s=>(l x c g s).1)
   ·rename_i v
    rw[apQ v];exact⟨λf _=>Po r f,vZ l q j _ _ w (by rw[jy];exact u) (p.trans (Kp.put (q i o t))) e⟩
end
variable{X:St}{Q:tZ}{Z:bp}
def Enters(P:Program)(f:FuncId):Prop:=∃a,P.funcs[f]? =some a/\(a.name== "runtime.NumGoroutine")=false/\a.body.isNone=false
def Bw(P:Program)(f:FuncId)(b:Hp)(h:List AV)(H:Hp)(r:AV):Prop:=
 Enters P f/\∀B Rd e w c,SR B Rd e b w->LR (VR (bO B Rd e b w) (some e)) h c->Calls P f c.toArray w λx g=>∃v a,x=.returned v/\SR B Rd a H g/\VR (bO B Rd a H g) (some a) r v
section
variable{P:Program}{st:St}{d:Nat}{ty:TypeId}{pos:String}{af:dI}{gd:fE}{K:St->Prop}
def gz(h:Enters P U)(a:eb)(w:World):(callFunc U a).run P w=.ok (.enter U a) w:=by
 obtain⟨b,c,e,g⟩:=h;have f:¬(b.name== "runtime.NumGoroutine")=true:=by rw[e];simp
 have i:¬b.body.isNone=true:=by rw[g];simp
 simp only[callFunc,ap6];have:(program).run P w=.ok P w:=rfl;rw[this];simp only[ap7,c];rw[apQ f,apQ i];rfl
mutual
def AV.pu:AV->Bool
 |.un=>true
 |.v _=>true
 |.sl _ _ c=>c.isEmpty
 |.ow _=>true
 |.pt _ _=>true
 |.pe _ _ _ _=>true
 |.sw _ _ _ _=>true
 |.fp _=>false
 |.mp _=>true
 |.ag a=>AV.FF a
 |.tu a=>AV.FF a
 |.cl _ b a=>AV.FF b && AV.FF a
def AV.FF:List AV->Bool
 |[]=>true
 |c::a=>AV.pu c && AV.FF a
end
def oS:∀{a:List AV},AV.FF a=true->∀(j:Nat) c,a[j]? =some c->c.pu=true
 |[],_,j,c,h=>by simp at h
 |x::a,b,j,c,h=>by
  simp only[AV.FF,apS]at b;cases j with
  |zero=>simp at h;exact h▸b.1
  |succ j=>exact oS b.2 j c (by simpa using h)
def VR.pure{Rd m:bE}(h:VR Rd O B g)(f:B.pu=true):VR m O B g:=by
 induction h with
 |un=>exact .un
 |v=>exact .v
 | @sl O tight D u a x i C y e l b c n z k=>
  have q:u=[]:=by simpa[AV.pu]using f
  subst q;have r:i=[]:=by simpa using e
  subst r;exact .sl (rows:=[]) [] (by simp) (by simp) rfl (by simp) b c n (by simp)
 |ow=>exact .ow
 |pt h=>exact .pt h
 |pe h=>exact .pe h
 |sw h p b c=>exact .sw h p b c
 |fp=>simp[AV.pu]at f
 |ag i e l k=>exact .ag i e λj B g b c=>k j B g b c (oS (by simpa[AV.pu]using f) j B b)
 |tu i e l k=>exact .tu i e λj B g b c=>k j B g b c (oS (by simpa[AV.pu]using f) j B b)
 |mp h=>exact .mp h
 |cl i w e o l A k s=>
  simp only[AV.pu,apS]at f;exact .cl i w e o (λj B g b c=>k j B g b c (oS f.1 j B b)) (λj B g b c=>s j B g b c (oS f.2 j B b))
def akx:Ob->Prop
 |.box _ a=>AV.FF a=true
 |.arr _ _ e _=>∀c∈e.flatten,c.pu=true
 |.mp _ b=>∀p∈b,p.2.pu=true
 |.nr _ a=>AV.FF a=true
def OR.pure{Rd E:bE}{e:Env}{w:World}{k:Nat}{ob:Ob}(h:OR Rd e w k ob)(p:akx ob):OR E e w k ob:=by
 cases ob with
 |box t H=>
  obtain⟨g,b,I,l,n,a⟩:=h;exact⟨g,b,I,l,n,a.1,λj c u f o=>(a.2 j c u f o).pure (oS p j c f)⟩
 |arr t M L wr=>
  obtain⟨g,l,n,a⟩:=h;refine⟨g,l,n,?_⟩;rcases a with a|⟨b,A,B,q,r,s,v,y,z,i,F⟩
  ·exact .inl a
  ·exact .inr ⟨b,A,B,q,r,s,v,y,z,⟨i.1,λj c u f o=>(i.2 j c u f o).pure (p c (ap_ f))⟩,F⟩
 |mp d J=>
  obtain⟨g,b,arr,G,l,n,a⟩:=h;exact⟨g,b,arr,G,l,n,a.len,λj x m C D=>⟨(a.key j x m C D).1,(a.key j x m C D).2.pure (p x (ap_ C))⟩,a.isk,a.jV,a.Pe,a.clk⟩
 |nr t H=>
  obtain⟨g,a⟩:=h;refine⟨g,?_⟩;rcases a with a|⟨b,A,B,q,r,s,v,y,z,i⟩
  ·exact .inl a
  ·exact .inr ⟨b,A,B,q,r,s,v,y,z,⟨i.1,λj c u f o=>(i.2 j c u f o).pure (oS p j c f)⟩⟩
def ah4(H:Hp):Prop:=∀k ob,a_ H k=some ob->akx ob
def SR.pure{B:Bs}{Rd b:bE}{e:Env}{H:Hp}{w:World}(h:SR B b e H w)(f:ah4 H)(c:Good Rd B):SR B Rd e H w:=
 ⟨h.ext,c,λk ob a=>(h.ob k ob a).pure (f k ob a),h.base,h.inj,h.t_⟩
def RJ(st:St)(D:bH)(B:Nat)(f j:Hp)(k l:List AV):Prop:=
 ∀g b e w i,SR g b e st.h w->LR (VR (bO g b e st.h w) (some e)) l i->
  ∃a,nk g b e st.h w a f/\Handed D a f/\
   (∀p ob,a_ j p=some ob->∃c h,ua D p=some c/\a_ f c=some h/\∀Rd,OR Rd a w c h->OR Rd a w c (ob.ie (fQ D B)))/\
   LR (VR (bO g b a f w) (some a)) (k.map (AV.ie (fQ D B))) i
def RB(D:bH)(B:Nat)(e:Env)(w:World)(b o:Nat)(u:Value):Prop:=w.cell? ⟨b,o,none⟩=some u/\¬(cB D B e w).hI b
def Pr(st:St)(D:bH)(B:Nat)(g:Hp)(h i:List AV):Prop:=
 ∀f a e w b,SR f a e st.h w->LR (VR (bO f a e st.h w) (some e)) i b->
  Handed D e st.h/\(∀p ob,a_ g p=some ob->∃c j,ua D p=some c/\a_ st.h c=some j/\OR (RB D B e w) e w c (ob.ie (fQ D B)))/\
   LR (VR (RB D B e w) (some e)) (h.map (AV.ie (fQ D B))) b
def Ga.args(a:Ga G h u st C I)(args:fU):LR (VR (bO G h u st.h I) (some u)) (args.toList.map st.ev) (args.toList.map C.eval):=by
 refine⟨by simp,λj c b f e=>?_⟩;rw[aqd]at f e;obtain⟨x,g,rfl⟩:=aqo.1 f;rw[g]at e;simp at e;subst e;exact a.ev x
def Ps(c:Enters P U){a:fU}{e:iM}:
 (execOp C.eval ⟨some d,.call ⟨.value (.func U),a,e⟩,ty,pos,af,gd⟩).run P I=.ok (.enter U (a.toList.map C.eval).toArray) I:=by
 have:=gz c (a.map C.eval) I;have b:(a.toList.map C.eval).toArray=a.map C.eval:=by rw[<-arv]
 rw[b];simpa[execOp,resolve,Act.eval,Deferred.ofValue,invoke]using this
def Ki(P:Program)(o:Oper)(st:St)(f:FuncId)(i:List AV):Prop:=
 Enters P f->∀h b e a w,Ga h b e st a w->∃c,LR (VR (bO h b e st.h w) (some e)) i c/\∀g,(execOp a.eval o).run P g=.ok (.enter f c.toArray) g
def Ki.func{f:FuncId}{args:fU}{ts:iM}:Ki P ⟨some d,.call ⟨.value (.func f),args,ts⟩,ty,pos,af,gd⟩ st f (args.toList.map st.ev):=λb i c e a w h=>
 ⟨_,h.args args,λg=>Ps b⟩
def CX{x:Operand}{args:fU}{ts:iM}{a:Act}{w:World}{us xs:bD}(h:Enters P U)(c:a.eval x=.func (.func U) us.toArray xs.toArray):
 (execOp a.eval ⟨some d,.call ⟨.value x,args,ts⟩,ty,pos,af,gd⟩).run P w=.ok (.enter U (us++args.toList.map a.eval++xs).toArray) w:=by
 have:=gz h (us.toArray++args.map a.eval++xs.toArray) w;have b:(us++args.toList.map a.eval++xs).toArray=us.toArray++args.map a.eval++xs.toArray:=by
  rw[<-atg];simp
 rw[b];simpa[execOp,resolve,c,Deferred.ofValue,invoke]using this
def Ki.val{f:FuncId}{args:fU}{ts:iM}(g:st.ev A=.v (.func (.func f) #[] #[])):Ki P ⟨some d,.call ⟨.value A,args,ts⟩,ty,pos,af,gd⟩ st f (args.toList.map st.ev):=λc k j e a w h=>by
 refine⟨_,h.args args,λi=>?_⟩;have b:=h.ev A;rw[g]at b;have:=CX (P:=P) (d:=d) (ty:=ty) (pos:=pos) (af:=af) (gd:=gd) (x:=A) (args:=args) (ts:=ts) (a:=a) (w:=i) (us:=[]) (xs:=[]) c b.bN;simpa using this
def Ki.cl{x:Operand}{f:FuncId}{args:fU}{ts:iM}{fs cs:List AV}(m:st.ev x=.cl (.func f) fs cs):Ki P ⟨some d,.call ⟨.value x,args,ts⟩,ty,pos,af,gd⟩ st f (fs++args.toList.map st.ev++cs):=λj q n e a w h=>by
 have b:=h.ev x;rw[m]at b;generalize c:a.eval x=u at b;cases b with
 |cl o r k l g i=>
  exact⟨_,(LR.append ⟨k,g⟩ (h.args args)).append ⟨l,i⟩,λp=>CX j c⟩
def LR.nU{Rd a:bE}{e:Env}{D:bH}{B:Nat}{f:List AV}{g:bD}(h:LR (VR Rd (some e)) (f.map (AV.ie (fQ D B))) g)(i:∀b o u,Rd b o u->a b o u):LR (VR a (some (e.pi D B))) f g:=
 ⟨by simpa using h.1,λj c u k l=>((h.2 j (c.ie (fQ D B)) u (by simp[k]) l).mono i).nU (fQ D B) (e':=e.pi D B) (λ_=>rfl) (λ_=>rfl) rfl rfl⟩
def Ga.back{e f:Env}{w l:World}{D:bH}{H:Hp}(b:Ga G h e st C w)(q:Handed D e st.h)(m:Kh c D=true)(r:SR (cB D c e w) (cRd D c G h e st.h w) f H l)
 (s:VR (bO (cB D c e w) (cRd D c G h e st.h w) f H l) (some f) B g) (n:lY D H=true) (p:B.gp (λk=> !FB D k)=true) (o:d<st.n):
 Ga G h (e.eE D c f) ⟨st.n,(d,B.ie (fQ D c))::qf (mA c) st.t,ke (fQ D c) H++(nq D++hL (mA c) st.h)⟩ (C.put (some d) g) l:=by
 obtain⟨j1,j2,j3,j4⟩:=SR.eE b.sr q m r n;refine⟨by simpa[Act.put]using b.n,b.d,j1,TR.put (λi=>?_) (by rw[b.n.1];exact o) ?_⟩
 ·rw[lP]
  exact((((b.tr i).mono j2).jP _).FN rfl (mA c) (nT _ _) (λj a=>by simp[Env.eE,a]) (λj a=>by simp[Env.eE,a]))
 ·exact(s.mono j3).anR _ p (fQ D c) (λj a=>(j4 j (by simpa using a)).1) (λj a=>(j4 j (by simpa using a)).2)
def SS.aky{op:Op}{D:bH}{n i H:Hp}{m:List AV}(z:Bw P U i m H B)(I:Ki P ⟨some d,op,ty,pos,af,gd⟩ st U y)(J:RJ st D (1000*(d+1)) n i m y)(r:Kh (1000*(d+1)) D=true)(C:lY D H=true)(M:B.gp (λk=> !FB D k)=true)(G:d<st.n)
 (E:K ⟨st.n,(d,B.ie (fQ D (1000*(d+1))))::qf (mA (1000*(d+1))) st.t,ke (fQ D (1000*(d+1))) H++(nq D++hL (mA (1000*(d+1))) n)⟩):SS P ⟨some d,op,ty,pos,af,gd⟩ st K:=by
 intro A j e a w next Q h N
 obtain⟨us,W,R⟩:=I z.1 A j e a w h;obtain⟨e1,l,g,s,X⟩:=J A j e w _ h.sr W;have q:=h.cM l;have S:=q.sr.nt g r s;have F:=z.2 _ _ _ w us S (X.nU λb o u L=>L.nt g λp ob O=>by
  obtain⟨c,a0,x,f,_⟩:=s p ob O;exact⟨c,x,a0,f⟩)
 unfold Oper.wp;rw[R w];show Calls P U _ w _;refine F.mono λx w' Z=>?_;obtain⟨v,e2,rfl,V,Y⟩:=Z;exact N _ E _ _ _ (q.back g r V Y C M G)
def SS.RK{op:Op}{D:bH}{r H:Hp}{E:List AV}(M:Bw P U r E H B)(a5:B.pu=true)(a3:ah4 H)(Y:Ki P ⟨some d,op,ty,pos,af,gd⟩ st U y)(l:Pr st D (1000*(d+1)) r E y)(s:Kh (1000*(d+1)) D=true)(S:lY D H=true)(hn:B.gp (λk=> !FB D k)=true)(X:d<st.n)
 (V:K ⟨st.n,(d,B.ie (fQ D (1000*(d+1))))::qf (mA (1000*(d+1))) st.t,ke (fQ D (1000*(d+1))) H++(nq D++hL (mA (1000*(d+1))) st.h)⟩):SS P ⟨some d,op,ty,pos,af,gd⟩ st K:=by
 intro O C e a w next Q h a0
 obtain⟨us,a8,a6⟩:=Y M.1 O C e a w h;obtain⟨A,n,hv⟩:=l O C e w _ h.sr a8;have Z:Good (RB D (1000*(d+1)) e w) (cB D (1000*(d+1)) e w):=⟨λb o u j=>j,λb o u l=>⟨(h.sr.CM l).1,h.sr.Ku A l⟩⟩;have F:∀b o u,RB D (1000*(d+1)) e w b o u->bO (cB D (1000*(d+1)) e w) (RB D (1000*(d+1)) e w) (e.pi D (1000*(d+1))) r w b o u:=λb o u j=>⟨j.1,λ_=>j,λp ob m i=>by
  obtain⟨c,q,x,f,_⟩:=n p ob m;refine absurd (.inr ⟨p,c,x,?_⟩) j.2;have R:fQ D (1000*(d+1)) p=c:=by simp[fQ,x]
  simpa only[Env.pi,R]using i⟩
 have z:∀{p c},ua D p=some c->fQ D (1000*(d+1)) p=c:=λ{p c} g=>by simp[fQ,g]
 have hs:SR (cB D (1000*(d+1)) e w) (RB D (1000*(d+1)) e w) (e.pi D (1000*(d+1))) r w:=by
  refine⟨⟨rfl,rfl,rfl,apT _,λ_ _=>rfl,apT _⟩,Z,λp ob m=>?_,λp ob b m i=>?_,λp p' ob q b m a4 i G=>?_,λk _=>⟨rfl,rfl⟩⟩
  ·obtain⟨c,q,g,L,J⟩:=n p ob m
   rw[<-z g]at J;exact(OR.nU (fQ D (1000*(d+1))) J (e':=e.pi D (1000*(d+1))) (λ_=>rfl) (λ_=>rfl) rfl).mono F
  ·obtain⟨c,q,g,L,_⟩:=n p ob m
   simp only[Env.pi,z g]at i;exact⟨.inr ⟨p,c,g,i⟩,(h.sr.base c q b L i).2⟩
  ·obtain⟨c,aa,g,a1,_⟩:=n p ob m
   obtain⟨c',ab,I,a2,_⟩:=n p' q a4;simp only[Env.pi,z g]at i;simp only[Env.pi,z I]at G;have:=h.sr.inj _ _ _ _ _ a1 a2 i G;subst this;simp only[Kh,apS]at s;have r1:=lZ s.1.2 (f_ g);have N:=lZ s.1.2 (f_ I);rw[r1]at N;exact apZ N
 have W:=M.2 _ _ _ w us hs (hv.nU F);unfold Oper.wp;rw[a6 w];show Calls P U _ w _;refine W.mono λx w' hx=>?_;obtain⟨v,e2,rfl,a7,a9⟩:=hx;exact a0 _ V _ _ _ (h.back A s (a7.pure a3 ⟨λb o u j=>⟨j.1.1,j.2⟩,λb o u l=>⟨h.sr.CM l,h.sr.Ku A l⟩⟩) (a9.pure a5) S hn X)
def GS(P:Program)(j:tZ)(o:Oper)(st:St)(K:St->Prop):Prop:=
 ∀h b e a w next Q,Ga h b e st a w->(∀f,K f->∀i c g,Ga h b i f c g->next c g)->
  if Region.wanted o (yielded j a.tmps)then o.wp P a w next Q else next (a.put o.dst undef) w
def GS.plain(f:D.guard=none)(h:SS P D st K):GS P Q D st K:=by
 intro j c e a w next b g i
 rw[apR (by simp[Region.wanted,f])];exact h j c e a w next b g i
def Ga.yielded{f:tZ}{n:Bs}{g:bE}{e:Env}{a:Act}{w:World}(h:Ga n g e st a w){j s:Nat}{b:Bool}(k:(f[j]?).bind (·.dst)=some s)(l:s<st.n)(m:bG st.t s=.v (.bool b)):yielded f a.tmps j=some b:=by
 have:=h.tr s;rw[m]at this;have:=this.bN;have c:s<a.tmps.size:=by rw[h.n.1];exact l
 have i:a.tmps[s]? =some (.bool b):=by
  rw[aqA c];simp[aq8,aqA c]at this;rw[this]
 unfold Go.yielded;rw[k];simp[i]
def GS.taken(i:D.guard=some (c,F))(j:(Q[c]?).bind (·.dst)=some v)(l:v<st.n)(m:bG st.t v=.v (.bool F))(h:SS P D st K):GS P Q D st K:=by
 intro n g e a w next b f k
 rw[apR (by simp[Region.wanted,i,f.yielded j l m])];exact h n g e a w next b f k
def GS.left{h:Op}{b c:Bool}(l:gd=some (v,b))(m:(Q[v]?).bind (·.dst)=some W)(o:W<st.n)(p:bG st.t W=.v (.bool c))(j:(c==b)=false)(k:∀d,H=some d->d<st.n)
 (i:K ⟨st.n,match H with|some d=>(d,.v undef)::st.t|none=>st.t,st.h⟩):GS P Q ⟨H,h,ty,pos,af,gd⟩ st K:=by
 intro s r e a w next f g n
 have q:¬Region.wanted (⟨H,h,ty,pos,af,gd⟩:Oper) (Go.yielded Q a.tmps)=true:=by
  simp only[Region.wanted,l,g.yielded m o p];simpa using j
 rw[apQ q];refine n _ i e _ _ ?_;cases H with
 |none=>exact g
 |some d=>exact g.put (k d rfl) .v
def GS.ahf{i:Op}{b:Bool}(m:gd=some (c,b))(n:(Q[c]?).bind (·.dst)=some v)(p:v<st.n)(q:bG st.t v=.v undef)(l:∀d,H=some d->d<st.n)
 (k:K ⟨st.n,match H with|some d=>(d,.v undef)::st.t|none=>st.t,st.h⟩):GS P Q ⟨H,i,ty,pos,af,gd⟩ st K:=by
 intro x u e a w next f g o
 have s:Go.yielded Q a.tmps c=none:=by
  have:=g.tr v;rw[q]at this;have:=this.bN;have h:v<a.tmps.size:=by rw[g.n.1];exact p
  have j:a.tmps[v]? =some undef:=by
   rw[aqA h];simp[aq8,aqA h]at this;rw[this]
  unfold Go.yielded;rw[n];simp[j,undef]
 have r:¬Region.wanted (⟨H,i,ty,pos,af,gd⟩:Oper) (Go.yielded Q a.tmps)=true:=by
  simp only[Region.wanted,m,s];simp
 rw[apQ r];refine o _ k e _ _ ?_;cases H with
 |none=>exact g
 |some d=>exact g.put (l d rfl) .v
def AL(P:Program)(j:tZ)(l:bp)(st:St)(K:St->Prop):Prop:=
 ∀h b e a w Q,Ga h b e st a w->(∀f,K f->∀i c g,Ga h b i f c g->Q .normal c g)->wpList P j Q l a w
def AL.nil(h:K st):AL P Q [] st K:=λi g e a w b c f=>f _ h e a w c
def AL.cons(h:∀f:St->Prop,(∀c,AL P Q Z c K->f c)->GS P Q D st f):AL P Q (D::Z) st K:=by
 intro k g e a w b o q;refine asM λl n=>?_;exact h (λc=>AL P Q Z c K) (λ_ h=>h) k g e a w l b o λc r m i j p=>n i j (r k g m i j b p q)
def mark(D:Nat):Deferred:={target:=.collected D,args:= #[]}
def RL(B:Bs):Prop:=∃l:aZ,B.df=l.map mark/\l.Nodup/\∀D∈l,¬B.hI D/\B.w.heap[D]? =some (.deferred (some []))
structure Bk(t:Bool)(w0:Bs)(Rd0:bE)(w1:Bs)(Rd1:bE):Prop where
 sr:∀e h w,SR w1 Rd1 e h w->SR w0 Rd0 e h w
 rd:∀e h w b o u,bO w1 Rd1 e h w b o u->bO w0 Rd0 e h w b o u
 sz:w0.w.heap.size<=w1.w.heap.size
 df:RL w0->RL w1/\∀D,mark D∈w1.df->mark D∈w0.df\/w0.w.heap.size<=D
 ne:t=false->w1=w0/\Rd1=Rd0
def Bk.refl{t:Bool}:Bk t G h G h:=⟨λ_ _ _ a=>a,λ_ _ _ _ _ _ a=>a,apT _,λa=>⟨a,λ_ b=>.inl b⟩,λ_=>⟨rfl,rfl⟩⟩
def Bk.trans{t:Bool}{j l m:Bs}{c f g:bE}(h:Bk t j c l f)(k:Bk t l f m g):Bk t j c m g:=
 ⟨λe H w v=>h.sr e H w (k.sr e H w v),λe H w b o u s=>h.rd e H w b o u (k.rd e H w b o u s),aqM h.sz k.sz,λr=>by
  obtain⟨x,n⟩:=h.df r;obtain⟨y,p⟩:=k.df x;refine⟨y,λD q=>?_⟩;rcases p D q with a|a
  ·exact n D a
  ·exact .inr (aqM h.sz a),λi=>by
  obtain⟨rfl,rfl⟩:=h.ne i;exact k.ne i⟩
def AC(t:Bool)(P:Program)(c:Code)(st:St)(dA:Exit->St->Prop):Prop:=
 ∀(r:bU) j f e a w Q,(t=true->r=none)->Ga j f e st a w->
  (∀x h,dA x h->∀k g,Bk t j f k g->∀l b i,Ga k g l h b i->Kp (wrL c) a b->Q x b i)->c.wpIn (WH r) 0 P Q a w
variable{t:Bool}{dA:Exit->St->Prop}
def Ky(next:St->Prop)(dA:Exit->St->Prop):Exit->St->Prop
 |.normal,st=>next st
 |x,st=>dA x st
def Pt(id:Nat)(dA:Exit->St->Prop):Exit->St->Prop
 |.exit i,st=>if i=id then dA .normal st else dA (.exit i) st
 |x,st=>dA x st
def AC.region{id:Nat}(h:AL P Z.toArray Z st (dA .normal)):AC t P (.region id Z.toArray false) st dA:=λr i l e a w Q A p y=>by
 refine wpIn_region_lit ?_;have q:=h i l e a w (λx b g=>x=.normal/\b.defers.length<=i.df.length/\∃c f,dA .normal c/\Ga i l f c b g) p λc n f b g j=>⟨rfl,by rw[j.d];exact apT _,c,f,n,j⟩;have s:=za (r:=r) (m:=i.df.length) (l0:=CU Z) (a0:=a) (λx b g k=>⟨k.1,k.2.1⟩) Z a w (λo z d u=>F6 u z) (by rw[p.d];exact apT _) (Kp.refl _ _) q;refine nu (λx b g k=>?_) Z a w s;obtain⟨⟨rfl,_,c,f,n,j⟩,v⟩:=k;exact y .normal c n i l Bk.refl f b g j v
def AC.seq{x y:Code}(h:AC t P x st (Ky (λb=>AC t P y b dA) dA)):AC t P (.seq x y) st dA:=λr H s e a w Q q E m=>by
 refine wpIn_seq (h r H s e a w _ q E λA b n p c i g f o j k=>?_);cases A with
 |normal=>exact n r p c g f o Q q j λL G B I u C z v J D F=>m L G B I u (i.trans C) z v J D (k.left.trans F.right)
 |exit id=>exact m _ b n p c i g f o j k.left
 |goto l=>exact m _ b n p c i g f o j k.left
 |ret=>exact m _ b n p c i g f o j k.left
 |panic M=>exact m _ b n p c i g f o j k.left
 |outgrown=>exact m _ b n p c i g f o j k.left
def AC.ahg{x y:Code}(l:st.ev A=.v (.bool true))(h:AC t P x st dA):AC t P (.cond A x y) st dA:=λr v f e a w Q p b o=>by
 have c:=b.ev A;rw[l]at c;exact wpIn_cond_true c.bN (h r v f e a w Q p b λx s q z g k j i u m n=>o x s q z g k j i u m n.left)
def AC.ahh{x y:Code}(l:st.ev A=.v (.bool false))(h:AC t P y st dA):AC t P (.cond A x y) st dA:=λr v f e a w Q p b o=>by
 have c:=b.ev A;rw[l]at c;exact wpIn_cond_false c.bN (h r v f e a w Q p b λx s q z g k j i u m n=>o x s q z g k j i u m n.right)
def AC.block{id:Nat}(h:AC t P M st (Pt id dA)):AC t P (.block id M) st dA:=λr x q e a w Q v u m=>by
 refine wpIn_block (h r x q e a w _ v u λs n b p c i g f o j k=>?_);cases s with
 |normal=>exact m _ n b p c i g f o j k
 |exit z=>
  simp only[Pt]at b;simp only[Exit.inBlock];split at b
  ·rename_i hid;rw[apR hid];exact m _ n b p c i g f o j k
  ·rename_i hid;rw[apQ hid];exact m _ n b p c i g f o j k
 |goto l=>exact m _ n b p c i g f o j k
 |ret=>exact m _ n b p c i g f o j k
 |panic y=>exact m _ n b p c i g f o j k
 |outgrown=>exact m _ n b p c i g f o j k
def AC.scope(h:AC t P M st λx s=>(∀l,x≠.goto l)/\dA x s):AC t P (.scope M) st dA:=λr z q e a w Q y v m=>
 tT (h r z q e a w _ y v λu n b p c i g f o j k=>by
  cases u with
  |goto l=>exact absurd rfl (b.1 l)
  |normal=>exact m _ n b.2 p c i g f o j k
  |exit id=>exact m _ n b.2 p c i g f o j k
  |ret=>exact m _ n b.2 p c i g f o j k
  |panic A=>exact m _ n b.2 p c i g f o j k
  |outgrown=>exact m _ n b.2 p c i g f o j k)
def AC.skip(h:dA .normal st):AC t P .skip st dA:=λr i f e a w Q g b c=>wpIn_skip (c _ st h _ _ Bk.refl e a w b (Kp.refl _ _))
def AC.label(h:dA .normal st):AC t P (.label c) st dA:=λr j g e a w Q i b f=>wpIn_label (f _ st h _ _ Bk.refl e a w b (Kp.refl _ _))
def AC.exit{id:Nat}(h:dA (.exit id) st):AC t P (.exit id) st dA:=λr i f e a w Q g b c=>wpIn_exit (c _ st h _ _ Bk.refl e a w b (Kp.refl _ _))
def AC.ret(h:dA .ret st):AC t P .ret st dA:=λr i f e a w Q g b c=>wpIn_ret (c _ st h _ _ Bk.refl e a w b (Kp.refl _ _))
def cn(P:Program)(st g:St):Prop:=∀c b e a w,Ga c b e st a w->∃f,Ga c b f g a w
def cn.refl{P:Program}{st:St}:cn P st st:=λ_ _ e _ _ h=>⟨e,h⟩
def cn.trans{P:Program}{c f g:St}(h:cn P c f)(k:cn P f g):cn P c g:=λi b e a w l=>let⟨j,m⟩:=h i b e a w l;k i b j a w m
def AC.le(l:cn P st X)(h:AC t P M X dA):AC t P M st dA:=λr c b e a w Q k i j=>let⟨f,g⟩:=l c b e a w i;h r c b f a w Q k g j
def AL.le(l:cn P st X)(h:AL P Q Z X K):AL P Q Z st K:=λf c e a w b j k=>let⟨g,i⟩:=l f c e a w j;h f c g a w b i k
def GS.le(l:cn P st X)(h:GS P Q D X K):GS P Q D st K:=λf c e a w next b j k=>let⟨g,i⟩:=l f c e a w j;h f c g a w next b i k
def AC.mono{c:Exit->St->Prop}(h:AC t P M st dA)(j:∀x b,dA x b->c x b):AC t P M st c:=λr m f e a w Q k g i=>h r m f e a w Q k g λx b l=>i x b (j x b l)
def AC.loop{α:Type}(I:α->St)(μ:α->Nat)(D:α)(L:cn P st (I D))
 (Z:∀x,AC t P M (I x) (Ky (λf=>∃y,cn P f (I y)/\μ y<μ x) dA)):AC t P (.loop M) st dA:=by
 intro r B z e a w Q V S s;obtain⟨e0,O⟩:=L B z e a w S;have Y:∀n x,μ x<n->∀v u,Bk t B z v u->∀F A C,Ga v u F (I x) A C->Kp (wrL M) a A->Code.roundsIn (WH r) 0 P M Q n A C:=by
  intro n
  induction n with
  |zero=>intro x W;omega
  |succ n X=>
   intro x W v u j G E a0 N o;refine Z x r v u G E a0 (Exit.then (Code.roundsIn (WH r) 0 P M Q n) Q) V N λJ f q g b k i c h m p=>?_;cases J with
   |normal=>
    obtain⟨y,U,a3⟩:=q;obtain⟨H,R⟩:=U g b i c h m;exact X y (by omega) g b (j.trans k) H c h R (o.trans p)
   |exit id=>exact s _ f q g b (j.trans k) i c h m (o.trans p)
   |goto l=>exact s _ f q g b (j.trans k) i c h m (o.trans p)
   |ret=>exact s _ f q g b (j.trans k) i c h m (o.trans p)
   |panic ch=>exact s _ f q g b (j.trans k) i c h m (o.trans p)
   |outgrown=>exact s _ f q g b (j.trans k) i c h m (o.trans p)
 exact wpIn_loop_rounds _ (Y _ D (Nat.lt_succ_self _) B z Bk.refl e0 a w O (Kp.refl _ _))
end
def v8{Rd:bE}(a:cellsOf B=some y)(c:VR Rd none B g):∃b,g.cells=b.toArray/\LR (VR Rd none) y b:=by
 cases B with
 |ag i=>
  simp only[cellsOf,apU]at a;subst a;obtain⟨b,rfl,h⟩:=c.e9;exact⟨b,rfl,h⟩
 |_=>
  simp only[cellsOf]at a;split at a
  ·rename_i e
   simp only[apU]at a;subst a;have:=c.jv e (λj k f l=>by cases f);exact⟨[g],by rw[nh this],LR.cons c LR.nil⟩
  ·cases a
def chunk(a:Nat):Nat->List AV->List (List AV)
 |0,_=>[]
 |n+1,b=>b.take a::chunk a n (b.drop a)
def CY(sz:Nat):∀(n:Nat) (a:List AV),a.length=n*sz->(chunk sz n a).flatten=a/\(chunk sz n a).length=n/\∀r∈chunk sz n a,r.length=sz
 |0,a,h=>by simp at h;subst h;simp[chunk]
 |n+1,a,h=>by
  have g:a.length=n*sz+sz:=by rw[h,aqv,arW]
  obtain⟨c,e,f⟩:=CY sz n (a.drop sz) (by simp;omega);refine⟨by rw[chunk,aqu,c,arK],by rw[chunk,aqf,e],λr b=>?_⟩;rw[chunk]at b;rcases aqj.1 b with rfl|b
  ·simp;omega
  ·exact f r b
def k5:aZ->List AV->Option (List (Nat×List AV))
 |[],[]=>some []
 |i::b,c::a=>match cellsOf c,k5 b a with
  |some x,some r=>some ((i,x)::r)
  |_,_=>none
 |_,_=>none
def zb{Rd:bE}:∀(e:aZ) (n:List AV) (b:bD) (h:List (Nat×List AV)),k5 e n=some h->LR (VR Rd none) n b->e.length=b.length->
 h.length=(e.zip b).length/\∀(j:Nat) p q,h[j]? =some p->(e.zip b)[j]? =some q->p.1=q.1/\LR (VR Rd none) p.2 q.2.cells.toList
 |[],[],b,h,a,g,_=>by simp only[k5,apU]at a;subst a;simp
 |i::e,c::o,b,h,a,g,v=>by
  cases b with
  |nil=>have:=g.1;simp at this
  |cons u b=>
   simp only[k5]at a;cases f:cellsOf c with
   |none=>simp[f]at a
   |some x=>
    cases l:k5 e o with
    |none=>simp[f,l]at a
    |some r=>
     simp only[f,l,apU]at a;subst a;obtain⟨s,t⟩:=zb e o b r l ⟨by simpa using g.1,λj c u f m=>g.2 (j+1) c u (by simpa using f) (by simpa using m)⟩ (by simpa using v);refine⟨by simpa using s,λj p q k a=>?_⟩;cases j with
     |zero=>
      simp at k a;subst k;subst a;obtain⟨y,m,w⟩:=v8 f (g.2 0 c u rfl rfl);exact⟨rfl,by simpa[m]using w⟩
     |succ j=>exact t j p q (by simpa using k) (by simpa using a)
 |[],_::_,_,_,a,_,_=>by simp[k5]at a
 |_::_,[],_,_,a,_,_=>by simp[k5]at a
section
variable{P:Program}{st:St}{d:Nat}{ty:TypeId}{pos:String}{af:dI}{gd:fE}{K:St->Prop}
def SR.froze{w c:World}{b:Hp}(e:SR G h u b w){us:bD}{t:TypeId}(n:Ext w c)(f:c.heap[w.heap.size]? =some (.cells us.toArray t (0,0))):
 ∀(j:Nat) a,us[j]? =some a->bO G h u b c w.heap.size j a:=λj a i=>by
 refine⟨?_,λm=>?_,λk ob l g=>?_⟩
 ·rw[aqV c w.heap.size j us.toArray t (0,0) f];simpa using i
 ·exact absurd (e.ext.hI (apT _)) m
 ·have:=(e.base _ _ _ l g).2;omega
def Ga.later{g:Bs}{w f:World}{b:bE}{e:Env}{a:Act}(h:Ga g b e st a w)(c:Ext w f):Ga g b e st a f:=
 ⟨h.n,h.d,(h.sr.later c).1,h.tr.mono (h.sr.later c).2⟩
def k6(w:World)(t e:TypeId)(b:Nat)(g:Array (Nat×Value))(a:TypeInfo)(z:Value)
 (m:P.underlying t=some (.slice e)) (k:P.info? e=some a) (n:a.zero=some z) (o:b*a.size<=16777216):
 ∃j:eb,j.size=b*a.size/\∀c,Instr.fill (λi=>some (i*a.size,a.size)) j g.toList=some c->
 (Instr.buildSlice t b g).run P w=.ok (.slice (some ⟨w.heap.size,0,none⟩) b b) (w.alloc (.cells c e)):=by
 have l:¬b*a.size>2^24:=by omega
 by_cases f:b*a.size=0
 ·refine⟨#[],by simp[f],λc h=>?_⟩
  have e0:Array.range 0= #[]:=Array.range_zero';simp only[Instr.buildSlice,ap6,aqi m,ap7,cG w k,l,aqN,f,aqs];simp[h,newRow,f,e0,newObj,Sem.run]
 ·refine⟨(Array.range (b*a.size)).map (z.cells[· % z.cells.size]!),by simp,λc h=>?_⟩
  exact run_buildSlice w t e b g c a z m k n l f h
def SS.buildSlice{t E:TypeId}{len g N:Nat}{parts:CI}{h':Hp}{aS cs:List AV}{qs:List (Nat×List AV)}(ht:FA P t=some (E,g,N,s))
 (hl:ni st.h (parts.toList.map λp=>st.ev p.2)=some (h',aS)) (hq:k5 (parts.toList.map (·.1)) aS=some qs) (H:gv (λi=>some (i*g,g)) (List.replicate (len*g) .un) qs=some cs)
 (z:cs.all AV.one=true) (V:len*g<=16777216) (a3:0<g) (X:d<st.n) (S:K ⟨st.n,(d,.sl true g (chunk g len cs))::st.t,h'⟩):SS P ⟨some d,.buildSlice t len parts,ty,pos,af,gd⟩ st K:=by
 intro B r e a w next Q h hn
 obtain⟨i,zv,n,O,R,h5,rfl,_,_⟩:=cT ht;have U:LR (VR (bO B r e st.h w) (some e)) (parts.toList.map λp=>st.ev p.2) (parts.toList.map λp=>a.eval p.2):=by
  refine⟨by simp,λj c u z n=>?_⟩;rw[aqd]at z n;obtain⟨x,o,rfl⟩:=aqo.1 z;rw[o]at n;simp at n;subst n;exact h.ev x.2
 obtain⟨q,l,D⟩:=y_ _ _ _ _ _ _ h.sr U hl;have C:=h.cM l;obtain⟨p1,p2⟩:=zb _ _ _ _ hq D (by simp);obtain⟨G,W,a4⟩:=k6 (P:=P) w t E len (parts.map λ(i,x)=>(i,a.eval x)) i zv n O R V;have a2:LR (VR (bO B r q h' w) none) (List.replicate (len*i.size) .un) G.toList:=by
  refine⟨by simp[W],λj c u f hu=>?_⟩;rw[asn]at f;split at f
  ·simp at f;subst f;exact .un
  ·cases f
 obtain⟨b,I,J⟩:=jw (place:=λj=>some (j*i.size,i.size)) qs _ _ cs G a2 p1 p2 H;have a5:(parts.toList.map (·.1)).zip (parts.toList.map λp=>a.eval p.2)=(parts.map λ(i,x)=>(i,a.eval x)).toList:=by
  rw[arv,List.zip_map']
 rw[a5]at I;have a0:cs.length=len*i.size:=by
  have o:=J.1;have:∀(A:List (Nat×List AV)) (c y:List AV),gv (λj=>some (j*i.size,i.size)) c A=some y->y.length=c.length:=by
   intro A
   induction A with
   |nil=>intro c y m;simp only[gv,apU]at m;rw[m]
   |cons p A ih=>
    intro c y m;obtain⟨k,xs⟩:=p;simp only[gv]at m;split at m
    ·rw[ih _ _ m,k4]
    ·cases m
  rw[this _ _ _ H];simp
 obtain⟨M,F,k3⟩:=CY i.size len cs a0;have o:Ext w (w.alloc (.cells b E)):=(Ext.refl w).alloc _;have Z:=C.later o;have Y:=C.sr.froze (us:=b.toList) (t:=E) o (by simpa using WG w (.cells b E));refine eo (v:=.slice (some ⟨w.heap.size,0,none⟩) len len) (w':=w.alloc (.cells b E)) ?_ (hn _ S q _ _ (Z.put X ?_))
 ·simp only[execOp,ap6,a4 b I,ap7,ap8]
 ·have a1:len<=maxLen:=by
   unfold maxLen;have:len*1<=len*i.size:=arL _ a3;omega
  have L:LR (VR (bO B r q h' (w.alloc (.cells b E))) none) (chunk i.size len cs).flatten b.toList:=by
   rw[M];exact J.imp λ_ _ D=>D.mono (C.sr.later o).2
  have:=VR.sl (E:=some q) (Rd:=bO B r q h' (w.alloc (.cells b E))) (tight:=true) (a:=some ⟨w.heap.size,0,none⟩) (cap:=len) b.toList k3 (λc f=>by rw[M]at f;exact aqg.1 z c f) L.1 L.2 (by rw[F];exact apT _) a1 (λ_=>F.symm) (λ_=>⟨_,0,rfl,λj u hj=>by rw[aqq];exact Y j u hj⟩);rw[F]at this;exact this
def qJ(st:St)(a:Nat):iL->bU
 |none=>some a
 |some x=>match st.ev x with
  |.v (.int _ i)=>if 0<=i then some i.toNat else none
  |_=>none
def v_(a:Ga G h u st C I)(b:qJ st c (some A)=some v):∃k,C.eval A=.int k v:=by
 simp only[qJ]at b;split at b
 ·rename_i k i g
  split at b
  ·rename_i f
   simp only[apU]at b;subst b;have e:=a.ev A;rw[g]at e;exact⟨k,by rw[e.bN,ath f]⟩
  ·cases b
 ·cases b
def fa{i:TypeInfo}(u:P.underlying m=some (.slice R))(y:P.info? R=some i)(c:Option Addr)(n g l h:Nat)(a:bU)(b:Nat)(q o r:Option Value)(w:World)
 (z:(q=none/\l=0)\/∃k,q=some (.int k (l:Int))) (x:(o=none/\h=n)\/∃k,o=some (.int k (h:Int))) (A:(r=none/\b=g)\/((∃k,r=some (.int k (b:Int)))/\o≠none))
 (B:l<=h) (C:h<=n) (D:h<=b) (E:b<=g) (F:n<=g):
 (Instr.sliceAt m (.slice c n g) q o r).run P w=.ok (.slice (if b=l then c else c.map (·.add (l*i.size))) (h - l) (b - l)) w:=by
 have e:P.elem m=R:=by simp[Program.elem,u]
 have f:P.underlying m=some (.slice (P.elem m)):=by rw[e];exact u
 rw[run_sliceAt_slice w m _ q o r f];have j:=cG (P:=P) w y;rcases z with⟨rfl,rfl⟩|⟨s,rfl⟩<;>rcases x with⟨rfl,rfl⟩|⟨p,rfl⟩<;>rcases A with⟨rfl,rfl⟩|⟨⟨v,rfl⟩,t⟩
 ·rw[run_slice_all w m c h b f];simp[e,j,sliced]
 ·exact absurd rfl t
 ·rw[run_slice_h w m c n b f p h (by omega) (by omega)];simp[e,j,sliced]
 ·rw[run_slice_hm w m c n g f p v h b (by omega) (by omega) (by omega)];simp[e,j,sliced]
 ·rw[run_slice_l w m c h b f s l (by omega) (by omega)];simp[e,j,sliced]
 ·exact absurd rfl t
 ·rw[run_slice_lh w m c n b f s p l h (by omega) (by omega) (by omega)];simp[e,j,sliced]
 ·rw[run_slice_lhm w m c n g f s p v l h b (by omega) (by omega) (by omega) (by omega)];simp[e,j,sliced]
end
def k7{c:Nat}:∀(a:List (List AV)) (h:Nat),(∀r∈a,r.length=c)->(a.take h).flatten=a.flatten.take (h*c)
 |[],h,_=>by simp
 |r::a,0,_=>by simp
 |r::a,h+1,b=>by
  have e:=b r (by simp);rw[List.take_succ_cons,aqu,aqu,k7 a h (λx f=>b x (by simp[f])),aqv,arW,List.take_append];rw[aqt (l:=r) (by omega),e,Nat.add_sub_cancel]
def k8{c:Nat}:∀(a:List (List AV)) (h:Nat),(∀r∈a,r.length=c)->(a.drop h).flatten=a.flatten.drop (h*c)
 |[],h,_=>by simp
 |r::a,0,_=>by simp
 |r::a,h+1,b=>by
  have e:=b r (by simp);rw[List.drop_succ_cons,aqu,k8 a h (λx f=>b x (by simp[f])),aqv,arW,List.drop_append];rw[List.drop_of_length_le (l:=r) (by omega),e,Nat.add_sub_cancel,aqC]
def WJ{Rd:bE}{E E':Option Env}(M:VR Rd E (.sl F c N) g){l h:Nat}{m:bU}(O:l<=h)(Q:h<=N.length)(I:∀x,m=some x->h<=x/\x<=N.length):
 ∃i f,g=.slice i N.length f/\N.length<=f/\VR Rd E' (u9 F N c l h m) (.slice (if m.getD f=l then i else i.map (·.add (l*c))) (h - l) (m.getD f - l)):=by
 obtain⟨i,f,w,rfl,v,B,H,D,U,L,C⟩:=M.lW;refine⟨i,f,rfl,D,?_⟩;have S:h<=m.getD f/\m.getD f<=f:=by
  cases m with
  |none=>simp;omega
  |some x=>have:=I x rfl;simp;omega
 have y:((N.take h).drop l).flatten=(N.flatten.take (h*c)).drop (l*c):=by
  rw[k8 _ _ (λr q=>v r (ar_ q)),k7 _ _ v]
 have p:((N.take h).drop l).length=h - l:=by simp;omega
 have s:=(H.take (h*c)).drop (l*c);rw[<-y]at s;have:=VR.sl (E:=E') (Rd:=Rd) (tight:=u5 F N.length h m) (a:=if m.getD f=l then i else i.map (·.add (l*c))) (cap:=m.getD f - l) (rows:=(N.take h).drop l) (sz:=c) ((w.take (h*c)).drop (l*c))
  (λr q=>v r (ar_ (asN q))) (λe k=>by
   rw[y]at k;exact B e (ar_ (asN k))) s.1 s.2 (by rw[p];omega) (by omega) (λt=>?_) (λA=>?_)
 ·rw[p]at this
  exact this
 ·rw[p]
  cases m with
  |none=>
   simp only[u5,apS,asH]at t;have:=L t.1;simp only[Option.getD_none];omega
  |some x=>
   simp only[u5,asH]at t;simp only[Option.getD_some];omega
 ·have J:w≠[]:=by rintro rfl;simp at A
  obtain⟨b,o,rfl,k⟩:=C J;have R:l<h:=by
   rcases aso l h with z|z
   ·exact z
   ·have:l=h:=by omega
    subst this;have G:(List.drop (l*c) (List.take (l*c) w))=[]:=aqP (by rw[aqD];omega);exact absurd G A
  rw[apQ (by omega)];refine⟨b,o+l*c,by simp[aqz],λj u n=>?_⟩;rw[arb,aqw]at n;split at n
  ·have:=k _ u n
   rw[asG];exact this
  ·cases n
section
variable{P:Program}{st:St}{d:Nat}{ty:TypeId}{pos:String}{af:dI}{gd:fE}{K:St->Prop}
def mxA(st:St):iL->Option bU
 |none=>some none
 |some x=>(qJ st 0 (some x)).map some
def SS.slice{t E:TypeId}{p f n:iL}{h':Hp}{tt:Bool}{rows:List (List AV)}{l h:Nat}{m:bU}(R:FA P t=some (E,c,v,s))
 (J:hJ st.h (st.ev A)=some (h',.sl tt c rows)) (r:qJ st 0 p=some l) (q:qJ st rows.length f=some h) (o:mxA st n=some m) (M:n.isSome=true->f.isSome=true)
 (x:l<=h) (z:h<=rows.length) (B:∀A,m=some A->h<=A/\A<=rows.length) (H:d<st.n) (F:K ⟨st.n,(d,u9 tt rows c l h m)::st.t,h'⟩):
 SS P ⟨some d,.slice t A p f n,ty,pos,af,gd⟩ st K:=by
 intro Z W e a w next Q b N
 obtain⟨i,zv,p2,p3,p4,Y,rfl,_,_⟩:=cT R;obtain⟨u,V,S⟩:=nS b.sr (b.ev A) J;obtain⟨D,g,U,G,O⟩:=WJ (E':=some u) S (m:=m) x z B;have I:=b.cM V;refine eo ?_ (N _ F u _ _ (I.put H O));have C:h<=m.getD g/\m.getD g<=g:=by
  cases m with
  |none=>simp;omega
  |some A=>have:=B A rfl;simp;omega
 have:=fa (P:=P) p2 p3 D rows.length g l h none (m.getD g) (p.map a.eval) (f.map a.eval) (n.map a.eval) w
  (by
   cases p with
   |none=>simp[qJ]at r;exact .inl ⟨rfl,r.symm⟩
   |some y=>obtain⟨k,j⟩:=v_ b r;exact .inr ⟨k,by simp[j]⟩)
  (by
   cases f with
   |none=>simp[qJ]at q;exact .inl ⟨rfl,q.symm⟩
   |some y=>obtain⟨k,j⟩:=v_ b q;exact .inr ⟨k,by simp[j]⟩)
  (by
   cases n with
   |none=>simp[mxA]at o;subst o;exact .inl ⟨rfl,rfl⟩
   |some y=>
    simp only[mxA]at o;obtain⟨X,L,rfl⟩:=aqo.1 o;obtain⟨k,j⟩:=v_ b L;refine .inr ⟨⟨k,by simp[j]⟩,?_⟩;have:=M rfl;cases f with
    |none=>cases this
    |some y=>simp)
  x z C.1 C.2 G
 simp only[execOp,ap6,U,this,ap7,ap8]
def SS.make{t E:TypeId}{x y:Operand}{N O:IntKind}{n:Nat}(ht:FA P t=some (E,c,v,s))(hx:st.ev x=.v (.int N n))(B:st.ev y=.v (.int O n))
 (a4:v*n<=140737488355328) (I:n<=maxLen) (a6:s.all Value.oneCell'=true) (a3:s.all (λb=>(lq b).one)=true) (a0:0<c) (X:d<st.n)
 (S:K ⟨st.n,(d,.ow d)::cY d st.t,(d,some (.arr E c (List.replicate n (s.map lq)) true))::br d st.h⟩):SS P ⟨some d,.makeSlice t x y,ty,pos,af,gd⟩ st K:=by
 intro w0 R e a w next Q l hn
 obtain⟨i,g,p2,p3,p4,o,rfl,rfl,rfl⟩:=cT ht;have z:=l.ev x;rw[hx]at z;have z:=z.bN;have A:=l.ev y;rw[B]at A;have A:=A.bN;have J:=run_make (P:=P) w t E i g p2 p3 p4 N O n n (by omega) (asp _) (by
  have h:((i.bytes*n:Nat):Int)<=281474976710656:=by omega
  rwa[arM]at h) (by unfold maxLen at I;omega)
 simp only[ap2]at J;obtain⟨a1,U⟩:=l.sr.kill d;have a7:g.cells.toList.length=i.size:=by simpa using o
 have L:∀r∈List.replicate n (g.cells.toList.map lq),r.length=i.size:=λr hr=>by
  rw[auG hr];simp[o]
 have G:(List.replicate n (g.cells.toList.map lq)).length=n:=by simp
 have D:=ej L;rw[G]at D;have a_:∀(n j:Nat) f,(List.replicate n (g.cells.toList.map lq)).flatten[j]? =some f->∃b,g.cells.toList[j % i.size]? =some b/\f=lq b:=by
  intro n
  induction n with
  |zero=>intro j f h;simp at h
  |succ n ih=>
   intro j f h;rw[ark,aqu]at h;by_cases p:j<i.size
   ·rw[aqF (by simpa[o]using p),aqd]at h
    obtain⟨b,m,rfl⟩:=aqo.1 h;exact⟨b,by rw[asa p];exact m,rfl⟩
   ·rw[aq7 (by simp[o];omega)]at h
    have Y:(g.cells.toList.map lq).length=i.size:=by simpa using o
    rw[Y]at h;obtain⟨b,m,rfl⟩:=ih _ f h;refine⟨b,?_,rfl⟩;rw[<-m,atX (asq p)]
 have V:∀(j:Nat) u,(madeCells g.cells (n*i.size)).toList[j]? =some u->g.cells.toList[j % i.size]? =some u:=by
  intro j u h;simp only[madeCells,arv,aqd]at h;obtain⟨y,B,rfl⟩:=aqo.1 h;have a5:j<n*i.size:=by
   have:=(apV.1 B).1;simpa using this
  have a2:y=j:=by
   have:=(apV.1 B).2;simpa using this.symm
  subst a2;have Z:y % i.size<i.size:=asb _ a0;rw[o];have:y % i.size<g.cells.size:=by rw[o];exact Z
  simp[this]
 obtain⟨M,H⟩:=a1.H9 d E i.size n (rows:=List.replicate n (g.cells.toList.map lq)) (cur:=madeCells g.cells (n*i.size)) L (λf C=>by
  obtain⟨j,p,rfl⟩:=aqB C;obtain⟨b,m,W⟩:=a_ n j _ (ap0 p);rw[W];exact aqg.1 a3 b (ap_ m))
  ⟨by rw[D];simp[atY,D],λj f u C q=>by
   obtain⟨b,m,rfl⟩:=a_ n j f C;rw[aqw]at q;split at q
   ·have:=V j u q
    rw[m]at this;simp at this;subst this;exact CP b
   ·cases q⟩ (by rw[G];exact apT _) I (by rw[atY]) (d_ d st.h) (by have:=l.n.2;omega) (w.alloc (.cells (madeCells g.cells (n*i.size)) E)) rfl (l.sr.ext.alloc _)
 rw[G]at M H;refine eo (v:=.slice (some ⟨w.heap.size,0,none⟩) n n) (w':=w.alloc (.cells (madeCells g.cells (n*i.size)) E)) ?_ (hn _ S _ _ _ ⟨by simpa[Act.put]using l.n,l.d,M,TR.put ?_ (by rw[l.n.1];exact X) ?_⟩)
 ·simp only[execOp,ap6,z,A,J,ap7,ap8]
 ·exact(((l.tr.kill d).mono U).mono H).env d (dO d st.t) (λ_ F=>Env.bx F) (λ_ F=>Env.db F)
 ·have:=VR.ow (Rd:=bO w0 R (e.cK d (some w.heap.size) (.slice (some ⟨w.heap.size,0,none⟩) n n) 0) ((d,some (.arr E i.size (List.replicate n (g.cells.toList.map lq)) true))::br d st.h) (w.alloc (.cells (madeCells g.cells (n*i.size)) E))) (e:=e.cK d (some w.heap.size) (.slice (some ⟨w.heap.size,0,none⟩) n n) 0) (k:=d)
  rw[Env.dJ]at this;exact this
end
def k9(st:St)(p:AV)(n:Nat):Option (List AV):=
 match p with
 |.pt k o=>match a_ st.h k with
  |some (.box t a)=>if t≠CL/\o+n<=a.length then some ((a.drop o).take n)else none
  |_=>none
 |.pe k i e o=>match a_ st.h k with
  |some (.arr _ g f _)=>match f[i]? with
   |some r=>if o+n<=r.length/\g=e then some ((r.drop o).take n)else none
   |none=>none
  |some (.nr _ a)=>match a[i]? with
   |some c=>if e=1/\o=0/\n=1 then some [c]else none
   |none=>none
  |_=>none
 |.fp b=>if n<=b.length then some (b.take n)else none
 |_=>none
def WK{st:St}(h:k9 st B c=some y):BN st B c y:=by
 unfold k9 at h;split at h
 ·rename_i k o
  split at h
  ·rename_i t f e
   split at h
   ·rename_i b;simp only[apU]at h;exact⟨t,f,e,b.1,b.2,h.symm⟩
   ·cases h
  ·cases h
 ·rename_i k i m o
  split at h
  ·rename_i t n l wr e
   split at h
   ·rename_i r j
    split at h
    ·rename_i b
     obtain⟨b,rfl⟩:=b;simp only[apU]at h;exact .inl ⟨t,l,wr,r,e,j,b,h.symm⟩
    ·cases h
   ·cases h
  ·rename_i t f e
   split at h
   ·rename_i a g
    split at h
    ·rename_i b
     simp only[apU]at h;exact .inr ⟨t,f,a,e,g,b.1,b.2.1,b.2.2,h.symm⟩
    ·cases h
   ·cases h
  ·cases h
 ·rename_i f
  split at h
  ·rename_i b;simp only[apU]at h;exact⟨b,h.symm⟩
  ·cases h
 ·cases h
def Zc:Bool->List AV->Option AV
 |true,a=>some (.ag a)
 |false,[c]=>some c
 |false,_=>none
def wa(P:Program)(st:St)(p:AV)(t:TypeId):Option AV:=
 match Pn P t with
 |some (a,n)=>match k9 st p n with
  |some b=>Zc a b
  |none=>none
 |none=>none
def Kz{P:Program}{st:St}{p c:AV}(h:wa P st p m=some c):∃a n b,Pn P m=some (a,n)/\BN st p n b/\((a=true/\c=.ag b)\/(a=false/\b=[c])):=by
 unfold wa at h;split at h
 ·rename_i a n f
  split at h
  ·rename_i b e
   refine⟨a,n,b,f,WK e,?_⟩;unfold Zc at h;split at h
   ·simp only[apU]at h;exact .inl ⟨rfl,h.symm⟩
   ·simp only[apU]at h;subst h;exact .inr ⟨rfl,rfl⟩
   ·cases h
  ·cases h
 ·cases h
section
variable{P:Program}{st:St}{d:iN}{ty:TypeId}{pos:String}{af:dI}{gd:fE}{K:St->Prop}
def RS.wa(h:wa P st (st.ev A) m=some B):RS P ⟨d,.load m A,ty,pos,af,gd⟩ st B:=by
 obtain⟨e,n,f,a,b,c⟩:=Kz h;exact RS.load a b c
def CZ(P:Program)(st:St):List ResultVar->Option (List AV)
 |[]=>some []
 |.tmp i::e=>match CZ P st e with
  |some b=>some (bG st.t i::b)
  |none=>none
 |.cell a t::e=>match wa P st (bG st.t a) t,CZ P st e with
  |some c,some b=>some (c::b)
  |_,_=>none
def KA:List AV->AV
 |[c]=>c
 |a=>.tu a
def k_(b:eb)(r:ResultVar):Sem Value:=
 match r with
 |.tmp t=>pure (b.getD t undef)
 |.cell a t=>do loadVar t (<-asAddr (b.getD a undef))
def va(b:Func)(c:eb):results b c=(do
 let a<-b.results.mapM (k_ c)
 pure (if h:a.size=1 then a[0]else .tuple a)):=by
 unfold results;congr 1
def BP{B:Bs}{y:bE}{e:Env}{a:Act}{w:World}(h:Ga B y e st a w):∀(j:List ResultVar) (k:List AV),CZ P st j=some k->
 ∃g,(j.mapM (k_ a.tmps)).run P w=.ok g w/\LR (VR (bO B y e st.h w) (some e)) k g
 |[],k,f=>by
  simp only[CZ,apU]at f;subst f;exact⟨[],by simp,LR.nil⟩
 |.tmp i::j,k,f=>by
  simp only[CZ]at f;split at f
  ·rename_i r v
   simp only[apU]at f;subst f;obtain⟨g,m,l⟩:=BP h j r v;refine⟨_::g,?_,LR.cons (h.tr i) l⟩;rw[asP];simp only[k_,ap6,ap8,ap7,m]
  ·cases f
 |.cell x t::j,k,f=>by
  simp only[CZ]at f;split at f
  ·rename_i c r G v
   simp only[apU]at f;subst f;obtain⟨g,m,l⟩:=BP h j r v;obtain⟨I,n,J,C,D,E⟩:=Kz G;obtain⟨b,o,q,A,H,p,F⟩:=CQ h D (h.tr x);have z:=oQ (P:=P) C (b:=b) (o:=o) (us:=q) (w:=w) H F;rcases E with⟨s,rfl⟩|⟨s,rfl⟩
   ·refine⟨_::g,?_,LR.cons (.ag q p.1 p.2) l⟩
    rw[asP];simp only[k_,ap6,A,asAddr,ap8,ap7,z.1 s,m]
   ·obtain⟨u,rfl⟩:∃u,q=[u]:=by
     match q,p.1 with
     |[u],_=>exact⟨u,rfl⟩
    refine⟨_::g,?_,LR.cons (p.2 0 c u rfl rfl) l⟩;rw[asP];simp only[k_,ap6,A,asAddr,ap8,ap7,z.2 s u rfl,m]
  ·cases f
def anU(P:Program)(a:Func)(H:Hp)(r:AV)(x:Exit)(st:St):Prop:=
 (x=.normal\/x=.ret)/\∃c b,cn P st ⟨a.ntmps,c,H⟩/\CZ P ⟨a.ntmps,c,H⟩ a.results.toList=some b/\KA b=r
def qU:Nat->List AV->List (Nat×AV)
 |_,[]=>[]
 |i,c::a=>(i,c)::qU (i+1) a
def wb:∀(a:List AV) (k i:Nat),bG (qU k a) i=if k<=i then a.getD (i - k) .un else .un
 |[],k,i=>by simp[qU,bG]
 |c::a,k,i=>by
  simp only[qU,bG];by_cases b:i=k
  ·subst b;simp
  ·rw[apQ b,wb a (k+1) i]
   by_cases e:k+1<=i
   ·have:k<=i:=by omega
    simp only[e,this,aqs];rw[show i - k=(i - (k+1))+1 by omega];rfl
   ·have:¬k<=i:=by omega
    simp[e,this]
def Pu:Obj->Bool
 |.deferred _=>true
 |.loop _=>true
 |_=>false
def OR.keep{Rd:bE}{w v:World}{ob:Ob}(h:OR Rd u w c ob)(j:∀(b:Nat) o,w.heap[b]? =some o->Pu o=false->v.heap[b]? =some o):OR Rd u v c ob:=by
 cases ob with
 |box t A=>
  obtain⟨a,b,D,f,g,e⟩:=h;refine⟨a,b,D,f,?_,e⟩;rcases g with⟨a,h⟩|⟨a,y,C,B,i,seen,f,h,g⟩
  ·exact .inl ⟨a,j _ _ h rfl⟩
  ·exact .inr ⟨a,y,C,B,i,seen,f,j _ _ h rfl,g⟩
 |arr t G F wr=>
  obtain⟨a,f,g,e⟩:=h;refine⟨a,f,g,?_⟩;rcases e with e|⟨b,s,i,k,l,m,n,p,q,r,x⟩
  ·exact .inl e
  ·exact .inr ⟨b,s,i,k,l,m,n,j _ _ p rfl,q,r,x⟩
 |mp d E=>
  obtain⟨a,b,arr,z,f,g,e⟩:=h;exact⟨a,b,arr,z,f,j _ _ g rfl,e⟩
 |nr t A=>
  obtain⟨a,e⟩:=h;refine⟨a,?_⟩;rcases e with e|⟨b,s,i,k,l,m,n,p,q,r⟩
  ·exact .inl e
  ·exact .inr ⟨b,s,i,k,l,m,n,j _ _ p rfl,q,r⟩
def WL{w c:World}{p:Addr}(e:∀(b:Nat) o,w.heap[b]? =some o->Pu o=false->c.heap[b]? =some o)(h:w.cell? p=some g):c.cell? p=some g:=by
 unfold World.cell? at h⊢;cases a:w.heap[p.block]? with
 |none=>rw[a]at h;cases h
 |some o=>
  rw[a]at h;have:Pu o=false:=by cases o<;>first|rfl|(simp at h)
  rw[e _ _ a this];exact h
def KB{i o:Obj}(h:I.heap[c]? =some i)(j:Pu i=true):∀(b:Nat) a,I.heap[b]? =some a->Pu a=false->(I.putObj c o).heap[b]? =some a:=λb a f g=>by
 have k:b≠c:=λe=>by rw[e,h]at f;cases f;rw[j]at g;cases g
 rw[atZ k];exact f
def SR.putObj{a:Bs}{c:bE}{e:Env}{h:Hp}{w:World}(f:SR a c e h w){D:Nat}{n:Obj}(o:Obj)(s:w.heap[D]? =some n)(t:Pu n=true)(v:a.hI D):
 SR a c e h (w.putObj D o)/\∀b g u,bO a c e h w b g u->bO a c e h (w.putObj D o) b g u:=by
 have m:=KB (o:=o) s t;have l:∀b g u,bO a c e h w b g u->bO a c e h (w.putObj D o) b g u:=λb g u ⟨p,q,r⟩=>⟨WL m p,q,r⟩;refine⟨⟨f.ext.step rfl rfl rfl (by simp) λb i _=>atZ λe=>i (e▸v),f.jO,λk ob j=>((f.ob k ob j).mono l).keep m,λk ob b j i=>?_,f.inj,f.t_⟩,l⟩;have:=f.base k ob b j i;exact⟨this.1,by simpa using this.2⟩
def Ga.putObj{c:Bs}{f:bE}{e:Env}{st:St}{a:Act}{w:World}(b:Ga c f e st a w){D:Nat}{j:Obj}(o:Obj)(g:w.heap[D]? =some j)(h:Pu j=true)(i:c.hI D):Ga c f e st a (w.putObj D o):=
 ⟨b.n,b.d,(b.sr.putObj o g h i).1,b.tr.mono (b.sr.putObj o g h i).2⟩
def wc{h:Func}{k:eb}{R:Ending->World->Prop}(I:World->Prop)(i:∀w,I w->∃v,(results h k).run P w=.ok v w/\R (.returned v) w):∀(l:aZ) (w:World),l.Nodup->(∀D∈l,w.heap[D]? =some (.deferred (some [])))->I w->
 (∀w D,D∈l->I w->w.heap[D]? =some (.deferred (some []))->I (w.putObj D (.deferred none)))->LeavesInM Fence.wide 0 P h k R (l.map mark) .returning w
 |[],w,_,_,f,_=>i w f
 |D::l,w,g,c,f,j=>by
  refine⟨(by intro e;cases e),.inl ⟨D,w.putObj D (.deferred none),rfl,run_takeDeferred (c D (by simp)),?_⟩⟩;rw[aq2]at g;refine wc I i l _ g.2 (λa b=>?_) (j w D (by simp) f (c D (by simp))) λw a b=>j w a (by simp[b]);have m:a≠D:=λe=>g.1 (by rw[<-e];exact b);rw[atZ m];exact c a (by simp[b])
def Bw.intro{f:FuncId}{a:Func}{c:Code}{G:Hp}{m:List AV}{H:Hp}{r:AV}(hf:P.funcs[f]? =some a)(ah:(a.name== "runtime.NumGoroutine")=false)(hb:a.body=some c)(ap:m.length<=a.ntmps)(a6:a.ntmps<=1000000)
 (h:AC true P c ⟨a.ntmps,qU 0 m,G⟩ (anU P a H r)):Bw P f G m H r:=by
 refine⟨⟨a,hf,ah,by rw[hb];rfl⟩,λB Rd e w F q am=>atU.1 (callsIn_of_wp_marks (n:=0) hf hb trivial ?_)⟩;obtain⟨j,J⟩:∃j:Bs,j=⟨B.w,B.own,B.bS,B.sv,[]⟩:=⟨_,rfl⟩;have al:SR j Rd e G w:=by
  subst J;exact⟨⟨q.ext.os,q.ext.tape,q.ext.output,q.ext.size,q.ext.block,q.ext.drawn⟩,q.jO,q.ob,q.base,q.inj,q.t_⟩
 have a4:∀e h w,SR j Rd e h w->SR B Rd e h w:=by
  subst J;exactλe h w p=>⟨⟨p.ext.os,p.ext.tape,p.ext.output,p.ext.size,p.ext.block,p.ext.drawn⟩,p.jO,p.ob,p.base,p.inj,p.t_⟩
 have a5:∀e h w b o u,bO j Rd e h w b o u->bO B Rd e h w b o u:=by subst J;exactλ_ _ _ _ _ _ h=>h
 have W:LR (VR (bO j Rd e G w) (some e)) m F:=by subst J;exact am
 have N:j.df=[]:=by subst J;rfl
 have aa:Ga j Rd e ⟨a.ntmps,qU 0 m,G⟩ {tmps:=F.toArray++Array.replicate (a.ntmps - F.toArray.size) undef,defers:=[]} w:=by
  refine⟨⟨by simp[W.1];omega,a6⟩,by rw[N],al,λi=>?_⟩;rw[wb];simp only[aql,aqs,asQ];by_cases V:i<m.length
  ·have hc:m[i]? =some m[i]:=ap0 V
   obtain⟨u,hu,hr⟩:=W.get hc;have O:m.getD i .un=m[i]:=by simp[List.getD,hc]
   have y:(F.toArray++Array.replicate (a.ntmps - F.toArray.size) undef).getD i undef=u:=by
    have a0:i<F.length:=by rw[W.1];exact V
    simp[aq8,asR,a0];rw[ap0 a0]at hu;simpa using hu
   rw[O,y];exact hr
  ·have O:m.getD i .un=.un:=by simp[List.getD,aqE (asq V)]
   rw[O];exact .un
 refine h none j Rd _ _ w _ (λ_=>rfl) aa λx aq X w1 a1 S I t z a8 _=>?_;obtain⟨X,Y,A,ac,ai,rfl⟩:=X;obtain⟨y,L⟩:=ac w1 a1 I t z a8;obtain⟨ae,ad⟩:=S.df ⟨[],by rw[N];rfl,List.nodup_nil,by simp⟩;obtain⟨l,hl,ag,ab⟩:=ae;have a9:∀M:Act,M.tmps=t.tmps->M.defers=[]->Ga j Rd y ⟨a.ntmps,Y,H⟩ M z:=λM s Q=>⟨by rw[s];exact L.n,by rw[Q,N],S.sr _ _ _ L.sr,by rw[s];exact L.tr.mono λb o u U=>S.rd _ _ _ b o u U⟩;have aj:∀k,Ga j Rd y ⟨a.ntmps,Y,H⟩ {tmps:=t.tmps,defers:=[]} k->∃v,(results a t.tmps).run P k=.ok v k/\VR (bO j Rd y H k) (some y) (KA A) v:=by
  intro k C;obtain⟨E,ak,g⟩:=BP (P:=P) C _ _ ai;have hm:(a.results.mapM (k_ t.tmps)).run P k=.ok E.toArray k:=by
   rw[at0];simp only[asT,ak];rfl
  rw[va];simp only[ap6,hm,ap7,ap8];refine⟨_,rfl,?_⟩
  match A,E,g with
  |[],[],g=>exact .tu [] rfl (by simp)
  |[c],[u],g=>simpa[KA]using g.2 0 c u rfl rfl
  |c::Z::A,u::u2::E,g=>
   have:¬(u::u2::E).toArray.size=1:=by simp
   rw[dif_neg this];exact .tu _ g.1 g.2
  |[],u::E,g=>have:=g.1;simp at this
  |[c],[],g=>have:=g.1;simp at this
  |[c],u::u2::E,g=>have:=g.1;simp at this
  |c::Z::A,[],g=>have:=g.1;simp at this
  |c::Z::A,[u],g=>have:=g.1;simp at this
 have a7:LeavesInM Fence.wide 0 P a t.tmps (λx z=>∃v I,x=.returned v/\SR B Rd I H z/\VR (bO B Rd I H z) (some I) (KA A) v) t.defers .returning z:=by
  rw[L.d,hl];refine wc (λk=>Ga j Rd y ⟨a.ntmps,Y,H⟩ {tmps:=t.tmps,defers:=[]} k) (λk C=>?_) l z ag (λD R=>?_) (a9 _ rfl rfl) λk D R C a3=>?_
  ·obtain⟨v,an,ao⟩:=aj k C
   exact⟨v,an,v,y,rfl,a4 _ _ _ C.sr,ao.mono λb o u U=>a5 _ _ _ b o u U⟩
  ·obtain⟨s,Q⟩:=ab D R
   rw[L.sr.ext.block D s,Q]
  ·refine C.putObj _ a3 rfl (.inl ?_)
   rcases ad D (by rw[hl];exact ap4.2 ⟨D,R,rfl⟩)with s|s
   ·rw[N]at s;cases s
   ·exact s
 rcases X with rfl|rfl<;>exact a7
def cn.zc{t n:List (Nat×AV)}{h h2:Hp}(B:∀i,bG n i=bG t i\/bG n i=.un)(z:∀k,a_ h2 k=a_ h k\/a_ h2 k=none):cn P ⟨c,t,h⟩ ⟨c,n,h2⟩:=by
 intro v p e a w j;have l:∀k ob,a_ h2 k=some ob->a_ h k=some ob:=λk ob f=>by
  rcases z k with g|g
  ·rw[<-g];exact f
  ·rw[g]at f;cases f
 have q:∀b o u,bO v p e h w b o u->bO v p e h2 w b o u:=λb o u ⟨g,h2,x⟩=>⟨g,h2,λk ob f m=>x k ob (l k ob f) m⟩;refine⟨e,j.n,j.d,⟨j.sr.ext,j.sr.jO,λk ob f=>(j.sr.ob k ob (l k ob f)).mono q,λk ob b f m=>j.sr.base k ob b (l k ob f) m,λk r ob s b f A m y=>j.sr.inj k r ob s b (l k ob f) (l r s A) m y,j.sr.t_⟩,λi=>?_⟩;show VR _ _ (bG n i) _;rcases B i with g|g
 ·rw[g];exact(j.tr i).mono q
 ·rw[g];exact .un
def ub(t:List (Nat×AV)):aZ->List (Nat×AV)
 |[]=>[]
 |i::a=>(i,bG t i)::ub t a
def RM(h:Hp):aZ->Hp
 |[]=>[]
 |k::a=>(k,a_ h k)::RM h a
def cn.Pm(i:Nat){g:Hp}{c:AV}(m:jx st.h (bG st.t i)=some (g,c)):cn P st ⟨st.n,(i,c)::st.t,g⟩:=by
 intro p o e a w f;obtain⟨h,l,n⟩:=qR f.sr (f.tr i) m;have b:=f.cM l;refine⟨h,b.n,b.d,b.sr,λj=>?_⟩;simp only[bG];split
 ·rename_i k;subst k;exact n.cS
 ·exact b.tr j
def cn.same{n:Nat}{t b:List (Nat×AV)}{h a:Hp}(e:∀i,bG b i=bG t i)(c:∀k,a_ a k=a_ h k):cn P ⟨n,t,h⟩ ⟨n,b,a⟩:=.zc (λi=>.inl (e i)) (λk=>.inl (c k))
end
def swp(a b k:Nat):Nat:=if k=a then b else if k=b then a else k
def oT(a b k:Nat):swp a b (swp a b k)=k:=by
 unfold swp;by_cases e:k=a
 ·subst e
  by_cases c:b=k<;>simp[c]
 ·by_cases c:k=b
  ·subst c;simp[e]
  ·simp[e,c]
def RN(a b:Nat):∀i j,swp a b i=swp a b j->i=j:=λi j h=>by
 have:=ap5 (swp a b) h;rwa[oT,oT]at this
section
variable{P:Program}{st:St}
def cn.swap(x y:Nat)(H:x<4294967296)(I:y<4294967296):cn P st ⟨st.n,Kr (swp x y) st.t,ke (swp x y) st.h⟩:=by
 intro v q e a w l;let g:Env:=⟨λk=>e.bS (swp x y k),λk=>e.sv (swp x y k),λk=>e.cM (swp x y k)⟩;have s:∀j,g.bS (swp x y j)=e.bS j:=λj=>by simp[g,oT]
 have t:∀j,g.sv (swp x y j)=e.sv j:=λj=>by simp[g,oT]
 have E:∀j,g.cM (swp x y j)=e.cM j:=λj=>by simp[g,oT]
 have C:∀k,a_ (ke (swp x y) st.h) k=(a_ st.h (swp x y k)).map (Ob.ie (swp x y)):=λk=>by
  have:=Kt (swp x y) (RN x y) st.h (swp x y k);rwa[oT]at this
 have m:∀k ob,a_ (ke (swp x y) st.h) k=some ob->∃f,a_ st.h (swp x y k)=some f/\ob=f.ie (swp x y):=λk ob c=>by
  rw[C]at c;obtain⟨f,h,n⟩:=aqo.1 c;exact⟨f,h,n.symm⟩
 have r:∀b o u,bO v q e st.h w b o u->bO v q g (ke (swp x y) st.h) w b o u:=λb o u ⟨n,z,A⟩=>⟨n,z,λk ob c p=>by
  obtain⟨f,h,_⟩:=m k ob c;exact A _ f h p⟩
 refine⟨g,l.n,l.d,⟨l.sr.ext,l.sr.jO,λk ob c=>?_,λk ob b c p=>?_,λk F ob G b c D p B=>?_,λk c=>?_⟩,λi=>?_⟩
 ·obtain⟨f,h,rfl⟩:=m k ob c
  have:=((l.sr.ob _ f h).mono r).ie (e':=g) (swp x y) s t E;rwa[oT]at this
 ·obtain⟨f,h,rfl⟩:=m k ob c
  exact l.sr.base _ f b h p
 ·obtain⟨f,h,rfl⟩:=m k ob c
  obtain⟨J,n,rfl⟩:=m F G D;exact RN x y _ _ (l.sr.inj _ _ _ _ _ h n p B)
 ·have:swp x y k=k:=by unfold swp;rw[apQ (by omega),apQ (by omega)]
  simp only[g,this];exact l.sr.t_ k c
 ·show VR _ _ (bG (Kr (swp x y) st.t) i) _
  rw[Ks];exact((l.tr i).mono r).ie rfl (swp x y) s t
def cn.own(i k:Nat)(r:k<4294967296)(t:TypeId)(h:Nat)(f:bG st.t i=.sl true c [])(eW:i<st.n):cn P st ⟨st.n,(i,.ow k)::cY k st.t,(k,some (.arr t h [] true))::br k st.h⟩:=by
 intro x n e a w b;have m:=b.tr i;rw[f]at m;obtain⟨g,y,z,l,_,_,_,_,_,v,_⟩:=m.lW;have:=v rfl;simp only[aqI]at this l;subst this;obtain⟨s,o⟩:=b.sr.kill k;obtain⟨u,p⟩:=s.CN k t h g (d_ k st.h) r;refine⟨_,b.n,b.d,u,λj=>?_⟩;simp only[bG];split
 ·rename_i q
  subst q;rw[l];have:=VR.ow (Rd:=bO x n (e.cK k none (.slice g 0 0) 0) ((k,some (.arr t h [] true))::br k st.h) w) (e:=e.cK k none (.slice g 0 0) 0) (k:=k);rw[Env.dJ]at this;exact this
 ·exact((((b.tr.kill k).mono o).mono p).env k (dO k st.t) (λ_ f=>Env.bx f) (λ_ f=>Env.db f)) j
end
section
variable{P:Program}{st:St}{d:iN}{ty t t2:TypeId}{pos:String}{af:dI}{gd:fE}{x y:Operand}{k:IntKind}{a b:Int}
def RS.ahi{c:AV}(h:st.ev x=c):RS P ⟨d,.move x,ty,pos,af,gd⟩ st c:=h▸RS.move x
def RS.akz(c:st.ev A=.v (.bool true))(h:st.ev x=B):RS P ⟨d,.pick A x y,ty,pos,af,gd⟩ st B:=by
 have:=RS.pick (P:=P) (st:=st) (d:=d) (ty:=ty) (pos:=pos) (af:=af) (gd:=gd) A x y true c;simpa[h]using this
def RS.akA(c:st.ev A=.v (.bool false))(h:st.ev y=B):RS P ⟨d,.pick A x y,ty,pos,af,gd⟩ st B:=by
 have:=RS.pick (P:=P) (st:=st) (d:=d) (ty:=ty) (pos:=pos) (af:=af) (gd:=gd) A x y false c;simpa[h]using this
def RO(a b:Int):(a==b)=decide (a=b):=by
 by_cases h:a=b<;>simp[h]
def RP(a b:Int):(a !=b)=decide (¬a=b):=by
 by_cases h:a=b<;>simp[h]
def eJ(c:BinOp)(t:TypeId)(x y:Operand)(k e:IntKind)(a b:Int)(w:World):(eqGuard c t x y (.int k a) (.int e b)).run P w=.ok () w:=by
 cases c<;>simp[eqGuard]
def RS.bin{c:BinOp}{u v z:Value}(l:st.ev x=.v u)(m:st.ev y=.v v)(i:∀w,(eqGuard c t x y u v).run P w=.ok () w)(j:∀w,(binOp c t u v).run P w=.ok z w):RS P ⟨d,.binOp c t x y t2,ty,pos,af,gd⟩ st (.v z):=λp n e a w h=>by
 have f:=h.ev x;have g:=h.ev y;rw[l]at f;rw[m]at g;refine⟨z,.v,λo _=>?_⟩;simp only[execOp,f.bN,g.bN,ap6,i,j,ap7,ap8]
def RS.lss(c:st.ev x=.v (.int k a))(e:st.ev y=.v (.int k b)):RS P ⟨d,.binOp .lss t x y t2,ty,pos,af,gd⟩ st (.v (.bool (decide (a<b)))):=
 RS.bin c e (eJ _ _ _ _ _ _ _ _) λw=>by simp[binOp_lss]
def RS.leq(c:st.ev x=.v (.int k a))(e:st.ev y=.v (.int k b)):RS P ⟨d,.binOp .leq t x y t2,ty,pos,af,gd⟩ st (.v (.bool (decide (a<=b)))):=
 RS.bin c e (eJ _ _ _ _ _ _ _ _) λw=>by simp[binOp_leq]
def RS.gtr(c:st.ev x=.v (.int k a))(e:st.ev y=.v (.int k b)):RS P ⟨d,.binOp .gtr t x y t2,ty,pos,af,gd⟩ st (.v (.bool (decide (b<a)))):=
 RS.bin c e (eJ _ _ _ _ _ _ _ _) λw=>by simp[binOp_gtr]
def RS.geq(c:st.ev x=.v (.int k a))(e:st.ev y=.v (.int k b)):RS P ⟨d,.binOp .geq t x y t2,ty,pos,af,gd⟩ st (.v (.bool (decide (b<=a)))):=
 RS.bin c e (eJ _ _ _ _ _ _ _ _) λw=>by simp[binOp_geq]
def RS.eql(c:st.ev x=.v (.int k a))(e:st.ev y=.v (.int k b)):RS P ⟨d,.binOp .eql t x y t2,ty,pos,af,gd⟩ st (.v (.bool (decide (a=b)))):=
 RS.bin c e (eJ _ _ _ _ _ _ _ _) λw=>by simp only[binOp_eql,ap8,RO]
def RS.neq(c:st.ev x=.v (.int k a))(e:st.ev y=.v (.int k b)):RS P ⟨d,.binOp .neq t x y t2,ty,pos,af,gd⟩ st (.v (.bool (decide (¬a=b)))):=
 RS.bin c e (eJ _ _ _ _ _ _ _ _) λw=>by simp only[binOp_neq,ap8,RP]
def RS.add(c:st.ev x=.v (.int k a))(e:st.ev y=.v (.int k b)):RS P ⟨d,.binOp .add t x y t2,ty,pos,af,gd⟩ st (.v (.int k (k.wrap (a+b)))):=
 RS.bin c e (eJ _ _ _ _ _ _ _ _) λw=>by simp[binOp_add,Op.intArith]
def RS.sub(c:st.ev x=.v (.int k a))(e:st.ev y=.v (.int k b)):RS P ⟨d,.binOp .sub t x y t2,ty,pos,af,gd⟩ st (.v (.int k (k.wrap (a - b)))):=
 RS.bin c e (eJ _ _ _ _ _ _ _ _) λw=>by simp[binOp_sub,Op.intArith]
def RS.mul(c:st.ev x=.v (.int k a))(e:st.ev y=.v (.int k b)):RS P ⟨d,.binOp .mul t x y t2,ty,pos,af,gd⟩ st (.v (.int k (k.wrap (a*b)))):=
 RS.bin c e (eJ _ _ _ _ _ _ _ _) λw=>by simp[binOp_mul,Op.intArith]
def RS.rem(e:st.ev x=.v (.int k a))(f:st.ev y=.v (.int k b))(c:¬b=0):RS P ⟨d,.binOp .rem t x y t2,ty,pos,af,gd⟩ st (.v (.int k (a.tmod b))):=
 RS.bin e f (eJ _ _ _ _ _ _ _ _) λw=>by simp[binOp_rem,Op.intDiv,c]
def RS.quo(e:st.ev x=.v (.int k a))(f:st.ev y=.v (.int k b))(c:¬b=0):RS P ⟨d,.binOp .quo t x y t2,ty,pos,af,gd⟩ st (.v (.int k (k.wrap (a.tdiv b)))):=
 RS.bin e f (eJ _ _ _ _ _ _ _ _) λw=>by simp[binOp_quo,Op.intDiv,c]
def RS.not{b:Bool}(g:st.ev x=.v (.bool b)):RS P ⟨d,.unOp .not t x,ty,pos,af,gd⟩ st (.v (.bool (!b))):=λl i e a w h=>by
 have c:=h.ev x;rw[g]at c;refine⟨_,.v,λj _=>?_⟩;have f:=c.bN;simp only[execOp,f,unary_not,ap6,ap8,ap7]
def RS.anV{b c:Bool}(e:P.underlying t=some .bool)(f:st.ev x=.v (.bool b))(g:st.ev y=.v (.bool c)):RS P ⟨d,.binOp .eql t x y t2,ty,pos,af,gd⟩ st (.v (.bool (b==c))):=
 RS.bin f g (λw=>by simp[eqGuard]) λw=>run_eql_bool w t b c e
def RS.min2{p:iM}{m n:Int}(l:st.ev x=.v (.int k m))(o:st.ev y=.v (.int k n)):RS P ⟨d,.call ⟨.builtin .min, #[x,y],p⟩,ty,pos,af,gd⟩ st (.v (.int k (if n<m then n else m))):=λs q e a w h=>by
 have c:=h.ev x;have f:=h.ev y;rw[l]at c;rw[o]at f;refine⟨_,.v,λr _=>?_⟩;have g:=c.bN;have i:=f.bN;have j:(#[x,y]:fU).map a.eval= #[.int k m,.int k n]:=by simp only[asd,aqc,aqZ,g,i]
 simp only[execOp,resolve,j,ap6,ap8,ap7,invoke,builtin,Builtin.min_,asr,ass,Builtin.min2]
end
variable{S:Program}
structure En where
 d:bU
 c:AV
 os:Hp
 us:aZ
 fr:Nat->Bool
 al:Nat->Ob->Prop
def eW(k:Nat)(h:Hp):Bool:=h.any λp=>p.1==k
def C0(a:eW c K=false)(h':Hp):a_ (K++h') c=a_ h' c:=by
 rw[ep,apQ (by unfold eW at a;rw[a];simp)]
def F8(a:eW c K=true)(h':Hp):a_ (K++h') c=a_ K c:=by
 rw[ep,apR (by unfold eW at a;rw[a])]
def Ob.gp(p:Nat->Bool):Ob->Bool
 |.box _ a=>AV.lX p a
 |.arr .. =>true
 |.mp .. =>true
 |.nr _ a=>AV.lX p a
def oU(p:Nat->Bool)(h:Hp):Bool:=h.all λq=> !p q.1 && (match q.2 with|some ob=>ob.gp p|none=>true)
def RQ(p:Nat->Bool)(h:Hp):Bool:=h.all λq=>(match q.2 with|some ob=>ob.gp p|none=>true)
def zd(p:Nat->Bool)(t:List (Nat×AV)):Bool:=t.all λq=>q.2.gp p
def C1{p:Nat->Bool}:∀{t:List (Nat×AV)},zd p t=true->∀i,(bG t i).gp p=true
 |[],_,i=>rfl
 |(j,c)::t,h,i=>by
  simp only[zd,aqY,apS]at h;simp only[bG];split
  ·exact h.1
  ·exact C1 (by simpa[zd]using h.2) i
def KD{p:Nat->Bool}:∀{h:Hp},RQ p h=true->∀k ob,a_ h k=some ob->ob.gp p=true
 |[],_,k,ob,h=>by simp[a_]at h
 |(j,o)::t,h,k,ob,a=>by
  simp only[RQ,aqY,apS]at h;by_cases b:k=j
  ·subst b
   rw[bf]at a;subst a;exact h.1
  ·rw[bc b]at a
   exact KD (by simpa[RQ]using h.2) k ob a
def jz:bU->AV->List (Nat×AV)->List (Nat×AV)
 |some d,c,t=>(d,c)::t
 |none,_,t=>t
def By(t:List (Nat×AV)):List En->List (Nat×AV)
 |[]=>t
 |u::a=>By (jz u.d u.c t) a
def zf(h:Hp):List En->Hp
 |[]=>h
 |u::a=>zf (u.os++h) a
def ae2(a:aZ)(o:Oper):Nat:=o.after.toList.foldl (λm e=>if Region.binds .any e then m|||(2^e.on)|||a.getD e.on 0 else m) 0
def Zd:aZ->bp->aZ
 |a,[]=>a
 |a,o::l=>Zd (a++[ae2 a o]) l
def ee(l:bp)(j i:Nat):Bool:=((Zd [] l).getD j 0).testBit i
def oV(l:bp)(S:Nat->Bool):Prop:=∀(j:Nat) o,l[j]? =some o->S j=true->∀e∈o.after,Region.binds .any e=true->S e.on=true
def Ze(h:(ae2 Y D).testBit c=true):∃e∈D.after,Region.binds .any e=true/\(e.on=c\/(Y.getD e.on 0).testBit c=true):=by
 have j:∀(d:List Edge) (m:Nat),(d.foldl (λm e=>if Region.binds .any e then m|||(2^e.on)|||Y.getD e.on 0 else m) m).testBit c=true->m.testBit c=true\/∃e∈d,Region.binds .any e=true/\(e.on=c\/(Y.getD e.on 0).testBit c=true):=by
  intro d
  induction d with
  |nil=>intro m h;exact .inl h
  |cons e d i=>
   intro m h;rw[List.foldl_cons]at h;rcases i _ h with a|⟨g,f,b⟩
   ·split at a
    ·rename_i b
     simp only[Nat.testBit_or,aqO]at a;rcases a with(a|a)|a
     ·exact .inl a
     ·rw[Nat.testBit_two_pow]at a
      exact .inr ⟨e,by simp,b,.inl (by simpa using a)⟩
     ·exact .inr ⟨e,by simp,b,.inr a⟩
    ·exact .inl a
   ·exact .inr ⟨g,by simp[f],b⟩
 rcases j _ _ h with a|⟨e,f,b⟩
 ·simp at a
 ·exact⟨e,by simpa using f,b⟩
def fb{S:Nat->Bool}(m:oV Z S):∀(j i:Nat),ee Z j i=true->S j=true->S i=true:=by
 have u:∀(l2 c:bp) (a:aZ),Z=c++l2->a.length=c.length->(∀j i,(a.getD j 0).testBit i=true->S j=true->S i=true)->∀j i,((Zd a l2).getD j 0).testBit i=true->S j=true->S i=true:=by
  intro l2
  induction l2 with
  |nil=>intro c a _ _ h;exact h
  |cons o l2 t=>
   intro c a k l h;refine t (c++[o]) _ (by simp[k]) (by simp[l]) λj i b g=>?_;by_cases r:j<a.length
   ·simp only[List.getD,aqF r]at b
    exact h j i b g
   ·by_cases q:j=a.length
    ·subst q
     simp[List.getD]at b;obtain⟨e,p,n,d⟩:=Ze b;have s:Z[a.length]? =some o:=by rw[k,l];simp
     have f:=m _ o s g e p n;rcases d with rfl|d
     ·exact f
     ·exact h _ i d f
    ·have:(a++[ae2 a o]).getD j 0=0:=by
      simp[List.getD,aqE (show(a++[ae2 a o]).length<=j by simp;omega)]
     rw[this]at b;simp at b
 exactλj i=>u Z [] [] rfl rfl (λj i h=>by simp at h) j i
def Zf(l:bp)(j x:Nat):Bool:=(List.range l.length).all λi=>match l[i]? with
 |some o=>o.dst !=some x||Nat.beq i j||ee l i j
 |none=>true
structure Kn(l:bp)(mB:St)(done:List En)(o:Oper)(u:En)(st:St):Prop where
 n:st.n=mB.n
 t0:∀x,(l.all λo=>o.dst !=some x)=true->bG st.t x=bG mB.t x
 t1:∀x,Zf l done.length x=true->bG st.t x=bG mB.t x
 ts:∀e∈o.after,Region.binds .any e=true->∀v d,done[e.on]? =some v->v.d=some d->bG st.t d=v.c
 h:∀k,u.us.contains k=true->a_ st.h k=a_ (zf mB.h done) k\/∃ob,a_ st.h k=some ob/\u.al k ob
 ft:∀x,(bG st.t x).gp u.fr=true
 fh:∀k ob,a_ st.h k=some ob->ob.gp u.fr=true
 fk:∀k,u.fr k=true->a_ st.h k=none
def DS(P:Program)(l:bp)(a:St)(done:List En)(o:Oper)(u:En):Prop:=
 ∀st,Kn l a done o u st->GS P l.toArray o st (λs=>s=⟨st.n,jz u.d u.c st.t,u.os++st.h⟩)
def ah5(v u:En):Prop:=
 v.os.all (λp=> !eW p.1 u.os && !u.us.contains p.1)=true/\∀k,eW k u.os=true->v.us.contains k=true->∃ob,a_ u.os k=some ob/\v.al k ob
def KE(l:bp)(i j:Nat)(v u:En):Prop:=ah5 v u\/ee l j i=true
def Zg(l:bp)(i j:Nat)(v u:En):Prop:=
 (v.c.gp u.fr=true/\oU u.fr v.os=true)/\((u.c.gp v.fr=true/\oU v.fr u.os=true)\/ee l j i=true)
def ae3(l:bp)(u:En)(j:Nat):Nat->List En->Prop
 |_,[]=>True
 |i,v::done=>KE l i j v u/\Zg l i j v u/\ae3 l u j (i+1) done
def KF{l:bp}{u:En}{j:Nat}:∀{a:Nat} {done:List En},ae3 l u j a done->∀(i:Nat) v,done[i]? =some v->KE l (a+i) j v u/\Zg l (a+i) j v u
 |a,[],_,i,v,h=>by simp at h
 |a,x::done,b,i,v,h=>by
  cases i with
  |zero=>simp at h;subst h;exact⟨b.1,b.2.1⟩
  |succ i=>
   have:=KF b.2.2 i v (by simpa using h);rw[show a+(i+1)=a+1+i by omega];exact this
def Ak:bp->Bool
 |[]=>true
 |o::l=>(match o.dst with|some d=>l.all λp=>p.dst !=some d|none=>true) && Ak l
def gR:∀{l:bp},Ak l=true->∀(i j:Nat) o p d,l[i]? =some o->l[j]? =some p->o.dst=some d->p.dst=some d->i=j
 |[],_,i,j,o,p,d,h,_,_,_=>by simp at h
 |x::l,c,i,j,o,p,d,a,b,e,f=>by
  simp only[Ak,apS]at c;have m:∀(k:Nat) y,l[k]? =some y->x.dst=some d->y.dst≠some d:=λk y n q r=>by
   have g:=c.1;simp only[q]at g;have:=aqg.1 g y (ap_ n);simp[r]at this
  cases i with
  |zero=>
   simp at a;subst a;cases j with
   |zero=>rfl
   |succ j=>exact absurd f (m j p (by simpa using b) e)
  |succ i=>
   cases j with
   |zero=>simp at b;subst b;exact absurd e (m i o (by simpa using a) f)
   |succ j=>rw[gR c.2 i j o p d (by simpa using a) (by simpa using b) e f]
structure Ia(P:Program)(l:bp)(mB:St)(pl:List En):Prop where
 len:pl.length=l.length
 step:∀(j:Nat) o u,l[j]? =some o->pl[j]? =some u->o.dst=u.d/\DS P l mB (pl.take j) o u
 fit:∀(i j:Nat) v u,i<j->pl[i]? =some v->pl[j]? =some u->KE l i j v u/\Zg l i j v u
 KG:∀(j:Nat) u,pl[j]? =some u->zd u.fr mB.t=true/\oU u.fr mB.h=true
 inj:Ak l=true
 back:∀(j:Nat) o,l[j]? =some o->∀e∈o.after,Region.binds .any e=true->e.on<j
structure KI(l:bp)(mB:St)(pl:List En):Prop where
 len:pl.length=l.length
 dst:∀(j:Nat) o u,l[j]? =some o->pl[j]? =some u->o.dst=u.d
 fit:∀(i j:Nat) v u,i<j->pl[i]? =some v->pl[j]? =some u->KE l i j v u/\Zg l i j v u
 KG:∀(j:Nat) u,pl[j]? =some u->zd u.fr mB.t=true/\oU u.fr mB.h=true
 inj:Ak l=true
 back:∀(j:Nat) o,l[j]? =some o->∀e∈o.after,Region.binds .any e=true->e.on<j
def Ia.w{a:List En}(h:Ia S Z X a):KI Z X a:=⟨h.len,λj o u b c=>(h.step j o u b c).1,h.fit,h.KG,h.inj,h.back⟩
structure Inv(mB:St)(pl:List En)(S:Nat->Bool)(st:St):Prop where
 n:st.n=mB.n
 t0:∀x,(∀i u,pl[i]? =some u->S i=true->u.d≠some x)->bG st.t x=bG mB.t x
 ts:∀(i:Nat) u d,pl[i]? =some u->S i=true->u.d=some d->bG st.t d=u.c
 h0:∀k,(∀(i:Nat) u,pl[i]? =some u->S i=true->eW k u.os=false)->a_ st.h k=a_ mB.h k
 hs:∀k (i:Nat) u,pl[i]? =some u->S i=true->eW k u.os=true->(∀(i':Nat) u',i<i'->pl[i']? =some u'->S i'=true->eW k u'.os=false)->a_ st.h k=a_ u.os k
def oW{p:Nat->Bool}:∀{h:Hp} {k:Nat},oU p h=true->p k=true->eW k h=false
 |[],k,_,_=>rfl
 |(j,o)::h,k,a,b=>by
  simp only[oU,aqY,apS]at a;simp only[eW,arI,arU];refine⟨?_,oW (h:=h) (by simpa[oU]using a.2) b⟩;have:p j=false:=by simpa using a.1.1
  simp;rintro rfl;rw[b]at this;cases this
def C2{p:Nat->Bool}(a:oU p K=true){ob:Ob}(b:a_ K c=some ob):ob.gp p=true:=by
 refine KD (p:=p) (h:=K) ?_ c ob b;simp only[oU,aqg,apS]at a;simp only[RQ,aqg];exactλq d=>(a q d).2
def ny:∀{h:Hp} {k:Nat},eW k h=false->a_ h k=none
 |[],_,_=>rfl
 |(j,o)::h,k,a=>by
  simp only[eW,arI,arU]at a;have:¬k=j:=λb=>by have:=a.1;simp[b]at this
  simp only[a_,this,aqN];exact ny a.2
def Ib(p:Nat->Prop):∀N,(∃i,i<N/\p i)->∃i,i<N/\p i/\∀a,i<a->a<N->¬p a
 |0,⟨i,h,_⟩=>by omega
 |N+1,⟨i,h,e⟩=>by
  by_cases b:p N
  ·exact⟨N,by omega,b,λa f d=>by omega⟩
  ·obtain⟨i,f,d,g⟩:=Ib p N ⟨i,by
    rcases aso i N with c|c
    ·exact c
    ·have:i=N:=by omega
     subst this;exact absurd e b,e⟩
   refine⟨i,by omega,d,λa j l=>?_⟩;by_cases k:a=N
   ·subst k;exact b
   ·exact g a j (by omega)
def sT:∀(a:List En) (h:Hp) (k:Nat),(∀u∈a,eW k u.os=false)->a_ (zf h a) k=a_ h k
 |[],h,k,_=>rfl
 |u::a,h,k,b=>by rw[zf,sT a _ k (λv c=>b v (by simp[c])),C0 (b u (by simp))]
def zg:∀(a:List En) (h:Hp) (k i:Nat) (u:En),a[i]? =some u->eW k u.os=true->(∀(c:Nat) d,i<c->a[c]? =some d->eW k d.os=false)->a_ (zf h a) k=a_ u.os k
 |[],h,k,i,u,b,_,_=>by simp at b
 |v::a,h,k,0,u,b,f,e=>by
  simp at b;subst b;rw[zf,sT a _ k (λw m=>by
   obtain⟨j,l,rfl⟩:=aqB m;exact e (j+1) _ (by omega) (by simp[ap0 l])),F8 f]
 |v::a,h,k,i+1,u,b,f,e=>by
  rw[zf];exact zg a _ k i u (by simpa using b) f λc d n g=>e (c+1) d (by omega) (by simpa using g)
def iX:bG (jz H B J) c=if H=some c then B else bG J c:=by
 cases H with
 |none=>simp[jz]
 |some H=>
  simp only[jz,bG];by_cases h:c=H
  ·subst h;simp
  ·have:¬H=c:=λe=>h e.symm
   simp[h,this]
def zh:∀(a:List En) (t:List (Nat×AV)) (x:Nat),(∀u∈a,u.d≠some x)->bG (By t a) x=bG t x
 |[],t,x,_=>rfl
 |u::a,t,x,b=>by rw[By,zh a _ x (λv c=>b v (by simp[c])),iX,apQ (b u (by simp))]
def F9:∀(a:List En) (t:List (Nat×AV)) (x i:Nat) (u:En),a[i]? =some u->u.d=some x->(∀(c:Nat) d,i<c->a[c]? =some d->d.d≠some x)->bG (By t a) x=u.c
 |[],t,x,i,u,b,_,_=>by simp at b
 |v::a,t,x,0,u,b,f,e=>by
  simp at b;subst b;rw[By,zh a _ x (λw k=>by
   obtain⟨j,h,rfl⟩:=aqB k;exact e (j+1) _ (by omega) (by simp[ap0 h])),iX,apR f]
 |v::a,t,x,i+1,u,b,f,e=>by
  rw[By];exact F9 a _ x i u (by simpa using b) f λc d l g=>e (c+1) d (by omega) (by simpa using g)
section
section
variable{P:Program}{l:bp}{mB:St}{pl:List En}{S:Nat->Bool}{st:St}
def l3(n:KI l mB pl)(q:Nat->En->Prop)(h:∃i u,pl[i]? =some u/\q i u):∃i u,pl[i]? =some u/\q i u/\∀a b,i<a->pl[a]? =some b->¬q a b:=by
 obtain⟨i,u,e,c⟩:=h;obtain⟨i,m,⟨u,k,c⟩,f⟩:=Ib (λi=>∃u,pl[i]? =some u/\q i u) pl.length ⟨i,(apV.1 e).1,u,e,c⟩;exact⟨i,u,k,c,λa b g d j=>f a g (apV.1 d).1 ⟨b,d,j⟩⟩
def Inv.kn(m:KI l mB pl)(n:Inv mB pl S st){u:En}(W:l[c]? =some D)(y:pl[c]? =some u)(Q:oV l S)(E:S c=false)(X:∀e∈D.after,Region.binds .any e=true->S e.on=true):
 Kn l mB (pl.take c) D u st:=by
 have a7:c<pl.length:=(apV.1 y).1;have a0:(pl.take c).length=c:=by simp;omega
 have a1:oV l (λi=>S i||i==c):=λi C B b e H A=>by
  by_cases w:i=c
  ·subst w
   obtain rfl:=apZ (W.symm.trans B);simp[X e H A]
  ·have:S i=true:=by simpa[w]using b
   simp[Q i C B this e H A]
 have a2:∀i,ee l c i=true->i≠c->S i=true:=λi A w=>by
  have:=fb a1 c i A (by simp);simpa[w]using this
 have L:∀i,S i=true->ee l i c=false:=λi b=>by
  cases h:ee l i c with
  |false=>rfl
  |true=>rw[fb Q i c h b]at E;cases E
 have M:∀(i:Nat) v,pl[i]? =some v->S i=true->v.c.gp u.fr=true/\oU u.fr v.os=true:=λi v a b=>by
  rcases arx i c with h|h|h
  ·exact(m.fit i c v u h a y).2.1
  ·subst h;rw[E]at b;cases b
  ·rcases(m.fit c i u v h y a).2.2 with f|f
   ·exact f
   ·rw[L i b]at f;cases f
 have R:∀(i:Nat) v,pl[i]? =some v->∃C,l[i]? =some C/\C.dst=v.d:=λi v a=>by
  have J:i<l.length:=by rw[<-m.len];exact(apV.1 a).1
  exact⟨l[i],ap0 J,m.dst i _ v (ap0 J) a⟩
 have a3:∀k,u.fr k=true->a_ st.h k=none:=λk r=>by
  rw[n.h0 k λi v a b=>oW (M i v a b).2 r];exact ny (oW (m.KG c u y).2 r)
 refine⟨n.n,λx K=>?_,λx K=>?_,λe H A v d a s=>?_,λk r=>?_,λx=>?_,λk ob r=>?_,a3⟩
 ·refine n.t0 x λi v a _ s=>?_
  obtain⟨C,B,N⟩:=R i v a;have:=aqg.1 K C (ap_ B);rw[N,s]at this;simp at this
 ·rw[a0]at K
  refine n.t0 x λi v a b s=>?_;obtain⟨C,B,N⟩:=R i v a;have J:i<l.length:=(apV.1 B).1;have:=aqg.1 K i (by simpa using J);simp only[B,N,s,L i b,Bool.or_false,aqO]at this;rcases this with h|h
  ·simp at h
  ·have:i=c:=by simpa using h
   subst this;rw[E]at b;cases b
 ·have I:=m.back c D W e H A
  rw[aqw,apR I]at a;exact n.ts e.on v d a (X e H A) s
 ·
  have Y:∀(i:Nat) v,pl[i]? =some v->eW k v.os=true->(i<c->S i=true)/\(S i=true->i<c\/∃ob,a_ v.os k=some ob/\u.al k ob):=λi v a j=>by
   obtain⟨p,a4,O⟩:=ary.1 j;have O:p.1=k:=by simpa using O
   refine⟨λI=>?_,λb=>?_⟩
   ·rcases(m.fit i c v u I a y).1 with f|f
    ·have:=aqg.1 f.1 p a4
     simp only[apS,O,r]at this;simp at this
    ·exact a2 i f (by omega)
   ·rcases arx i c with h|h|h
    ·exact .inl h
    ·subst h;rw[E]at b;cases b
    ·rcases(m.fit c i u v h y a).1 with f|f
     ·exact .inr (f.2 k j r)
     ·rw[L i b]at f;cases f
  by_cases U:∃i v,pl[i]? =some v/\(S i=true/\c<i/\eW k v.os=true)
  ·obtain⟨i,v,a,⟨b,a6,j⟩,F⟩:=l3 m (λi v=>S i=true/\c<i/\eW k v.os=true) U
   rcases(Y i v a j).2 b with h|⟨ob,f,q⟩
   ·omega
   ·exact .inr ⟨ob,(n.hs k i v a b j λz o G h4 h5=>by
     cases g:eW k o.os with
     |false=>rfl
     |true=>exact absurd ⟨h5,by omega,g⟩ (F z o G h4)).trans f,q⟩
  refine .inl ?_;have Z:∀(i:Nat) v,pl[i]? =some v->eW k v.os=true->S i=true->i<c:=λi v a j b=>by
   rcases arx i c with h|h|h
   ·exact h
   ·subst h;rw[E]at b;cases b
   ·exact absurd ⟨i,v,a,b,h,j⟩ U
  by_cases t:∃i v,pl[i]? =some v/\(i<c/\eW k v.os=true)
  ·obtain⟨i,v,a,⟨w,j⟩,F⟩:=l3 m (λi v=>i<c/\eW k v.os=true) t
   rw[n.hs k i v a ((Y i v a j).1 w) j λz o f q G=>?_]
   ·refine(zg _ _ k i v (by rw[aqw,apR w];exact a) j λz o f q=>?_).symm
    rw[aqw]at q;split at q
    ·rename_i I
     cases g:eW k o.os with
     |false=>rfl
     |true=>exact absurd ⟨I,g⟩ (F z o f q)
    ·cases q
   ·cases g:eW k o.os with
    |false=>rfl
    |true=>exact absurd ⟨Z z o q g G,g⟩ (F z o f q)
  ·rw[n.h0 k λi v a b=>?_,sT _ _ k λv a=>?_]
   ·obtain⟨i,V,rfl⟩:=aqB a
    have w:i<c:=by rw[a0]at V;exact V
    have a5:pl[i]? =some ((pl.take c)[i]):=by
     rw[List.getElem_take];exact ap0 (by omega)
    cases g:eW k ((pl.take c)[i]).os with
    |false=>rfl
    |true=>exact absurd ⟨i,_,a5,w,g⟩ t
   ·cases g:eW k v.os with
    |false=>rfl
    |true=>exact absurd ⟨i,v,a,Z i v a g b,g⟩ t
 ·by_cases t:∃(i:Nat) (v:En),pl[i]? =some v/\S i=true/\v.d=some x
  ·obtain⟨i,v,a,b,s⟩:=t
   rw[n.ts i v x a b s];exact(M i v a b).1
  ·rw[n.t0 x λi v a b s=>t ⟨i,v,a,b,s⟩]
   exact C1 (m.KG c u y).1 x
 ·by_cases t:∃i v,pl[i]? =some v/\(S i=true/\eW k v.os=true)
  ·obtain⟨i,v,a,⟨b,j⟩,F⟩:=l3 m (λi v=>S i=true/\eW k v.os=true) t
   rw[n.hs k i v a b j λz o f q G=>by
    cases g:eW k o.os with
    |false=>rfl
    |true=>exact absurd ⟨G,g⟩ (F z o f q)]at r
   exact C2 (M i v a b).2 r
  ·rw[n.h0 k λi v a b=>by
    cases g:eW k v.os with
    |false=>rfl
    |true=>exact absurd ⟨i,v,a,b,g⟩ t]at r
   exact C2 (m.KG c u y).2 r
def Inv.step(n:KI l mB pl)(j:Inv mB pl S st){u:En}(W:l[c]? =some D)(g:pl[c]? =some u)(L:oV l S)(C:S c=false):
 Inv mB pl (λi=>S i||i==c) ⟨st.n,jz u.d u.c st.t,u.os++st.h⟩:=by
 have M:∀i,S i=true->ee l i c=false:=λi b=>by
  cases h:ee l i c with
  |false=>rfl
  |true=>rw[fb L i c h b]at C;cases C
 have w:∀i,S i=true->(S i||i==c)=true:=λi h=>by simp[h]
 have z:∀(i:Nat) v,pl[i]? =some v->∃o,l[i]? =some o/\o.dst=v.d:=λi v a=>by
  have B:i<l.length:=by rw[<-n.len];exact(apV.1 a).1
  exact⟨l[i],ap0 B,n.dst i _ v (ap0 B) a⟩
 refine⟨j.n,λx I=>?_,λi v d a b t=>?_,λk E=>?_,λk i v a b m F=>?_⟩
 ·simp only[iX]
  rw[apQ (I c u g (by simp))];exact j.t0 x λi v a b=>I i v a (w i b)
 ·simp only[iX]
  by_cases f:i=c
  ·subst f
   obtain rfl:=apZ (g.symm.trans a);rw[apR t]
  ·have O:u.d≠some d:=λR=>by
    obtain⟨o,e,r⟩:=z i v a;obtain⟨U,s,K⟩:=z c u g;exact f (gR n.inj i c o U d e s (r.trans t) (K.trans R))
   rw[apQ O];exact j.ts i v d a (by simpa[f]using b) t
 ·show a_ (u.os++st.h) k=_
  rw[C0 (E c u g (by simp))];exact j.h0 k λi v a b=>E i v a (w i b)
 ·show a_ (u.os++st.h) k=_
  by_cases f:i=c
  ·subst f
   obtain rfl:=apZ (g.symm.trans a);exact F8 m _
  ·have H:S i=true:=by simpa[f]using b
   have N:eW k u.os=false:=by
    cases A:eW k u.os with
    |false=>rfl
    |true=>
     obtain⟨p,X,G⟩:=ary.1 m;have G:p.1=k:=by simpa using G
     obtain⟨q,Q,y⟩:=ary.1 A;have y:q.1=k:=by simpa using y
     rcases arx i c with h|h|h
     ·have:=F c u h g (by simp)
      rw[A]at this;cases this
     ·exact absurd h f
     ·rcases(n.fit c i u v h g a).1 with e|e
      ·have:=aqg.1 e.1 q Q
       simp only[apS,y,m]at this;simp at this
      ·rw[M i H]at e;cases e
   rw[C0 N];exact j.hs k i v a H m λJ V e r s=>F J V e r (w J s)
def Inv.fin(p:KI l mB pl)(f:Inv mB pl S st)(t:∀j,j<l.length->S j=true):(∀x,bG (By mB.t pl) x=bG st.t x)/\∀k,a_ (zf mB.h pl) k=a_ st.h k:=by
 have r:∀(i:Nat) v,pl[i]? =some v->S i=true:=λi v a=>t i (by rw[<-p.len];exact(apV.1 a).1);refine⟨λx=>?_,λk=>?_⟩
 ·by_cases d:∃(i:Nat) (v:En),pl[i]? =some v/\v.d=some x
  ·obtain⟨i,v,a,b,o⟩:=l3 p (λi v=>v.d=some x) d
   rw[F9 pl _ x i v a b o,f.ts i v x a (r i v a) b]
  ·rw[zh pl _ x λv a b=>by
    obtain⟨i,n,rfl⟩:=aqB a;exact d ⟨i,_,ap0 n,b⟩,f.t0 x λi v a _ b=>d ⟨i,v,a,b⟩]
 ·by_cases d:∃(i:Nat) (v:En),pl[i]? =some v/\eW k v.os=true
  ·obtain⟨i,v,a,b,o⟩:=l3 p (λi v=>eW k v.os=true) d
   have q:∀(e:Nat) c,i<e->pl[e]? =some c->eW k c.os=false:=λe c g h=>by
    cases m:eW k c.os with
    |false=>rfl
    |true=>exact absurd m (o e c g h)
   rw[zg pl _ k i v a b q,f.hs k i v a (r i v a) b λe c g h _=>q e c g h]
  ·have s:∀(i:Nat) v,pl[i]? =some v->eW k v.os=false:=λi v a=>by
    cases m:eW k v.os with
    |false=>rfl
    |true=>exact absurd ⟨i,v,a,m⟩ d
   rw[sT pl _ k λv a=>by
    obtain⟨i,n,rfl⟩:=aqB a;exact s i _ (ap0 n),f.h0 k λi v a _=>s i v a]
def Pv{K:St->Prop}(o:l[c]? =some D)(a:GS P l.toArray D st K){next:Act->World->Prop}
 (m:Ga G h u st C d) (n:∀f,K f->∀i e g,Ga G h i f e g->next e g):wpOp P l.toArray j c next C d:=by
 have:=a G h u C d next j m n
 unfold wpOp;have k:l.toArray[c]? =some D:=by simpa using o
 rw[k];simp only;split
 ·rename_i b;rw[apR b]at this;exact .inl this
 ·rename_i b;rw[apQ b]at this;exact this
def Ia.any(s:Ia P l mB pl){w0:Bs}{Rd0:bE}{Q:Exit->Act->World->Prop}(V:∀e a w,Ga w0 Rd0 e ⟨mB.n,By mB.t pl,zf mB.h pl⟩ a w->Q .normal a w):
 ∀(k:Nat) (c:Array Bool) (st:St) (e:Env) (a:Act) (w:World),c.size=l.length->oV l (λi=>c.getD i false)->(∀m,m=(c.toList.filter (·==false)).length->m=k)->Inv mB pl (λi=>c.getD i false) st->Ga w0 Rd0 e st a w->
 wpAny P .any l.toArray Q k c a w:=by
 intro k
 induction k with
 |zero=>
  intro c st e a w F x z u B;have M:∀j,j<l.length->c.getD j false=true:=λj g=>by
   have R:(c.toList.filter (·==false)).length=0:=z _ rfl;have f:c.toList.filter (·==false)=[]:=aqT R;have C:j<c.size:=by omega
   have:c[j]∈c.toList:=by simp
   have d:=auH.1 f _ this;have:c[j]=true:=by simpa using d
   simp[C,this]
  have K:=u.fin s.w M;refine⟨?_,?_⟩
  ·rw[arz]
   intro j g;obtain⟨f,o,v,_⟩:=ast.1 g;have E:j<l.length:=by
    have:=(aqx.1 v).1;simp at this;exact this
   have d:=M j E;rw[ati f]at d;cases d
  ·obtain⟨A,hg⟩:=(cn.same (P:=P) (n:=mB.n) K.1 K.2) w0 Rd0 e a w (by have:=B;rw[<-u.n];exact this)
   exact V A a w hg
 |succ k ih=>
  intro c st e a w F x z u B;have a9:∃j,j<l.length/\c.getD j false=false:=by
   have f:(c.toList.filter (·==false)).length=k+1:=z _ rfl;have d:c.toList.filter (·==false)≠[]:=λh=>by rw[h]at f;simp at f
   obtain⟨b,p⟩:=asU _ d;obtain⟨W,X⟩:=arN.1 p;obtain⟨j,g,a3⟩:=aqB W;refine⟨j,by rw[<-F];simp at g;exact g,?_⟩;have C:j<c.size:=by simp at g;exact g
   have:c[j]=b:=by simpa using a3
   have Y:b=false:=by simpa using X
   simp[C,this,Y]
  refine⟨λa8=>?_,λj g=>?_⟩
  ·
   exfalso;obtain⟨j,a1,a2⟩:=a9;have:∀j,j<l.length->c.getD j false=false->False:=by
    intro j
    induction j using Nat.strongRecOn with
    |_ j ae=>
     intro f d;have v:l[j]? =some l[j]:=ap0 f;by_cases t:∀e∈(l[j]).after,Region.binds .any e=true->c.getD e.on false=true
     ·have:j∈Region.ready .any l.toArray c:=ast.2 ⟨getD_in (by omega) d,l[j],by simp,t⟩
      rw[a8]at this;cases this
     ·simp only[auI]at t
      obtain⟨e,Z,p,a7⟩:=t;have y:=s.back j _ v e Z p;exact ae e.on y (by omega) (by simpa using a7)
   exact this j a1 a2
  ·obtain⟨f,o,v,t⟩:=ast.1 g
   have r:l[j]? =some o:=by simpa using v
   have E:j<l.length:=(apV.1 r).1;have a4:j<pl.length:=by rw[s.len];exact E
   have G:pl[j]? =some pl[j]:=ap0 a4;have D:c.getD j false=false:=ati f;have a5:=u.kn s.w r G x D t;refine Pv r ((s.step j o _ r G).2 st a5) B λaf ac A O w' a0=>?_;subst ac;have I:(λi=>(c.setIfInBounds j true).getD i false)=λi=>c.getD i false||i==j:=by
    funext i;by_cases q:i=j
    ·subst q
     simp[aq8,show i<c.size by omega]
    ·have d:¬j=i:=λh=>q h.symm
     simp[aq8,atI,d,q]
   refine ih _ _ A O w' (by simpa using F) ?_ ?_ ?_ a0
   ·rw[I]
    intro i oi N aa H J p;by_cases q:i=j
    ·subst q
     obtain rfl:=apZ (r.symm.trans N);simp[t H J p]
    ·have ab:c.getD i false=true:=by simpa[q]using aa
     have:=x i oi N ab H J p;simp[this]
   ·intro m a6
    have d:(c.toList.filter (·==false)).length=k+1:=z _ rfl;have U:∀(L:bq) (j:Nat),L[j]? =some false->((L.set j true).filter (·==false)).length+1=(L.filter (·==false)).length:=by
     intro L
     induction L with
     |nil=>intro j h;simp at h
     |cons b L ad=>
      intro j h;cases j with
      |zero=>simp at h;subst h;simp
      |succ j=>
       have:=ad j (by simpa using h);cases b<;>simp_all<;>omega
    have h4:=U c.toList j (by
     have y:j<c.size:=by omega
     have:c[j]=false:=by simpa[y]using D
     simp[y,this])
    rw[asA]at a6;omega
   ·rw[I]
    exact u.step s.w r G x D
def AC.anW{id:Nat}{t:Exit->St->Prop}(B:P.follows .mixedOrders=true)(E:Ia P l mB pl)(h:t .normal ⟨mB.n,By mB.t pl,zf mB.h pl⟩):AC F P (.region id l.toArray true) mB t:=by
 intro r n s e a w Q G v D;refine wpIn_region_any B (lE (λx c g q=>?_) _ _ _ _ (vZ (r:=r) (m:=n.df.length) (l0:=CU l) (a0:=a)
  (Q:=λx c g=>x=.normal/\c.defers.length<=n.df.length/\∃f,Ga n s f ⟨mB.n,By mB.t pl,zf mB.h pl⟩ c g) (λx c g q=>⟨q.1,q.2.1⟩)
  (λi o y d z=>F6 z (l:=l) (ap_ (by simpa using y))) _ _ a _ (by rw[v.d];exact apT _) (Kp.refl _ _)
  (E.any (w0:=n) (Rd0:=s) (λf c g p=>⟨rfl,by rw[p.d];exact apT _,f,p⟩) _ _ mB e a _ (by simp) ?_ ?_ ?_ (v.later ((Ext.refl w).drewN 1)))))
 ·obtain⟨⟨rfl,_,f,p⟩,A⟩:=q
  exact D .normal _ h n s Bk.refl f c g p (by simpa[wrL]using A)
 ·intro j o y b
  have b:(Array.replicate l.toArray.size false).getD j false=true:=b;rw[asV]at b;cases b
 ·intro m C
  rw[C];simp
 ·exact⟨rfl,λx _=>rfl,λi u d _ b=>(by
   have b:(Array.replicate l.toArray.size false).getD i false=true:=b;rw[asV]at b;cases b),λk _=>rfl,λk i u _ b=>(by
   have b:(Array.replicate l.toArray.size false).getD i false=true:=b;rw[asV]at b;cases b)⟩
