/- part 1 -/
import Derived.Test.YtmdbmigbihboaaaGreatDoorRows
import Derived.WalkKit
import Derived.Lib.Hide
import Derived.Deep.Draws
import Derived.Laws.CopyOwn
import Derived.WalkSmall
import Derived.MapKept
import Derived.ChangeKeysEq
import Derived.Deep.Quiet
import Derived.LoopNIn
import Derived.OrdersIn
import Derived.TacticsIn
import Derived.RangeFuncCalls
import Derived.RangeFuncRecord
import Derived.Scope
import Derived.LoopN
import Derived.Great.BuildSlice
import Derived.Laws.MakeOwn
import Derived.StillTail
import Derived.Carry
import Derived.Lib.SliceRun
import Derived.Lib.AppendZeros
import Derived.Laws.IdiomRangeMap
import Derived.RangeFuncMany
import Derived.Laws.StructEq
import Derived.KernelRfl
import Derived.ProofKit
import Derived.OpenShut
import Derived.Lib.LaidTab
import Derived.Deep.DeepHandedRow
import Derived.SizedLaws
import Derived.Test.YtmdbmigbihboaaaGreatDoorCards
import Derived.Test.YtmdbmigbihboaaaGreatDoorTie
import Derived.Test.YtmdbmigbihboaaaGreatDoorProg
import Derived.WalkSpells
import Derived.WalkLawsBesides
import Derived.Recover
import Derived.DefersIn
import Derived.Shelf.SlSortCmp.NoneTotal
import Derived.Shelf.SortM.SortNone
import Derived.Shelf.SortM.Plain
import Derived.Lib.QuietBelow
import Derived.Shelf.Spec.SlicesGrow
import Derived.Laws.BitsLemmas
import Derived.Defers
set_option linter.all false
noncomputable section
open Go Go.RowKit
set_option maxRecDepth 100000
namespace Go.Proofs.YtmdbmigbihboaaaGreatDoor
def aqH:=@decide_eq_true
def aqK:=@decide_eq_false
def aqf:=@Nat.le_refl
def aq9:=@Nat.le_trans
def at7:=@Nat.le_succ_of_le
def asg:=@Go.World.block_lt_of_cell?
def aqU:=@Array.getElem?_eq_some_iff
def ash:=@Bool.or_eq_false_iff
def aqh:=@List.getElem?_eq_some_iff
def aqm:=@List.getElem?_eq_getElem
def aq2:=@List.getElem?_append_left
def arx:=@List.getElem?_append_right
def aqT:=@List.getElem?_take
def arD:=@List.getElem?_drop
def arf:=@List.getElem?_set
def aqR:=@List.flatten_cons
def aqy:=@List.length_append
def aqC:=@List.length_cons
def aqS:=@Nat.add_mul
def arn:=@List.all_cons
def aqe:=@Bool.and_eq_true
def aq_:=@if_false
def asG:=@Go.World.cell?_of_block
def ary:=@Array.getD_eq_getD_getElem?
def aua:=@Array.getElem?_setIfInBounds
def aqc:=@if_neg
def asq:=@Array.getElem?_push
def aqd:=@if_pos
def aql:=@Option.some.inj
def aqI:=@Nat.zero_le
def aub:=@Go.heap_setCell_other
def aqr:=@congrArg
def auc:=@Go.heap_setCell_same
def as3:=@List.mem_or_eq_of_mem_set
def as4:=@Array.toList_setIfInBounds
def arE:=@List.length_set
def atA:=@List.take_set
def aqN:=@Nat.zero_add
def arj:=@Go.cell_of_row
def asi:=@Nat.lt_of_lt_of_le
def atB:=@Bool.and_true
def arv:=@Bool.not_false
def aqA:=@List.getElem?_map
def aqL:=@Option.map_eq_some_iff
def aqn:=@List.length_map
def aqY:=@List.getElem_of_mem
def asH:=@List.getElem_mem
def aqF:=@Go.run_underlying
def as5:=@Go.setRow_other
def aqp:=@List.mem_append
def arQ:=@List.flatten_append
def arh:=@List.eq_nil_of_length_eq_zero
def aqV:=@List.append_nil
def aq5:=@List.length_nil
def asK:=@Nat.mul_pos
def aqW:=@Go.Addr.add_lit
def asr:=@Array.size_append
def ar3:=@List.size_toArray
def arR:=@Go.size_zeroCells
def ass:=@Array.toList_append
def as6:=@List.take_left
def aud:=@Go.grownCap_le_maxLen
def aqZ:=@List.nil_append
def arF:=@Go.grownCap_ge
def aue:=@Go.run_append_nil
def ast:=@Go.run_append_grow
def asu:=@Nat.mul_le_mul_right
def auf:=@Go.setRow_heap
def arJ:=@List.getElem?_toArray
def aqJ:=@List.append_assoc
def ar4:=@List.length_drop
def asv:=@Array.length_toList
def as7:=@List.take_left'
def as8:=@Go.growslice_fits
def aq0:=@List.length_take
def aqw:=@List.mem_of_getElem?
def asM:=@Nat.zero_mul
def aq3:=@List.drop_zero
def asj:=@Nat.one_mul
def aug:=@Nat.add_comm
def au1:=@List.drop_length_add_append
def asl:=@List.drop_drop
def asw:=@List.take_take
def aqs:=@Go.Sem.run_bind
def aqt:=@Go.Result.andThen_ok
def aqg:=@Option.some.injEq
def aqx:=@Prod.mk.injEq
def aqP:=@if_true
def aqu:=@Go.Sem.run_pure
def arG:=@Nat.add_zero
def arS:=@Bool.false_eq_true
def as9:=@Nat.add_assoc
def au2:=@List.extract_eq_drop_take'
def asx:=@Option.bind_eq_some_iff
def asN:=@Go.frozen_of_row
def aqD:=@List.all_eq_true
def arT:=@Array.toList_map
def auh:=@Array.toArray_toList
def arw:=@List.cons_append
def ar5:=@List.any_cons
def aui:=@Bool.false_or
def aqj:=@Nat.eq_of_beq_eq_true
def aqM:=@Nat.beq_refl
def ari:=@List.mem_cons_of_mem
def arq:=@Bool.not_eq_true'
def aqG:=@List.mem_cons
def aqq:=@List.mem_map
def aqz:=@List.map_cons
def aqk:=@Nat.le_of_ble_eq_true
def ara:=@Bool.or_eq_true
def arU:=@Option.isSome_iff_exists
def as_:=@beq_iff_eq
def aq6:=@List.map_congr_left
def ar6:=@List.map_id
def auj:=@Go.callsIn_wide
def ata:=@List.mem_cons_self
def auk:=@List.mem_append_left
def aul:=@List.mem_append_right
def atC:=@Array.getElem?_setIfInBounds_ne
def atD:=@Array.toList_inj
def aqX:=@Array.getElem?_eq_getElem
def atb:=@Go.wpList_step
def ar7:=@List.take_append_drop
def asP:=@List.getElem?_replicate
def ar8:=@Nat.mul_le_mul_left
def atE:=@Int.toNat_of_nonneg
def aqQ:=@List.take_of_length_le
def asy:=@List.mem_of_mem_take
def atc:=@List.mem_of_mem_drop
def asQ:=@Nat.lt_or_ge
def arb:=@List.drop_eq_nil_of_le
def asR:=@Int.le_refl
def ar9:=@Int.natCast_mul
def aqo:=@Int.toNat_natCast
def au3:=@List.eq_of_mem_replicate
def arK:=@List.replicate_succ
def asz:=@Nat.mod_eq_of_lt
def aum:=@Nat.mod_eq_sub_mod
def asT:=@Nat.le_of_not_lt
def asA:=@Nat.mod_lt
def aun:=@Go.size_madeCells
def atd:=@List.mapM_cons
def auo:=@Go.World.putObj_heap_other
def ars:=@List.nodup_cons
def ate:=@Nat.sub_zero
def atf:=@Array.getElem?_append
def aq1:=@List.getElem?_eq_none
def aup:=@Array.mapM_eq_mapM_toList
def atg:=@Go.Sem.run_map
def asC:=@List.map_toArray
def aro:=@List.map_nil
def asU:=@List.foldlM_cons
def asV:=@List.foldlM_nil
def arV:=@Nat.lt_trichotomy
def arW:=@List.any_eq_true
def au4:=@List.filter_eq_nil_iff
def arX:=@List.eq_nil_iff_forall_not_mem
def asX:=@Go.mem_ready
def atF:=@Go.getD_both
def ath:=@List.exists_mem_of_ne_nil
def ar_:=@List.mem_filter
def au5:=@Classical.not_forall
def ati:=@Go.getD_replicate_false
def art:=@Option.map_some
def aru:=@List.map_map
def auq:=@Go.MapKept.run_checkKey
def ard:=@decide_eq_true_eq
def asm:=@Go.run_part_plain
def aur:=@Go.run_equalIn_int
def atG:=@not_false_eq_true
def aqi:=@cond_false
def au6:=@Array.mem_of_getElem?
def atH:=@List.pairwise_iff_getElem
def aus:=@Go.MapKept.stamped_iff
def ark:=@Go.MapKept.run_getObj_map
def arL:=@Go.MapKept.run_setObj_map
def aut:=@Go.MapKept.stamped_modify
def atj:=@Array.getElem_toList
def atI:=@Array.getElem_modify
def arY:=@Array.getElem?_modify
def atJ:=@List.getElem?_set_ne
def atk:=@Go.MapKept.heap_set
def auu:=@Go.Lib.run_eql_slice_nil
def au7:=@Go.run_sliceAt_array_all
def asa:=@Option.map_none
def au8:=@Go.run_sliceAt_array_h
def au9:=@Go.run_sliceAt_array_l
def au_:=@Go.run_sliceAt_array_lh
def arH:=@Nat.mul_one
def aqB:=@List.mem_singleton
def aq4:=@List.map_append
def atl:=@Prod.ext
def aqE:=@cond_true
def asb:=@List.map_set
def asD:=@List.map_take
def asY:=@List.map_drop
def aq7:=@of_decide_eq_true
def ava:=@List.getElem?_set_self
def asn:=@of_decide_eq_false
def auv:=@List.all_append
def atm:=@List.set_cons_zero
def avb:=@List.set_append_left
def auw:=@List.set_cons_succ
def atM:=@List.set_append_right
def asd:=@List.set_getElem_self
def auy:=@List.set_set
def atN:=@beq_self_eq_true
def arM:=@List.singleton_append
def aso:=@List.length_singleton
def atO:=@Nat.sub_self
def auz:=@Nat.ble_eq_true_of_le
def ase:=@List.mem_flatten
def auA:=@List.map_replicate
def atn:=@List.length_replicate
def atP:=@List.contains_eq_mem
def arz:=@List.mem_flatMap
def arZ:=@List.ext_getElem?
def arC:=@Array.getElem?_toList
def avc:=@Array.findIdx?_eq_some_iff_getElem
def arB:=@Nat.min_eq_left
def arN:=@List.headD_cons
def asZ:=@false_iff
def avd:=@List.take_append_of_le_length
def auB:=@Option.bind_some
def auC:=@Bool.not_eq_false'
def ato:=@List.getElem?_range
def arl:=@List.cons.injEq
def ar0:=@List.length_pos_iff
def arO:=@Nat.mul_le_mul
def arI:=@List.getD_eq_getElem?_getD
def auD:=@Go.Proofs.Tryz.func97
def asf:=@Go.wp_seq
def auE:=@Go.calls_of_wp_defers
def ar1:=@List.pairwise_cons
def auF:=@List.mergeSort_perm
def ave:=@List.pairwise_mergeSort
def as0:=@getElem!_pos
def asE:=@Array.getElem?_append_left
def atp:=@Nat.eq_zero_or_pos
def auG:=@Nat.div_eq_of_lt
def auH:=@Go.Proofs.AnyF.slices_SortFunc_none
def auI:=@List.length_eq_zero_iff
def atq:=@List.pairwise_map
def avf:=@List.length_mergeSort
def arp:=@decide_true
def aqv:=@Bool.not_true
def atQ:=@List.exists_cons_of_ne_nil
def atr:=@Go.Proofs.Tryz.func116
def atS:=@Go.Proofs.Tryz.func48
def atT:=@List.getElem?_cons_zero
def ar2:=@List.getElem?_cons_succ
def avg:=@Bool.and_eq_true_iff
def arP:=@decide_eq_decide
def aq8:=@List.nodup_append
def ats:=@List.perm_append_comm
def atU:=@List.getElem?_of_mem
def att:=@Nat.le_total
def atu:=@Nat.min_eq_right
def auJ:=@Nat.max_eq_right
def auK:=@Nat.max_eq_left
def atv:=@List.forall_mem_cons
def atV:=@List.getLast?_cons_cons
def asp:=@List.filter_cons
def auL:=@Nat.lt_irrefl
def atW:=@List.Perm.refl
def avh:=@List.perm_cons_erase
def auM:=@List.cons.inj
def avi:=@Nat.div_lt_of_lt_mul
def atX:=@Nat.le_div_iff_mul_le
def avj:=@List.eq_nil_or_concat
def avk:=@List.concat_eq_append
def aqO:=@List.flatMap_cons
def are:=@List.mem_range
def auN:=@List.nodup_range
def asF:=@List.filter_append
def auO:=@List.eraseIdx_sublist
def atY:=@List.flatMap_nil
def atZ:=@List.range_succ
def auP:=@Bool.and_self
def atw:=@List.length_filter_le
def avl:=@List.pairwise_append
def auQ:=@Int.fdiv_eq_ediv_of_nonneg
def avm:=@List.getElem?_zipWith
def as1:=@List.countP_append
def auR:=@List.countP_singleton
def avn:=@List.countP_pos_iff
def avo:=@List.getElem?_eq_none_iff
def as2:=@List.sum_cons
def at0:=@List.flatMap_def
def avp:=@List.nodup_iff_pairwise_ne
def auS:=@List.perm_append_comm_assoc
def atx:=@List.countP_le_length
def auT:=@List.flatMap_append
def at1:=@List.filter_eq_self
def auU:=@Go.IntKind.wrap_u32
def at2:=@List.sum_append
def aty:=@Nat.add_one_mul
def avq:=@Nat.le_mul_of_pos_right
def avr:=@Nat.div_mul_le_self
def auV:=@Nat.pow_le_pow_right
def at3:=@Int.ofNat_eq_natCast
def auW:=@List.contains_iff_mem
def at4:=@List.mem_filterMap
def auX:=@List.range'_succ
def atz:=@Option.ne_none_iff_exists'
def avt:=@List.range_eq_range'
def auY:=@Go.wp_scope_straight
def avu:=@Nat.testBit_lt_two_pow
def at5:=@Go.Proofs.Tryz.func3
def at6:=@Go.Proofs.Tryz.params3
def auZ:=@Go.ChangeShapes.trodAll_cons
def au0:=@Go.DataW.weights_mem_each
def dV{α:Type}{p:Prop} [Decidable p]{x y:α}(h:p):cond (decide p) x y=x:=by
 rw[aqH h];rfl
def dN{α:Type}{p:Prop} [Decidable p]{x y:α}(h:¬p):cond (decide p) x y=y:=by
 rw[aqK h];rfl
def yV{α:Type}{p:Prop} [Decidable p]{x y:α}(h:p):cond (!(decide p)) x y=y:=by
 rw[aqH h];rfl
def cnF{α:Type}{p:Prop} [Decidable p]{x y:α}(h:¬p):cond (!(decide p)) x y=x:=by
 rw[aqK h];rfl
variable{d:Nat}{J g:World}
structure Ext(w w':World):Prop where
 FF:Below w.heap.size w w'
 drawn:w.drawn<=w'.drawn
def Ext.os{a b:World}(h:Ext a b):b.os=a.os:=h.FF.os
def Ext.tape{a b:World}(h:Ext a b):b.tape=a.tape:=h.FF.tape
def Ext.output{a b:World}(h:Ext a b):b.output=a.output:=h.FF.output
def Ext.refl(w:World):Ext w w:=⟨Below.refl _ _,aqf _⟩
def Ext.size{a b:World}(h:Ext a b):a.heap.size<=b.heap.size:=Below.size h.FF
def Ext.trans{a b c:World}(h:Ext a b)(k:Ext b c):Ext a c:=⟨Below.trans h.FF (Below.mono k.FF h.size),aq9 h.drawn k.drawn⟩
def Ext.drew{a w:World}(h:Ext a w):Ext a w.drew:=⟨Below.drew h.FF,at7 h.drawn⟩
def Ext.drewN(h:Ext g J)(n:Nat):Ext g (J.drewN n):=⟨⟨h.os,h.tape,h.output,h.size,h.FF.block⟩,aq9 h.drawn (Nat.le_add_right _ _)⟩
def Ext.alloc{a w:World}(h:Ext a w)(o:Obj):Ext a (w.alloc o):=⟨Below.alloc h.FF h.size o,h.drawn⟩
def Ext.bJ(h:Ext g J):∀k,k<g.heap.size->J.heap[k]? =g.heap[k]? :=h.FF.block
def Ext.cell{a b:World}(h:Ext a b){p:Addr}{v:Value}(c:a.cell? p=some v):b.cell? p=some v:=
 (Below.cell h.FF (asg a p c)).trans c
def Ext.block(h:Ext g J){o:Obj}(a:g.heap[d]? =some o):J.heap[d]? =some o:=
 (h.bJ d (aqU.1 a).1).trans a
def Y2:List (Nat×IntKind×List Int):=[(0,(.u8,[0,1,28,2,29,14,24,3,30,22,20,15,25,17,4,8,31,27,13,23,21,19,16,7,26,12,18,6,11,5,10,9]))]
def gNr:List (Nat×Nat):=[(40,29),(42,38),(42,41),(73,62)]
def aha:List Nat:=[]
variable{h:List Value}{O:Type}{j:Value}
inductive AV where
 |un
 |v (x:Value)
 |sl (tight:Bool) (sz:Nat) (rows:List (List AV))
 |ow (k:Nat)
 |pt (k o:Nat)
 |pe (k i sz o:Nat)
 |sw (k l n sz:Nat)
 |fp (cs:List AV)
 |ag (cs:List AV)
 |tu (vs:List AV)
 |mp (k:Nat)
 |cl (fn:Fn) (fs cs:List AV)
instance:Inhabited AV:=⟨.un⟩
structure Env where
 bJ:Nat->Option Nat
 sv:Nat->Value
 cA:Nat->Nat
def LR{α:Type}(R:α->Value->Prop)(cs:List α)(us:List Value):Prop:=us.length=cs.length/\∀(j:Nat) c u,cs[j]? =some c->us[j]? =some u->R c u
def AV.one:AV->Bool
 |.v x=>x.oneCell'
 |.sl .. |.ow _|.pt .. |.pe .. |.sw .. |.fp _|.mp _|.cl .. =>true
 |.un|.ag _|.tu _=>false
inductive VR(Rd:Nat->Nat->Value->Prop):Option Env->AV->Value->Prop
 |un {E x}:VR Rd E .un x
 |v {E x}:VR Rd E (.v x) x
 |sl {E tight sz rows a cap} (us:List Value) (hw:∀r∈rows,r.length=sz) (h1c:∀c∈rows.flatten,c.one=true) (hl:us.length=rows.flatten.length)
  (hc:∀(j:Nat) c u,rows.flatten[j]? =some c->us[j]? =some u->VR Rd none c u) (h1:rows.length<=cap) (h2:cap<=maxLen) (h3:tight=true->cap=rows.length)
  (ha:us≠[]->∃b o,a=some ⟨b,o,none⟩/\∀(j:Nat) u,us[j]? =some u->Rd b (o+j) u):VR Rd E (.sl tight sz rows) (.slice a rows.length cap)
 |ow {e k}:VR Rd (some e) (.ow k) (e.sv k)
 |pt {e k o b} (h:e.bJ k=some b):VR Rd (some e) (.pt k o) (.pointer (some ⟨b,o,none⟩))
 |pe {e k i sz o b} (h:e.bJ k=some b):VR Rd (some e) (.pe k i sz o) (.pointer (some ⟨b,i*sz+o,none⟩))
 |sw {e k l n sz b o cap} (h:e.bJ k=some b) (ho:0<n->o=l*sz) (h1:n<=cap) (h2:cap<=maxLen):VR Rd (some e) (.sw k l n sz) (.slice (some ⟨b,o,none⟩) n cap)
 |fp {E cs b o} (us:List Value) (hl:us.length=cs.length) (hc:∀(j:Nat) c u,cs[j]? =some c->us[j]? =some u->VR Rd none c u)
  (ha:∀(j:Nat) u,us[j]? =some u->Rd b (o+j) u):VR Rd E (.fp cs) (.pointer (some ⟨b,o,none⟩))
 |ag {E cs} (us:List Value) (hl:us.length=cs.length) (hc:∀(j:Nat) c u,cs[j]? =some c->us[j]? =some u->VR Rd E c u):VR Rd E (.ag cs) (.agg us.toArray)
 |tu {E cs} (us:List Value) (hl:us.length=cs.length) (hc:∀(j:Nat) c u,cs[j]? =some c->us[j]? =some u->VR Rd E c u):VR Rd E (.tu cs) (.tuple us.toArray)
 |mp {e k b} (h:e.bJ k=some b):VR Rd (some e) (.mp k) (.map (some b))
 |cl {E fn fs cs} (us xs:List Value) (hl:us.length=fs.length) (hl2:xs.length=cs.length) (hc:∀(j:Nat) c u,fs[j]? =some c->us[j]? =some u->VR Rd E c u)
  (hc2:∀(j:Nat) c u,cs[j]? =some c->xs[j]? =some u->VR Rd E c u):VR Rd E (.cl fn fs cs) (.func fn us.toArray xs.toArray)
def VR.mono{Rd n:Nat->Nat->Value->Prop}(p:∀b o j,Rd b o j->n b o j){E:Option Env}{c:AV}(h:VR Rd E c j):VR n E c j:=by
 induction h with
 |un=>exact .un
 |v=>exact .v
 |sl f w q d g i k r l e=>
  refine .sl f w q d e i k r λt=>?_;obtain⟨b,o,rfl,h⟩:=l t;exact⟨b,o,rfl,λa j m=>p _ _ _ (h a j m)⟩
 |ow=>exact .ow
 |pt h=>exact .pt h
 |pe h=>exact .pe h
 |sw h u i k=>exact .sw h u i k
 |fp f d g l e=>exact .fp f d e λa j m=>p _ _ _ (l a j m)
 |ag f d g e=>exact .ag f d e
 |tu f d g e=>exact .tu f d e
 |mp h=>exact .mp h
 |cl f y d s g z e x=>exact .cl f y d s e x
def VR.cJ{Rd:Nat->Nat->Value->Prop}{E:Option Env}{c:AV}(h:VR Rd none c j):VR Rd E c j:=by
 generalize e:(none:Option Env)=s at h
 induction h with
 |un=>exact .un
 |v=>exact .v
 |sl g p m f k b d n l i=>exact .sl g p m f k b d n l
 |ow=>cases e
 |pt h=>cases e
 |pe h=>cases e
 |sw h=>cases e
 |fp g f k l i=>exact .fp g f k l
 |ag g f k i=>exact .ag g f λa c j b d=>i a c j b d e
 |tu g f k i=>exact .tu g f λa c j b d=>i a c j b d e
 |mp h=>cases e
 |cl g r f o k t i q=>exact .cl g r f o (λa c j b d=>i a c j b d e) (λa c j b d=>q a c j b d e)
mutual
def AV.fQ(k:Nat):AV->Bool
 |.ow j=>j==k
 |.pt j _=>j==k
 |.pe j _ _ _=>j==k
 |.sw j _ _ _=>j==k
 |.mp j=>j==k
 |.ag cs=>AV.lR k cs
 |.tu cs=>AV.lR k cs
 |.cl _ fs cs=>AV.lR k fs||AV.lR k cs
 |_=>false
def AV.lR(k:Nat):List AV->Bool
 |[]=>false
 |c::cs=>AV.fQ k c||AV.lR k cs
end
def eO{k:Nat}:∀{a:List AV},AV.lR k a=false->∀(j:Nat) c,a[j]? =some c->c.fQ k=false
 |[],_,j,c,h=>by simp at h
 |x::a,b,j,c,h=>by
  simp only[AV.lR,ash]at b;cases j with
  |zero=>simp at h;exact h▸b.1
  |succ j=>exact eO b.2 j c (by simpa using h)
def VR.env{Rd:Nat->Nat->Value->Prop}{E:Option Env}{c:AV}(h:VR Rd E c j){e e':Env}(m:E=some e)(k:Nat)(g:c.fQ k=false)
 (u:∀a,a≠k->e'.bJ a=e.bJ a) (D:∀a,a≠k->e'.sv a=e.sv a):VR Rd (some e') c j:=by
 induction h with
 |un=>exact .un
 |v=>exact .v
 |sl r F z q t d f A w s=>exact .sl r F z q t d f A w
 | @ow e0 a=>
  cases m;have p:a≠k:=by simpa[AV.fQ]using g
  rw[<-D a p];exact .ow
 | @pt e0 a o b h=>
  cases m;have p:a≠k:=by simpa[AV.fQ]using g
  exact .pt (by rw[u a p];exact h)
 | @pe e0 a i H o b h=>
  cases m;have p:a≠k:=by simpa[AV.fQ]using g
  exact .pe (by rw[u a p];exact h)
 | @sw e0 a l n H b o J h C d f=>
  cases m;have p:a≠k:=by simpa[AV.fQ]using g
  exact .sw (by rw[u a p];exact h) C d f
 |fp r q t w s=>exact .fp r q t w
 | @ag x y r q t s=>exact .ag r q λa c j d f=>s a c j d f m (eO (by simpa[AV.fQ]using g) a c d)
 | @tu x y r q t s=>exact .tu r q λa c j d f=>s a c j d f m (eO (by simpa[AV.fQ]using g) a c d)
 | @mp e0 a b h=>
  cases m;have p:a≠k:=by simpa[AV.fQ]using g
  exact .mp (by rw[u a p];exact h)
 | @cl x K L y r I q B t M s G=>
  simp only[AV.fQ,ash]at g;exact .cl r I q B (λa c j d f=>s a c j d f m (eO g.1 a c d)) (λa c j d f=>G a c j d f m (eO g.2 a c d))
def VR.ic{Rd:Nat->Nat->Value->Prop}{E:Option Env}{c:AV}(h:VR Rd E c j){e e':Env}(g:E=some e)(r:∀a,e'.bJ a=e.bJ a)(y:∀a,e'.sv a=e.sv a):VR Rd (some e') c j:=by
 induction h with
 |un=>exact .un
 |v=>exact .v
 |sl m z t k q d f u s p=>exact .sl m z t k q d f u s
 | @ow e0 a=>cases g;rw[<-y a];exact .ow
 | @pt e0 a o b h=>cases g;exact .pt (by rw[r a];exact h)
 | @pe e0 a i B o b h=>cases g;exact .pe (by rw[r a];exact h)
 | @sw e0 a l n B b o D h x d f=>cases g;exact .sw (by rw[r a];exact h) x d f
 |fp m k q s p=>exact .fp m k q s
 |ag m k q p=>exact .ag m k λa c j d f=>p a c j d f g
 |tu m k q p=>exact .tu m k λa c j d f=>p a c j d f g
 | @mp e0 a b h=>cases g;exact .mp (by rw[r a];exact h)
 |cl m C k w q F p A=>exact .cl m C k w (λa c j d f=>p a c j d f g) (λa c j d f=>A a c j d f g)
def VR.jk{Rd:Nat->Nat->Value->Prop}{E:Option Env}{c:AV}(h:VR Rd E c j)(a:c.one=true)(b:∀e k,E=some e->c=.ow k->(e.sv k).oneCell'=true):j.oneCell'=true:=by
 cases h with
 |un=>simp[AV.one]at a
 |v=>simpa[AV.one]using a
 |sl=>rfl
 |ow=>exact b _ _ rfl rfl
 |pt=>rfl
 |pe=>rfl
 |sw=>rfl
 |fp=>rfl
 |ag=>simp[AV.one]at a
 |tu=>simp[AV.one]at a
 |mp=>rfl
 |cl=>rfl
def LR.get{R:O->Value->Prop}{b:List O}(a:LR R b h){j:Nat}{c:O}(d:b[j]? =some c):∃u,h[j]? =some u/\R c u:=by
 have e:j<h.length:=by rw[a.1];exact(aqh.1 d).1
 exact⟨h[j],aqm e,a.2 j c _ d (aqm e)⟩
def LR.imp{R b:O->Value->Prop}{d:List O}(a:LR R d h)(g:∀c u,R c u->b c u):LR b d h:=⟨a.1,λj c u e f=>g _ _ (a.2 j c u e f)⟩
def LR.nil{R:O->Value->Prop}:LR R [] []:=⟨rfl,by simp⟩
def LR.cons{R:O->Value->Prop}{c:O}{f:List O}(b:R c j)(g:LR R f h):LR R (c::f) (j::h):=
 ⟨by simp[g.1],λa i k d e=>by
  cases a with
  |zero=>simp at d e;subst d;subst e;exact b
  |succ a=>exact g.2 a i k (by simpa using d) (by simpa using e)⟩
def LR.append{R:O->Value->Prop}{d ds:List O}{f xs:List Value}(h:LR R d f)(k:LR R ds xs):LR R (d++ds) (f++xs):=by
 refine⟨by simp[h.1,k.1],λj c u a b=>?_⟩;by_cases e:j<d.length
 ·rw[aq2 e]at a
  rw[aq2 (by rw[h.1];exact e)]at b;exact h.2 j c u a b
 ·rw[arx (by omega)]at a
  rw[arx (by rw[h.1];omega),h.1]at b;exact k.2 _ c u a b
def LR.take{R:O->Value->Prop}{e:List O}(a:LR R e h)(n:Nat):LR R (e.take n) (h.take n):=by
 refine⟨by simp[a.1],λj c u b d=>?_⟩;rw[aqT]at b d;split at b
 ·rename_i f;simp[f]at d;exact a.2 j c u b d
 ·cases b
def LR.drop{R:O->Value->Prop}{b:List O}(a:LR R b h)(n:Nat):LR R (b.drop n) (h.drop n):=by
 refine⟨by simp[a.1],λj c u d e=>?_⟩;rw[arD]at d e;exact a.2 _ c u d e
def LR.set{R:O->Value->Prop}{e:List O}(a:LR R e h)(j:Nat){c:O}{u:Value}(l:R c u):LR R (e.set j c) (h.set j u):=by
 refine⟨by simp[a.1],λi k m b d=>?_⟩;rw[arf]at b d;rw[a.1]at d;by_cases f:j=i
 ·subst f
  by_cases g:j<e.length
  ·simp[g]at b d;subst b;subst d;exact l
  ·simp[g]at b
 ·simp[f]at b d;exact a.2 i k m b d
def VR.eS{Rd:Nat->Nat->Value->Prop}{E:Option Env}{cs:List AV}(h:VR Rd E (.ag cs) j):∃a,j=.agg a.toArray/\LR (VR Rd E) cs a:=by
 cases h with
 |ag a c b=>exact⟨a,rfl,c,b⟩
def VR.CB{Rd:Nat->Nat->Value->Prop}{E:Option Env}{cs:List AV}(h:VR Rd E (.tu cs) j):∃a,j=.tuple a.toArray/\LR (VR Rd E) cs a:=by
 cases h with
 |tu a c b=>exact⟨a,rfl,c,b⟩
def VR.bE{Rd:Nat->Nat->Value->Prop}{E:Option Env}{x u:Value}(h:VR Rd E (.v x) u):u=x:=by
 cases h;rfl
variable{u:Env}{N:List (List AV)}{K:List (Nat×AV)}{Y v:Nat}{c:Nat->Nat->Value->Prop}{C:Option Nat}{s:TypeId}
inductive Ob where
 |box (t:TypeId) (cs:List AV)
 |arr (t:TypeId) (sz:Nat) (rows:List (List AV)) (wr:Bool)
 |mp (d:TypeDesc) (es:List (Value×AV))
 |nr (t:TypeId) (cs:List AV)
abbrev Hp:=List (Nat×Option Ob)
def aY:Hp->Nat->Option Ob
 |[],_=>none
 |(j,o)::h,k=>if k=j then o else aY h k
def bz:List (Nat×AV)->Nat->AV
 |[],_=>.un
 |(j,c)::t,i=>if i=j then c else bz t i
structure St where
 n:Nat
 t:List (Nat×AV)
 h:Hp
structure Bs where
 w:World
 own:Nat->Prop
 bJ:Nat->Option Nat
 sv:Nat->Value
 df:List Deferred
def Bs.gU(B:Bs)(b:Nat):Prop:=B.w.heap.size<=b\/B.own b
structure Bx(B:Bs)(w:World):Prop where
 os:w.os=B.w.os
 tape:w.tape=B.w.tape
 output:w.output=B.w.output
 size:B.w.heap.size<=w.heap.size
 block:∀b,¬B.gU b->w.heap[b]? =B.w.heap[b]?
 drawn:B.w.drawn<=w.drawn
def Bx.drew{B:Bs}(h:Bx B g):Bx B g.drew:=⟨h.os,h.tape,h.output,h.size,h.block,at7 h.drawn⟩
def Bx.step{B:Bs}(h:Bx B g)(c:J.os=g.os)(d:J.tape=g.tape)(e:J.output=g.output)(f:g.heap.size<=J.heap.size)(i:∀b,¬B.gU b->b<g.heap.size->J.heap[b]? =g.heap[b]?)(j:g.drawn<=J.drawn:=by exact aqf _):Bx B J:=
 ⟨c.trans h.os,d.trans h.tape,e.trans h.output,aq9 h.size f,λb a=>(i b a (by have:=h.size;unfold Bs.gU at a;omega)).trans (h.block b a),aq9 h.drawn j⟩
def Bx.alloc{B:Bs}(h:Bx B g)(o:Obj):Bx B (g.alloc o):=h.step rfl rfl rfl (by simp) λb _ a=>Below.heap_alloc _ _ _ a
def Bx.setCell{B:Bs}{w:World}(h:Bx B w){p:Addr}(c:B.gU p.block)(u:Value):Bx B (w.setCell p u):=
 h.step rfl rfl rfl (by simp[World.setCell]) λb a _=>Below.heap_setCell _ _ _ _ (λe=>a (by rw[e];exact c))
def Bx.later{B:Bs}(h:Bx B g)(a:Ext g J):Bx B J:=h.step a.os a.tape a.output a.size (λb _ c=>a.bJ b c) a.drawn
def Bx.gU{B:Bs}(h:Bx B g)(a:g.heap.size<=d):B.gU d:=.inl (aq9 h.size a)
def Ws:List (Nat×IntKind×List Int)->Nat->Option (IntKind×List Int)
 |[],_=>none
 |(g,p)::l,k=>cond (Nat.beq k g) (some p) (Ws l k)
def GT(b o:Nat)(u:Value):Prop:=∃k l x,Ws Y2 b=some (k,l)/\l[o]? =some x/\u=.int k x
def Good(Rd:Nat->Nat->Value->Prop)(B:Bs):Prop:=(∀b o u,Rd b o u->B.w.cell? ⟨b,o,none⟩=some u/\¬B.gU b)/\∀b o u,GT b o u->Rd b o u
def bF(w0:Bs)(Rd0:Nat->Nat->Value->Prop)(e:Env)(h:Hp)(w:World)(b o:Nat)(u:Value):Prop:=
 w.cell? ⟨b,o,none⟩=some u/\(¬w0.gU b->Rd0 b o u)/\∀k ob,aY h k=some ob->e.bJ k=some b->o<e.cA k
def ku(d:TypeDesc)(v:Value):Prop:=match d with
 |.tuple _=>∃a b:Int,v=.agg #[.int .i64 a,.int .i64 b]
 |d=>MapKept.IsKey d v
structure Fs{α:Type}(R:α->Value->Prop)(d:TypeDesc)(es:List (Value×α))(arr:Array MapEntry)(clock:Nat):Prop where
 len:arr.size=es.length
 key:∀(j:Nat) x m,es[j]? =some x->arr[j]? =some m->m.key=x.1/\R x.2 m.val
 isk:∀m∈arr.toList,ku d m.key
 jN:MapKept.Stamped arr clock
 O3:∀(j:Nat) m,arr[j]? =some m->m.born=j
 clk:clock=arr.size
def Fs.imp{R b:O->Value->Prop}{a:TypeDesc}{f:List (Value×O)}{e:Array MapEntry}(h:Fs R a f e d)(k:∀c u,R c u->b c u):Fs b a f e d:=
 ⟨h.len,λj x m i g=>⟨(h.key j x m i g).1,k _ _ (h.key j x m i g).2⟩,h.isk,h.jN,h.O3,h.clk⟩
abbrev MR(Rd:Nat->Nat->Value->Prop)(d:TypeDesc)(es:List (Value×AV))(arr:Array MapEntry)(clock:Nat):Prop:=Fs (VR Rd none) d es arr clock
def MR.mono{Rd a:Nat->Nat->Value->Prop}(g:∀b o u,Rd b o u->a b o u){d:TypeDesc}{f:List (Value×AV)}{c:Array MapEntry}{e:Nat}(h:MR Rd d f c e):MR a d f c e:=Fs.imp h λ_ _ k=>k.mono g
def CC:TypeId:=1152921504606846975
def ah2(w:World)(b:Nat)(us:List Value):Prop:=∃(bm n0 mask:Nat) (cur:Int) (seen:Array Nat),us=[.map (some bm),.int .i64 (n0:Int),.int .i64 (mask:Int),.int .i64 cur]/\w.heap[b]? =some (.mapIter (some bm) n0 seen n0)/\
 (∀j,seen.contains j=mask.testBit j)/\(0<=cur->seen.back?=some cur.toNat)
def p_(w:World)(b:Nat)(t:TypeId)(us:List Value):Prop:=(t≠CC/\w.heap[b]? =some (.cells us.toArray t (0,0)))\/(t=CC/\ah2 w b us)
def p_.ext(a:p_ g d s h)(c:∀o,g.heap[d]? =some o->J.heap[d]? =some o):p_ J d s h:=by
 rcases a with⟨b,a⟩|⟨b,e,l,k,f,seen,i,a,j⟩
 ·exact .inl ⟨b,c _ a⟩
 ·exact .inr ⟨b,e,l,k,f,seen,i,c _ a,j⟩
def p_.lt(a:p_ g d s h):d<g.heap.size:=by
 rcases a with⟨_,a⟩|⟨_,b,f,e,c,seen,_,a,_⟩
 ·exact(aqU.1 a).1
 ·exact(aqU.1 a).1
def p_.same(a:p_ g d s h)(c:J.heap[d]? =g.heap[d]?):p_ J d s h:=a.ext λo b=>by rw[c];exact b
def p_.cells(a:p_ g d s h)(c:s≠CC):g.heap[d]? =some (.cells h.toArray s (0,0)):=by
 rcases a with⟨_,a⟩|⟨b,_⟩
 ·exact a
 ·exact absurd b c
def OR(Rd:Nat->Nat->Value->Prop)(e:Env)(w:World)(k:Nat):Ob->Prop
 |.box t cs=>e.cA k=0/\∃b us,e.bJ k=some b/\p_ w b t us/\LR (VR Rd (some e)) cs us
 |.arr t sz rows wr=>(∀r∈rows,r.length=sz)/\(∀c∈rows.flatten,c.one=true)/\(wr=true->e.cA k=0)/\
  ((rows=[]/\e.bJ k=none/\∃a,e.sv k=.slice a 0 0)\/
   ∃b cap cur,e.bJ k=some b/\e.sv k=.slice (some ⟨b,0,none⟩) rows.length cap/\rows.length<=cap/\cap<=maxLen/\w.heap[b]? =some (.cells cur t (0,0))/\
    cur.size=cap*sz/\LR (VR Rd none) rows.flatten (cur.toList.take rows.flatten.length)/\e.cA k<=rows.flatten.length)
 |.mp d es=>e.cA k=0/\∃b arr clock,e.bJ k=some b/\w.heap[b]? =some (.map arr clock)/\MR Rd d es arr clock
 |.nr t cs=>e.cA k=0/\((cs=[]/\e.bJ k=none/\∃a,e.sv k=.slice a 0 0)\/
  ∃b cap cur,e.bJ k=some b/\e.sv k=.slice (some ⟨b,0,none⟩) cs.length cap/\cs.length<=cap/\cap<=maxLen/\w.heap[b]? =some (.cells cur t (0,0))/\
   cur.size=cap/\LR (VR Rd (some e)) cs (cur.toList.take cs.length))
structure SR(w0:Bs)(Rd0:Nat->Nat->Value->Prop)(e:Env)(h:Hp)(w:World):Prop where
 ext:Bx w0 w
 jG:Good Rd0 w0
 ob:∀k ob,aY h k=some ob->OR (bF w0 Rd0 e h w) e w k ob
 base:∀k ob b,aY h k=some ob->e.bJ k=some b->w0.gU b/\b<w.heap.size
 inj:∀k k' ob ob' b,aY h k=some ob->aY h k'=some ob'->e.bJ k=some b->e.bJ k'=some b->k=k'
 tV:∀k,4294967296<=k->e.bJ k=w0.bJ k/\e.sv k=w0.sv k
def SR.CD{f:Bs}{h:Hp}(a:SR f c u h g)(m:GT d v j):bF f c u h g d v j:=by
 have b:=a.jG.2 _ _ _ m;obtain⟨i,e⟩:=a.jG.1 d v j b;refine⟨?_,λ_=>b,λk ob n l=>absurd (a.base k ob d n l).1 e⟩;rw[<-i];unfold World.cell?;rw[a.ext.block d e]
def TR(Rd:Nat->Nat->Value->Prop)(e:Env)(t:List (Nat×AV))(tm:Array Value):Prop:=∀i,VR Rd (some e) (bz t i) (tm.getD i undef)
def dX{sz:Nat}(h:∀r∈N,r.length=sz):N.flatten.length=N.length*sz:=by
 induction N with
 |nil=>simp
 |cons r N b=>
  rw[aqR,aqy,h r (by simp),b (λx a=>h x (by simp[a])),aqC,aqS];omega
def OR.mono{Rd y:Nat->Nat->Value->Prop}(j:∀b o u,Rd b o u->y b o u){e:Env}{w:World}{k:Nat}{ob:Ob}(h:OR Rd e w k ob):OR y e w k ob:=by
 cases ob with
 |box t B=>
  obtain⟨c,b,C,f,g,a⟩:=h;exact⟨c,b,C,f,g,a.imp λ_ _ i=>i.mono j⟩
 |arr t F E wr=>
  obtain⟨c,f,g,a⟩:=h;refine⟨c,f,g,?_⟩;rcases a with a|⟨b,v,x,l,m,n,p,q,r,s,z⟩
  ·exact .inl a
  ·exact .inr ⟨b,v,x,l,m,n,p,q,r,s.imp λ_ _ i=>i.mono j,z⟩
 |mp d D=>
  obtain⟨c,b,arr,A,f,g,a⟩:=h;exact⟨c,b,arr,A,f,g,a.mono j⟩
 |nr t B=>
  obtain⟨c,a⟩:=h;refine⟨c,?_⟩;rcases a with a|⟨b,v,x,l,m,n,p,q,r,s⟩
  ·exact .inl a
  ·exact .inr ⟨b,v,x,l,m,n,p,q,r,s.imp λ_ _ i=>i.mono j⟩
def Ob.fQ(k:Nat):Ob->Bool
 |.box _ cs=>AV.lR k cs
 |.arr .. =>false
 |.mp .. =>false
 |.nr _ cs=>AV.lR k cs
def OR.env{Rd:Nat->Nat->Value->Prop}{e e':Env}{w w':World}{k j:Nat}{ob:Ob}(h:OR Rd e w j ob)(a:j≠k)(x:ob.fQ k=false\/(e'.bJ k=e.bJ k/\e'.sv k=e.sv k))
 (g:∀i,i≠k->e'.bJ i=e.bJ i) (n:∀i,i≠k->e'.sv i=e.sv i) (A:∀i,i≠k->e'.cA i=e.cA i)
 (C:∀b,e.bJ j=some b->b<w.heap.size->w'.heap[b]? =w.heap[b]?):OR Rd e' w' j ob:=by
 cases ob with
 |box t L=>
  obtain⟨q,b,N,r,s,m⟩:=h;refine⟨by rw[A j a];exact q,b,N,by rw[g j a];exact r,?_,m.1,λi c u v B=>?_⟩
  ·exact s.same (C b r s.lt)
  ·rcases x with x|⟨H,I⟩
   ·exact(m.2 i c u v B).env rfl k (eO (by simpa[Ob.fQ]using x) i c v) g n
   ·exact(m.2 i c u v B).ic rfl (λj=>by by_cases f:j=k;·rw[f];exact H
                                        ·exact g j f) (λj=>by by_cases f:j=k;·rw[f];exact I
                                                              ·exact n j f)
 |arr t Q P wr=>
  obtain⟨q,r,s,m⟩:=h;refine⟨q,r,λM=>by rw[A j a];exact s M,?_⟩;rcases m with⟨l,o,p⟩|⟨b,F,G,l,o,p,D,y,E,z,J⟩
  ·exact .inl ⟨l,by rw[g j a];exact o,by rw[n j a];exact p⟩
  ·refine .inr ⟨b,F,G,by rw[g j a];exact l,by rw[n j a];exact o,p,D,?_,E,z,by rw[A j a];exact J⟩
   rw[C b l (aqU.1 y).1];exact y
 |mp d O=>
  obtain⟨q,b,arr,K,r,s,m⟩:=h;exact⟨by rw[A j a];exact q,b,arr,K,by rw[g j a];exact r,by rw[C b r (aqU.1 s).1];exact s,m⟩
 |nr t L=>
  obtain⟨q,m⟩:=h;refine⟨by rw[A j a];exact q,?_⟩;rcases m with⟨l,o,p⟩|⟨b,F,G,l,o,p,D,y,E,z⟩
  ·exact .inl ⟨l,by rw[g j a];exact o,by rw[n j a];exact p⟩
  ·refine .inr ⟨b,F,G,by rw[g j a];exact l,by rw[n j a];exact o,p,D,?_,E,⟨z.1,λi c u v B=>?_⟩⟩
   ·rw[C b l (aqU.1 y).1];exact y
   ·rcases x with x|⟨H,I⟩
    ·exact(z.2 i c u v B).env rfl k (eO (by simpa[Ob.fQ]using x) i c v) g n
    ·exact(z.2 i c u v B).ic rfl (λj=>by by_cases f:j=k;·rw[f];exact H
                                         ·exact g j f) (λj=>by by_cases f:j=k;·rw[f];exact I
                                                               ·exact n j f)
def Env.cz(e:Env)(k:Nat)(b:Option Nat)(s:Value)(l:Nat):Env:=
 ⟨λi=>if i=k then b else e.bJ i,λi=>if i=k then s else e.sv i,λi=>if i=k then l else e.cA i⟩
def Env.bL:(u.cz d C j v).bJ d=C:=by simp[Env.cz]
def Env.dz:(u.cz d C j v).sv d=j:=by simp[Env.cz]
def Env.bN:(u.cz d C j v).cA d=v:=by simp[Env.cz]
def Env.br(h:Y≠d):(u.cz d C j v).bJ Y=u.bJ Y:=by simp[Env.cz,h]
def Env.cW(h:Y≠d):(u.cz d C j v).sv Y=u.sv Y:=by simp[Env.cz,h]
def Env.jS(h:Y≠d):(u.cz d C j v).cA Y=u.cA Y:=by simp[Env.cz,h]
def bc{h:Hp}{o:Option Ob}:aY ((d,o)::h) d=o:=by simp[aY]
def a_{h:Hp}{o:Option Ob}(a:v≠d):aY ((d,o)::h) v=aY h v:=by simp[aY,a]
def nJ(k:Nat)(h:Hp):Bool:=h.all λp=>match p.2 with|some ob=> !ob.fQ k|none=>true
def Wt(k:Nat)(t:List (Nat×AV)):Bool:=t.all λp=> !p.2.fQ k
def vN{k:Nat}:∀{h:Hp},nJ k h=true->∀j ob,aY h j=some ob->ob.fQ k=false
 |[],_,j,ob,a=>by simp[aY]at a
 |(i,o)::h,b,j,ob,a=>by
  simp only[nJ,arn,aqe]at b;by_cases c:j=i
  ·subst c
   rw[bc]at a;subst a;simpa using b.1
  ·rw[a_ c]at a
   exact vN (by simpa[nJ]using b.2) j ob a
def Ke{k:Nat}:∀{t:List (Nat×AV)},Wt k t=true->∀j,(bz t j).fQ k=false
 |[],_,j=>by simp[bz,AV.fQ]
 |(i,c)::t,a,j=>by
  simp only[Wt,arn,aqe]at a;by_cases b:j=i
  ·subst b;simp[bz];simpa using a.1
  ·simp only[bz,b,aq_];exact Ke (by simpa[Wt]using a.2) j
def SR.tM{r:Bs}{w w':World}{h:Hp}(m:SR r c u h w)(k:Nat)(q:Option Nat)(s:Value)(l:Nat)(x:Option Ob)
 (S:Bx r w') (nJ:(nJ k h=true/\k<4294967296)\/(q=u.bJ k/\s=u.sv k))
 (a0:w.heap.size<=w'.heap.size)
 (N:∀b,b<w.heap.size->(∀ob,aY h k=some ob->u.bJ k≠some b)->w'.heap[b]? =w.heap[b]?)
 (E:∀b,q=some b->x≠none->r.gU b/\b<w'.heap.size/\((∃ob,aY h k=some ob/\u.bJ k=some b)\/w.heap.size<=b))
 (U:∀b o a ob,aY h k=some ob->u.bJ k=some b->o<u.cA k->w.cell? ⟨b,o,none⟩=some a->w'.cell? ⟨b,o,none⟩=some a/\(x≠none->q=some b->o<l))
 (Z:∀(Rd:Nat->Nat->Value->Prop),(∀b o a,bF r c u h w b o a->Rd b o a)->(∀b o a,w'.cell? ⟨b,o,none⟩=some a->(∀ob,aY h k=some ob->u.bJ k=some b->x=none\/q≠some b)->b<w.heap.size->(∃ob,aY h k=some ob/\u.bJ k=some b)->Rd b o a)->∀J,x=some J->OR Rd (u.cz k q s l) w' k J):
 SR r c (u.cz k q s l) ((k,x)::h) w'/\∀b o a,bF r c u h w b o a->bF r c (u.cz k q s l) ((k,x)::h) w' b o a:=by
 have H:∀b o a,bF r c u h w b o a->bF r c (u.cz k q s l) ((k,x)::h) w' b o a:=by
  rintro b o a ⟨G,Q,K⟩;have L:b<w.heap.size:=asg w _ G;have M:w'.cell? ⟨b,o,none⟩=some a/\(x≠none->q=some b->o<l):=by
   by_cases A:∃ob,aY h k=some ob/\u.bJ k=some b
   ·obtain⟨ob,g,e⟩:=A
    exact U b o a ob g e (K k ob g e) G
   ·have W:∀ob,aY h k=some ob->u.bJ k≠some b:=λob g e=>A ⟨ob,g,e⟩
    refine⟨by rw[asG (w:=w) (N b L W)];exact G,λY V=>?_⟩;rcases(E b V Y).2.2 with C|C
    ·exact absurd C A
    ·omega
  refine⟨M.1,Q,λj ob d e=>?_⟩;by_cases f:j=k
  ·subst f
   rw[bc]at d;rw[Env.bL]at e;rw[Env.bN];exact M.2 (by rw[d];simp) e
  ·rw[a_ f]at d
   rw[Env.br f]at e;rw[Env.jS f];exact K j ob d e
 refine⟨⟨S,m.jG,λj ob d=>?_,λj ob b d e=>?_,λj P ob J b d z e y=>?_,λj d=>?_⟩,H⟩
 ·by_cases f:j=k
  ·subst f
   rw[bc]at d;refine Z _ H (λb o a R X L A=>?_) ob d;obtain⟨F,g,p⟩:=A;refine⟨R,λI=>?_,λi a1 n B=>?_⟩
   ·exact absurd (m.base _ _ _ g p).1 I
   ·by_cases D:i=j
    ·subst D
     rw[bc]at n;rw[Env.bL]at B;rcases X F g p with h|h
     ·rw[h]at n;cases n
     ·exact absurd B h
    ·rw[a_ D]at n
     rw[Env.br D]at B;exact absurd (m.inj _ _ _ _ _ n g B p) D
  ·rw[a_ f]at d
   refine((m.ob j ob d).env (w':=w') f (nJ.imp (λv=>vN v.1 j ob d) (λv=>⟨by rw[Env.bL];exact v.1,by rw[Env.dz];exact v.2⟩)) (λ_ n=>Env.br n) (λ_ n=>Env.cW n) (λ_ n=>Env.jS n) λb e I=>?_).mono H;exact N b I λF g p=>f (m.inj _ _ _ _ _ d g e p)
 ·by_cases f:j=k
  ·subst f
   rw[bc]at d;rw[Env.bL]at e;have:=E b e (by rw[d];simp);exact⟨this.1,this.2.1⟩
  ·rw[a_ f]at d
   rw[Env.br f]at e;have:=m.base j ob b d e;exact⟨this.1,by omega⟩
 ·by_cases f:j=k
  ·by_cases t:P=k
   ·rw[f,t]
   ·subst f
    rw[bc]at d;rw[a_ t]at z;rw[Env.bL]at e;rw[Env.br t]at y;rcases(E b e (by rw[d];simp)).2.2 with⟨F,g,p⟩|C
    ·exact absurd (m.inj _ _ _ _ _ z g y p) t
    ·have:=(m.base _ _ _ z y).2;omega
  ·rw[a_ f]at d
   rw[Env.br f]at e;by_cases t:P=k
   ·subst t
    rw[bc]at z;rw[Env.bL]at y;rcases(E b y (by rw[z];simp)).2.2 with⟨F,g,p⟩|C
    ·exact m.inj _ _ _ _ _ d g e p
    ·have:=(m.base _ _ _ d e).2;omega
   ·rw[a_ t]at z
    rw[Env.br t]at y;exact m.inj _ _ _ _ _ d z e y
 ·have O:=m.tV j d
  by_cases f:j=k
  ·subst f
   rw[Env.bL,Env.dz];rcases nJ with v|v
   ·omega
   ·rw[v.1,v.2];exact O
  ·rw[Env.br f,Env.cW f];exact O
def TR.mono{Rd a:Nat->Nat->Value->Prop}{e:Env}{t:List (Nat×AV)}{c:Array Value}(h:TR Rd e t c)(d:∀b o u,Rd b o u->a b o u):TR a e t c:=λi=>(h i).mono d
def TR.env{Rd:Nat->Nat->Value->Prop}{e e':Env}{t:List (Nat×AV)}{a:Array Value}(h:TR Rd e t a)(k:Nat)(c:Wt k t=true)
 (b:∀j,j≠k->e'.bJ j=e.bJ j) (d:∀j,j≠k->e'.sv j=e.sv j):TR Rd e' t a:=λi=>(h i).env rfl k (Ke c i) b d
def TR.put{Rd:Nat->Nat->Value->Prop}{a:Array Value}(h:TR Rd u K a){d:Nat}{c:AV}{v:Value}(e:d<a.size)(f:VR Rd (some u) c v):
 TR Rd u ((d,c)::K) (a.setIfInBounds d v):=by
 intro i;by_cases b:i=d
 ·subst b
  simp[bz,e];exact f
 ·have:(a.setIfInBounds d v).getD i undef=a.getD i undef:=by
   simp only[ary,aua];rw[aqc (by omega)]
  rw[this];simp only[bz,b,aq_];exact h i
variable{B:AV}{y:List AV}
section
variable{w0:Bs}{w:World}{Rd0:Nat->Nat->Value->Prop}{e:Env}{h:Hp}
def Y3(w:World)(o:Obj)(i:Nat)(a:i<w.heap.size):(w.alloc o).heap[i]? =w.heap[i]? :=by
 show(w.heap.push o)[i]? =_;rw[asq,aqc (by omega)]
def Wu(w:World)(o:Obj):(w.alloc o).heap[w.heap.size]? =some o:=by
 show(w.heap.push o)[w.heap.size]? =_;rw[asq,aqd rfl]
def SR.aeR(d:SR w0 Rd0 e h w)(k:Nat)(t:TypeId){j:List Value}(o:Obj)(g:p_ (w.alloc o) w.heap.size t j)(m:LR (VR (bF w0 Rd0 e h w) (some e)) y j)(A:nJ k h=true)(z:k<4294967296)(v:AV.lR k y=false):
 SR w0 Rd0 (e.cz k (some w.heap.size) (e.sv k) 0) ((k,some (.box t y))::h) (w.alloc o)/\
 ∀b n u,bF w0 Rd0 e h w b n u->bF w0 Rd0 (e.cz k (some w.heap.size) (e.sv k) 0) ((k,some (.box t y))::h) (w.alloc o) b n u:=by
 refine d.tM k (some w.heap.size) (e.sv k) 0 _ (d.ext.alloc _) (.inl ⟨A,z⟩) (by simp) (λb a _=>Y3 w _ b a) (λb a _=>?_) (λb o u ob g a C x=>?_) (λRd q _ D B=>?_)
 ·obtain rfl:=aql a
  exact⟨d.ext.gU (aqf _),by simp,.inr (aqf _)⟩
 ·have s:=(d.base _ _ _ g a).2
  refine⟨by rw[asG (w:=w) (Y3 w _ b s)];exact x,λ_ r=>?_⟩;obtain rfl:=aql r;omega
 ·obtain rfl:=aql B
  refine⟨Env.bN,w.heap.size,j,Env.bL,g,m.1,λi c u l p=>?_⟩;exact((m.2 i c u l p).mono q).env rfl k (eO v i c l) (λ_ f=>Env.br f) (λ_ f=>Env.cW f)
def SR.ah3(i:SR w0 Rd0 e h w)(k:Nat)(t:TypeId)(j:t≠CC){a:List Value}(f:LR (VR (bF w0 Rd0 e h w) (some e)) y a)(g:nJ k h=true)(d:k<4294967296)(c:AV.lR k y=false):
 SR w0 Rd0 (e.cz k (some w.heap.size) (e.sv k) 0) ((k,some (.box t y))::h) (w.alloc (.cells a.toArray t))/\
 ∀b o u,bF w0 Rd0 e h w b o u->bF w0 Rd0 (e.cz k (some w.heap.size) (e.sv k) 0) ((k,some (.box t y))::h) (w.alloc (.cells a.toArray t)) b o u:=
 i.aeR k t _ (.inl ⟨j,Wu w _⟩) f g d c
def SR.H2(i:SR w0 Rd0 e h w)(k:Nat)(t:TypeId)(g a:Nat){rows:List (List AV)}{cur:Array Value}(G:∀r∈rows,r.length=g)(m:∀c∈rows.flatten,c.one=true)
 (A:LR (VR (bF w0 Rd0 e h w) none) rows.flatten (cur.toList.take rows.flatten.length)) (s:rows.length<=a) (B:a<=maxLen) (x:cur.size=a*g) (C:nJ k h=true) (z:k<4294967296)
 (f:World) (j:f.heap=w.heap.push (.cells cur t)) (y:Bx w0 f):
 SR w0 Rd0 (e.cz k (some w.heap.size) (.slice (some ⟨w.heap.size,0,none⟩) rows.length a) 0) ((k,some (.arr t g rows true))::h) f/\
 ∀b o u,bF w0 Rd0 e h w b o u->bF w0 Rd0 (e.cz k (some w.heap.size) (.slice (some ⟨w.heap.size,0,none⟩) rows.length a) 0) ((k,some (.arr t g rows true))::h) f b o u:=by
 have I:f.heap.size=w.heap.size+1:=by rw[j];simp
 have l:∀b,b<w.heap.size->f.heap[b]? =w.heap[b]? :=λb d=>by rw[j,asq,aqc (by omega)]
 refine i.tM k (some w.heap.size) (.slice (some ⟨w.heap.size,0,none⟩) rows.length a) 0 _ y (.inl ⟨C,z⟩) (by omega) (λb d _=>l b d) (λb d _=>?_) (λb o u ob D d H v=>?_) (λRd n _ J E=>?_)
 ·obtain rfl:=aql d
  exact⟨i.ext.gU (aqf _),by omega,.inr (aqf _)⟩
 ·have q:=(i.base _ _ _ D d).2
  refine⟨by rw[asG (w:=w) (l b q)];exact v,λ_ p=>?_⟩;obtain rfl:=aql p;omega
 ·obtain rfl:=aql E
  refine⟨G,m,λ_=>Env.bN,.inr ⟨w.heap.size,a,cur,Env.bL,Env.dz,s,B,?_,x,A.imp λ_ _ F=>F.mono n,?_⟩⟩
  ·rw[j,asq,aqd rfl]
  ·rw[Env.bN];exact aqI _
def SR.CE(d:SR w0 Rd0 e h w)(k:Nat)(t:TypeId)(f:Nat)(a:Option Addr)(l:nJ k h=true)(j:k<4294967296):
 SR w0 Rd0 (e.cz k none (.slice a 0 0) 0) ((k,some (.arr t f [] true))::h) w/\
 ∀b o u,bF w0 Rd0 e h w b o u->bF w0 Rd0 (e.cz k none (.slice a 0 0) 0) ((k,some (.arr t f [] true))::h) w b o u:=by
 refine d.tM k none (.slice a 0 0) 0 _ d.ext (.inl ⟨l,j⟩) (aqf _) (λb c _=>rfl) (λb c _=>by cases c) (λb o u ob q c p i=>⟨i,λ_ g=>by cases g⟩) (λRd n _ r m=>?_);obtain rfl:=aql m;exact⟨by simp,by simp,λ_=>Env.bN,.inl ⟨rfl,Env.bL,a,Env.dz⟩⟩
def SR.nK(k:SR w0 Rd0 e h w)(C:s≠CC)(g:aY h d=some (.box s y))(c:e.bJ d=some v)(o:Nat)
 (L:VR (bF w0 Rd0 e h w) (some e) B j):
 SR w0 Rd0 (e.cz d (some v) (e.sv d) 0) ((d,some (.box s (y.set o B)))::h) (w.setCell ⟨v,o,none⟩ j)/\
 ∀f q r,bF w0 Rd0 e h w f q r->bF w0 Rd0 (e.cz d (some v) (e.sv d) 0) ((d,some (.box s (y.set o B)))::h) (w.setCell ⟨v,o,none⟩ j) f q r:=by
 obtain⟨G,b,t,E,K,z⟩:=k.ob _ _ g;obtain rfl:b=v:=aql (E.symm.trans c);have n:=k.base _ _ _ g c;refine k.tM d (some b) (e.sv d) 0 _ (k.ext.setCell n.1 _) (.inr ⟨c.symm,rfl⟩) (by simp) (λf m I=>aub w _ _ _ (λF=>I _ g (by rw[c];exact aqr some F.symm))) (λf m _=>?_) (λf q r ob N m H M=>?_) (λRd u _ O J=>?_)
 ·obtain rfl:=aql m
  exact⟨n.1,by simp;exact n.2,.inl ⟨_,g,c⟩⟩
 ·rw[G]at H;omega
 ·obtain rfl:=aql J
  refine⟨Env.bN,b,t.set o j,Env.bL,.inl ⟨C,?_⟩,?_⟩
  ·have:=auc w b o t.toArray s j (K.cells C)
   rw[this];simp
  ·have x:∀a,(e.cz d (some b) (e.sv d) 0).bJ a=e.bJ a:=λa=>by by_cases p:a=d<;>simp[Env.cz,p,c]
   have A:∀a,(e.cz d (some b) (e.sv d) 0).sv a=e.sv a:=λa=>by by_cases p:a=d<;>simp[Env.cz,p]
   have l:LR (VR Rd (some (e.cz d (some b) (e.sv d) 0))) y t:=⟨z.1,λi B j l D=>((z.2 i B j l D).mono u).ic rfl x A⟩;exact l.set o ((L.mono u).ic rfl x A)
def SR.qL(g:SR w0 Rd0 e h w){k rows':List (List AV)}(f:aY h d=some (.arr s v k true))(a:e.bJ d=some Y)(o:Nat)
 (p:VR (bF w0 Rd0 e h w) none B j) (G:B.one=true) (A:rows'.length=k.length) (U:∀r∈rows',r.length=v) (z:rows'.flatten=k.flatten.set o B) (P:o<k.flatten.length):
 SR w0 Rd0 (e.cz d (some Y) (e.sv d) 0) ((d,some (.arr s v rows' true))::h) (w.setCell ⟨Y,o,none⟩ j)/\
 ∀b q t,bF w0 Rd0 e h w b q t->bF w0 Rd0 (e.cz d (some Y) (e.sv d) 0) ((d,some (.arr s v rows' true))::h) (w.setCell ⟨Y,o,none⟩ j) b q t:=by
 obtain⟨X,D,n,R⟩:=g.ob _ _ f;have n:=n rfl;have m:=g.base _ _ _ f a;rcases R with⟨_,F,_⟩|⟨c,C,u,E,S,H,N,J,I,L,W⟩
 ·rw[F]at a;cases a
 obtain rfl:c=Y:=aql (E.symm.trans a);refine g.tM d (some c) (e.sv d) 0 _ (g.ext.setCell m.1 _) (.inr ⟨a.symm,rfl⟩) (by simp) (λb l O=>aub w _ _ _ (λK=>O _ f (by rw[a];exact aqr some K.symm))) (λb l _=>?_) (λb q t ob P l M V=>?_) (λRd y _ Z Q=>?_)
 ·obtain rfl:=aql l
  exact⟨m.1,by simp;exact m.2,.inl ⟨_,f,a⟩⟩
 ·rw[n]at M;omega
 ·obtain rfl:=aql Q
  refine⟨U,?_,λ_=>Env.bN,.inr ⟨c,C,u.setIfInBounds o j,Env.bL,?_,by rw[A];exact H,N,auc w c o u s j J,by simpa using I,?_,?_⟩⟩
  ·intro x i
   rw[z]at i;rcases as3 i with i|rfl
   ·exact D x i
   ·exact G
  ·rw[Env.dz,A];exact S
  ·rw[z,as4,arE,atA]
   exact(L.imp λ_ _ p=>p.mono y).set o (p.mono y)
  ·rw[Env.bN];exact aqI _
def SR.O9(l:SR w0 Rd0 e h w){wr:Bool}(n:aY h d=some (.arr s v N wr)):
 ∃f,SR w0 Rd0 f ((d,some (.arr s v N false))::h) w/\(∀b o u,bF w0 Rd0 e h w b o u->bF w0 Rd0 f ((d,some (.arr s v N false))::h) w b o u)/\
  (∀j,f.bJ j=e.bJ j)/\(∀j,f.sv j=e.sv j)/\VR (bF w0 Rd0 f ((d,some (.arr s v N false))::h) w) none (.sl false v N) (e.sv d):=by
 obtain⟨Q,J,a1,G⟩:=l.ob _ _ n;have x:∀j,(e.cz d (e.bJ d) (e.sv d) N.flatten.length).bJ j=e.bJ j:=λj=>by by_cases k:j=d<;>simp[Env.cz,k]
 have H:∀j,(e.cz d (e.bJ d) (e.sv d) N.flatten.length).sv j=e.sv j:=λj=>by by_cases k:j=d<;>simp[Env.cz,k]
 have Y:e.cA d<=N.flatten.length\/e.bJ d=none:=by
  rcases G with⟨_,m,_⟩|⟨p,z,q,r,_,_,_,_,_,_,y⟩
  ·exact .inr m
  ·exact .inl y
 obtain⟨R,K⟩:=l.tM d (e.bJ d) (e.sv d) N.flatten.length (some (.arr s v N false)) l.ext (.inr ⟨rfl,rfl⟩) (aqf _) (λb g _=>rfl)
  (λb g _=>⟨(l.base _ _ _ n g).1,(l.base _ _ _ n g).2,.inl ⟨_,n,g⟩⟩)
  (λb o u ob ho g P V=>⟨V,λ_ _=>by
   rcases Y with y|m
   ·omega
   ·rw[m]at g;cases g⟩)
  (λRd S _ a2 a0=>by
   obtain rfl:=aql a0;refine⟨Q,J,(λW=>by cases W),?_⟩;rcases G with⟨F,m,a,A⟩|⟨p,z,q,r,I,B,E,C,M,t,y⟩
   ·exact .inl ⟨F,by rw[x];exact m,a,by rw[H];exact A⟩
   ·exact .inr ⟨p,z,q,by rw[x];exact r,by rw[H];exact I,B,E,C,M,t.imp λ_ _ hv=>hv.mono S,by rw[Env.bN];exact aqf _⟩)
 have Z:(e.cz d (e.bJ d) (e.sv d) N.flatten.length).cA d=N.flatten.length:=Env.bN;generalize e.cz d (e.bJ d) (e.sv d) N.flatten.length=f at*;refine⟨f,R,K,x,H,?_⟩;rcases G with⟨F,m,a,A⟩|⟨p,z,q,r,I,B,E,C,M,t,y⟩
 ·subst F
  rw[A];exact VR.sl (rows:=[]) [] (by simp) (by simp) rfl (by simp) (aqf _) (aqI _) (by simp) (by simp)
 ·rw[I]
  refine VR.sl (q.toList.take N.flatten.length) Q J t.1 (λj c u U hu=>(t.2 j c u U hu).mono K) B E (by simp) (λ_=>⟨p,0,rfl,λj u k=>?_⟩);have X:j<N.flatten.length:=by
   have:=(aqh.1 k).1;rw[t.1]at this;exact this
  rw[aqT,aqd X]at k;refine⟨by rw[aqN,arj w p j q s (0,0) C];simpa using k,λP=>?_,λi ob O L=>?_⟩
  ·exact absurd (l.base _ _ _ n r).1 P
  ·rw[x]at L
   by_cases D:i=d
   ·subst D;rw[Z];omega
   ·rw[a_ D]at O
    exact absurd (l.inj _ _ _ _ _ O n L r) D
def SR.later(l:SR w0 Rd0 e h w){m:World}(i:Ext w m):SR w0 Rd0 e h m/\∀b o u,bF w0 Rd0 e h w b o u->bF w0 Rd0 e h m b o u:=by
 have B:∀b o u,bF w0 Rd0 e h w b o u->bF w0 Rd0 e h m b o u:=λb o u ⟨f,g,a⟩=>⟨i.cell f,g,a⟩;refine⟨⟨l.ext.later i,l.jG,λj ob A=>?_,λj ob b A F=>?_,l.inj,l.tV⟩,B⟩
 ·have k:=(l.ob j ob A).mono B
  cases ob with
  |box t E=>
   obtain⟨c,b,G,f,g,a⟩:=k;exact⟨c,b,G,f,g.ext (λo k=>i.block k),a⟩
  |arr t J I wr=>
   obtain⟨c,f,g,a⟩:=k;refine⟨c,f,g,?_⟩;rcases a with a|⟨b,y,z,n,p,q,r,s,v,x,C⟩
   ·exact .inl a
   ·exact .inr ⟨b,y,z,n,p,q,r,i.block s,v,x,C⟩
  |mp d H=>
   obtain⟨c,b,arr,D,f,g,a⟩:=k;exact⟨c,b,arr,D,f,i.block g,a⟩
  |nr t E=>
   obtain⟨c,a⟩:=k;refine⟨c,?_⟩;rcases a with a|⟨b,y,z,n,p,q,r,s,v,x⟩
   ·exact .inl a
   ·exact .inr ⟨b,y,z,n,p,q,r,i.block s,v,x⟩
 ·have:=l.base j ob b A F
  exact⟨this.1,asi this.2 i.size⟩
end
variable{G:Bool}
def AV.kill(k:Nat)(c:AV):AV:=if c.fQ k then .un else c
def Ob.kill(k:Nat):Ob->Ob
 |.box t cs=>.box t (cs.map (AV.kill k))
 |.arr t sz rows wr=>.arr t sz rows wr
 |.mp d es=>.mp d es
 |.nr t cs=>.nr t (cs.map (AV.kill k))
def bh(k:Nat):Hp->Hp
 |[]=>[]
 |(j,o)::h=>(j,o.map (Ob.kill k))::bh k h
def cP(k:Nat):List (Nat×AV)->List (Nat×AV)
 |[]=>[]
 |(j,c)::t=>(j,c.kill k)::cP k t
def jT(k:Nat)(c:AV):(c.kill k).fQ k=false:=by
 unfold AV.kill;split
 ·rfl
 ·rename_i h;simpa using h
def uW(k:Nat):∀a:List AV,AV.lR k (a.map (AV.kill k))=false
 |[]=>rfl
 |c::a=>by simp[AV.lR,jT,uW k a]
def dQ(k:Nat):∀h:Hp,nJ k (bh k h)=true
 |[]=>rfl
 |(j,o)::h=>by
  have a:=dQ k h;unfold nJ at a⊢;simp only[bh,arn,a,atB];cases o with
  |none=>rfl
  |some ob=>cases ob<;>simp[Ob.kill,Ob.fQ,uW]
def dE(k:Nat):∀t:List (Nat×AV),Wt k (cP k t)=true
 |[]=>rfl
 |(j,c)::t=>by
  have a:=dE k t;unfold Wt at a⊢;simp only[cP,arn,a,atB,jT,arv]
def da(k:Nat):∀(h:Hp) (j:Nat),aY (bh k h) j=(aY h j).map (Ob.kill k)
 |[],_=>rfl
 |(i,o)::h,j=>by
  simp only[bh,aY];split
  ·rfl
  ·exact da k h j
def sJ(k:Nat):∀(t:List (Nat×AV)) (j:Nat),bz (cP k t) j=(bz t j).kill k
 |[],_=>by simp[cP,bz,AV.kill,AV.fQ]
 |(i,c)::t,j=>by
  simp only[cP,bz];split
  ·rfl
  ·exact sJ k t j
def VR.kill{Rd:Nat->Nat->Value->Prop}{E:Option Env}{c:AV}{u:Value}(h:VR Rd E c u)(k:Nat):VR Rd E (c.kill k) u:=by
 unfold AV.kill;split
 ·exact .un
 ·exact h
def TR.kill{Rd:Nat->Nat->Value->Prop}{e:Env}{t:List (Nat×AV)}{a:Array Value}(h:TR Rd e t a)(k:Nat):TR Rd e (cP k t) a:=λi=>by
 rw[sJ];exact(h i).kill k
def LR.kill{Rd:Nat->Nat->Value->Prop}{E:Option Env}{a:List AV}{d:List Value}(h:LR (VR Rd E) a d)(k:Nat):LR (VR Rd E) (a.map (AV.kill k)) d:=by
 refine⟨by simpa using h.1,λj c u b g=>?_⟩;rw[aqA]at b;obtain⟨f,i,rfl⟩:=aqL.1 b;exact(h.2 j f u i g).kill k
section
variable{w0:Bs}{w:World}{Rd0:Nat->Nat->Value->Prop}{e:Env}{h:Hp}
def SR.kill(i:SR w0 Rd0 e h w)(k:Nat):SR w0 Rd0 e (bh k h) w/\∀b o u,bF w0 Rd0 e h w b o u->bF w0 Rd0 e (bh k h) w b o u:=by
 have s:∀b o u,bF w0 Rd0 e h w b o u->bF w0 Rd0 e (bh k h) w b o u:=λb o u ⟨g,F,r⟩=>⟨g,F,λj ob c p=>by
  rw[da]at c;obtain⟨a,f,_⟩:=aqL.1 c;exact r j a f p⟩
 have q:∀j ob,aY (bh k h) j=some ob->∃a,aY h j=some a/\ob=a.kill k:=λj ob c=>by
  rw[da]at c;obtain⟨a,f,H⟩:=aqL.1 c;exact⟨a,f,H.symm⟩
 refine⟨⟨i.ext,i.jG,λj ob c=>?_,λj ob b c p=>?_,λj K ob L b c I p G=>?_,i.tV⟩,s⟩
 ·obtain⟨a,f,rfl⟩:=q j ob c
  have g:=(i.ob j a f).mono s;cases a with
  |box t C=>
   obtain⟨v,b,M,l,m,n⟩:=g;exact⟨v,b,M,l,m,n.kill k⟩
  |arr t R Q wr=>exact g
  |mp d N=>exact g
  |nr t C=>
   obtain⟨E,r⟩:=g;refine⟨E,?_⟩;rcases r with⟨l,m,n⟩|⟨b,B,D,l,m,n,x,y,z,A⟩
   ·exact .inl ⟨by rw[l];rfl,m,n⟩
   ·exact .inr ⟨b,B,D,l,by rw[aqn];exact m,by rw[aqn];exact n,x,y,z,by rw[aqn];exact A.kill k⟩
 ·obtain⟨a,f,rfl⟩:=q j ob c
  exact i.base j a b f p
 ·obtain⟨a,f,rfl⟩:=q j ob c
  obtain⟨O,J,rfl⟩:=q K L I;exact i.inj _ _ _ _ _ f J p G
def VR.lS{Rd:Nat->Nat->Value->Prop}{E:Option Env}{v:Value}(s:VR Rd E (.sl G d N) v):
 ∃a g f,v=.slice a N.length g/\(∀r∈N,r.length=d)/\(∀c∈N.flatten,c.one=true)/\LR (VR Rd none) N.flatten f/\N.length<=g/\g<=maxLen/\(G=true->g=N.length)/\
  (f≠[]->∃b o,a=some ⟨b,o,none⟩/\∀(j:Nat) u,f[j]? =some u->Rd b (o+j) u):=by
 cases s with
 |sl f t k q p i l m n=>exact⟨_,_,f,rfl,t,k,⟨q,p⟩,i,l,m,n⟩
def LR.one{Rd:Nat->Nat->Value->Prop}{a:List Value}(h:LR (VR Rd none) y a)(d:∀c∈y,c.one=true):∀u∈a,u.oneCell'=true:=by
 intro u g;obtain⟨j,b,rfl⟩:=aqY g;have f:j<y.length:=by rw[<-h.1];exact b
 exact(h.2 j y[j] a[j] (aqm f) (aqm b)).jk (d _ (asH _)) (λ_ _ h=>by cases h)
section
variable{P:Program}
def qa(w:World)(t k E:TypeId)(i:TypeInfo)(j:P.underlying t=some (.slice E))(f:P.info? E=some i)(a c:Option Addr)(n b d:Nat)(g:n<=b):
 (Builtin.append_ #[t,t] k #[.slice a n b,.slice c 0 d]).run P w=.ok (.slice a n b) w:=by
 cases a<;>cases c<;>simp[Builtin.append_,aqF j,sizeOf,typeInfo,f,Builtin.lenOf,Builtin.firstCells,g,storeCells,loadCells,loadCellsFrom]
def Bx.setRow{B:Bs}{w:World}(h:Bx B w){g:Nat}(d:B.gU g)(a:Array Value):Bx B (w.setRow g a):=
 h.step rfl rfl rfl (by simp[World.setRow]) λb c _=>as5 w g b a (λe=>c (by rw[e];exact d))
def SR.append(I:SR w0 Rd0 e h w){k:Nat}(a9:k<4294967296){E:TypeId}{q:Nat}{d ys:List (List AV)}{wr tt:Bool}(hk:aY h k=some (.arr E q d wr))
 (t R:TypeId) (i:TypeInfo) (z:Value) (Y:P.underlying t=some (.slice E)) (V:P.info? E=some i) (hz:i.zero=some z) (y:i.size=q) (aT:z.cells.size=q) (aJ:0<q)
 {aA:Value} (aN:VR (bF w0 Rd0 e h w) (some e) (.sl tt q ys) aA)
 (ak:d.length+ys.length<=maxLen) (aD:(d.length+ys.length)*i.bytes<=140737488355328):
 ∃v' w' nb l,(Builtin.append_ #[t,t] R #[e.sv k,aA]).run P w=.ok v' w'/\
  SR w0 Rd0 (e.cz k nb v' l) ((k,some (.arr E q (d++ys) wr))::bh k h) w'/\
  ∀b o u,bF w0 Rd0 e h w b o u->bF w0 Rd0 (e.cz k nb v' l) ((k,some (.arr E q (d++ys) wr))::bh k h) w' b o u:=by
 obtain⟨x,D⟩:=I.kill k;have H:aY (bh k h) k=some (.arr E q d wr):=by rw[da,hk];rfl
 have ab:=dQ k h;obtain⟨a2,U,us,rfl,ay,ax,Q,aU,aV,_,aQ⟩:=aN.lS;have aS:=dX ay;obtain⟨ag,aj,ao,ae⟩:=x.ob _ _ H;have a5:=dX ag;have aw:∀r∈d++ys,r.length=q:=λr f=>by
  rcases aqp.1 f with f|f
  ·exact ag r f
  ·exact ay r f
 have av:∀c∈(d++ys).flatten,c.one=true:=λc K=>by
  rw[arQ]at K;rcases aqp.1 K with K|K
  ·exact aj c K
  ·exact ax c K
 unfold maxLen at ak;by_cases aF:ys.length=0
 ·
  have aR:ys=[]:=arh aF;subst aR;simp only[aqV,aq5]at*;obtain⟨a,n,m,af,ac⟩:∃a n m,e.sv k=.slice a n m/\n<=m:=by
   rcases ae with⟨_,_,a,J⟩|⟨g,m,cur,F,af,a1,_⟩
   ·exact⟨a,0,0,J,aqf _⟩
   ·exact⟨_,_,_,af,a1⟩
  obtain⟨h1,h2⟩:=x.tM k (e.bJ k) (e.sv k) (e.cA k) (some (.arr E q d wr)) I.ext (.inl ⟨ab,a9⟩) (aqf _) (λ_ _ _=>rfl)
   (λb p _=>⟨(x.base _ _ _ H p).1,(x.base _ _ _ H p).2,.inl ⟨_,H,p⟩⟩) (λb o u ob ho p a3 L=>⟨L,λ_ _=>a3⟩)
   (λRd C _ az W=>by
    obtain rfl:=aql W;refine⟨ag,aj,λah=>by rw[Env.bN];exact ao ah,?_⟩;rcases ae with⟨f,al,a,J⟩|⟨g,m,cur,F,a6,a1,hm,M,a8,O,ap⟩
    ·exact .inl ⟨f,by rw[Env.bL];exact al,a,by rw[Env.dz];exact J⟩
    ·exact .inr ⟨g,m,cur,by rw[Env.bL];exact F,by rw[Env.dz];exact a6,a1,hm,M,a8,O.imp λ_ _ v=>v.mono C,by rw[Env.bN];exact ap⟩)
  refine⟨e.sv k,w,e.bJ k,e.cA k,?_,h1,λb o u f=>h2 b o u (D b o u f)⟩;rw[af];exact qa w t R E i Y V a a2 n m U ac
 ·
  have aa:0<ys.length:=by omega
  have A:us.length=ys.length*q:=by rw[Q.1,aS]
  have aP:us≠[]:=by
   intro hh;rw[hh]at A;have:=asK aa aJ;simp at A;omega
  obtain⟨S,Z,rfl,aE⟩:=aQ aP;have a4:∀(j:Nat) u,us[j]? =some u->w.cell? ((⟨S,Z,none⟩:Addr).add j)=some u:=λj u N=>by
   rw[aqW];exact(aE j u N).1
  have aO:=Q.one ax;have ai:∀(B:List Value),LR (VR (bF w0 Rd0 e (bh k h) w) none) d.flatten B->∀(a0:Nat) (wv:World),wv.heap=w.drew.heap->Bx w0 wv.drew->∀s,d.length+ys.length<=s->s<=maxLen->
   SR w0 Rd0 (e.cz k (some w.heap.size) (.slice (some ⟨w.heap.size,0,none⟩) (d.length+ys.length) s) 0) ((k,some (.arr E q (d++ys) wr))::bh k h)
    (w.drew.alloc (.cells (B.toArray++us.toArray++Builtin.zeroCells z.cells (s - (d.length+ys.length))) E))/\
   ∀b o u,bF w0 Rd0 e (bh k h) w b o u->bF w0 Rd0 (e.cz k (some w.heap.size) (.slice (some ⟨w.heap.size,0,none⟩) (d.length+ys.length) s) 0) ((k,some (.arr E q (d++ys) wr))::bh k h)
    (w.drew.alloc (.cells (B.toArray++us.toArray++Builtin.zeroCells z.cells (s - (d.length+ys.length))) E)) b o u:=by
   intro B X a0 wv _ _ s ac aG;have aM:(B.toArray++us.toArray++Builtin.zeroCells z.cells (s - (d.length+ys.length))).size=s*q:=by
    simp only[asr,ar3,arR,aT,X.1,a5,A,<-aqS];congr 1;omega
   have aq:∀b,b<w.heap.size->(w.drew.alloc (.cells (B.toArray++us.toArray++Builtin.zeroCells z.cells (s - (d.length+ys.length))) E)).heap[b]? =w.heap[b]? :=λb p=>Y3 w.drew _ b p;refine x.tM k (some w.heap.size) _ 0 _ ((I.ext.drew).alloc _) (.inl ⟨ab,a9⟩) (by simp) (λb p _=>aq b p) (λb p _=>?_) (λb o u ob ho p a3 L=>?_) (λRd C _ az W=>?_)
   ·obtain rfl:=aql p
    exact⟨I.ext.gU (aqf _),by simp,.inr (aqf _)⟩
   ·have aC:=(x.base _ _ _ ho p).2
    refine⟨by rw[asG (w:=w) (aq b aC)];exact L,λ_ aB=>?_⟩;obtain rfl:=aql aB;omega
   ·obtain rfl:=aql W
    refine⟨aw,av,λ_=>Env.bN,.inr ⟨w.heap.size,s,_,Env.bL,?_,?_,aG,Wu w.drew _,aM,?_,by rw[Env.bN];exact aqI _⟩⟩
    ·rw[Env.dz,aqy]
    ·rw[aqy];exact ac
    ·rw[arQ]
     have e1:(B.toArray++us.toArray++Builtin.zeroCells z.cells (s - (d.length+ys.length))).toList.take (d.flatten++ys.flatten).length=B++us:=by
      rw[ass,ass,aqy,<-X.1,<-Q.1,<-aqy];exact as6
     rw[e1];exact(X.imp λ_ _ v=>v.mono C).append (Q.imp λ_ _ v=>v.mono λb o u f=>C b o u (D b o u f))
  have an:∀a0,grownCap w (d.length+ys.length) a0 E<=maxLen:=λa0=>aud w _ a0 E (by unfold maxLen;exact ak);rcases ae with⟨f,al,a,J⟩|⟨g,m,cur,F,a6,a1,hm,M,a8,O,ap⟩
  ·subst f
   simp only[aq5,aqN,aqZ]at*;have G:=ai [] LR.nil 0 w rfl I.ext.drew (grownCap w ys.length 0 E) (arF w _ 0 E) (an 0);cases a with
   |none=>
    refine⟨_,_,some w.heap.size,0,?_,G.1,λb o u f=>G.2 b o u (D b o u f)⟩;rw[J];have:=aue (P:=P) w t R E i z Y V hz ⟨S,Z,none⟩ ys.length U us (by rw[A,y]) a4 aa (by omega) (by omega);simpa using this
   |some a=>
    refine⟨_,_,some w.heap.size,0,?_,G.1,λb o u f=>G.2 b o u (D b o u f)⟩;rw[J];have:=ast (P:=P) w t R E i z Y V hz a 0 0 [] (by simp) (by simp) ⟨S,Z,none⟩ ys.length U us (by rw[A,y]) a4 (by omega) (by omega) (by rw[aqN,nextslicecap_zero aa];omega);simpa using this
  ·by_cases ad:d.length+ys.length<=m
   ·
    have am:d.length*i.size+us.length<=cur.size:=by rw[y,A,a8,<-aqS];exact asu _ ad
    have f:=run_append_room (P:=P) w t R E i Y V g d.length m cur M ⟨S,Z,none⟩ ys.length U us (by rw[A,y]) a4 aO ad am;have a7:=x.base _ _ _ H F;have aL:cur.toList.take (d.length*i.size)=cur.toList.take d.flatten.length:=by rw[y,a5]
    have ar:(cur.toList.take d.flatten.length).length=d.flatten.length:=O.1;rw[aL]at f;refine⟨_,_,some g,e.cA k,by rw[a6];exact f,?_⟩;have au:=auf w g cur ((cur.toList.take d.flatten.length++us++cur.toList.drop (d.length*i.size+us.length)).toArray) E (0,0) M;obtain⟨h1,h2⟩:=x.tM (w':=w.setRow g (cur.toList.take d.flatten.length++us++cur.toList.drop (d.length*i.size+us.length)).toArray) k (some g) (.slice (some ⟨g,0,none⟩) (d.length+ys.length) m) (e.cA k) (some (.arr E q (d++ys) wr))
     (I.ext.setRow a7.1 _) (.inl ⟨ab,a9⟩) (by simp) (λb p aH=>as5 w g b _ (λhh=>aH _ H (by rw[F];exact aqr some hh.symm)))
     (λb p _=>by
      obtain rfl:=aql p;exact⟨a7.1,by simp;exact a7.2,.inl ⟨_,H,F⟩⟩)
     (λb o u ob ho p a3 L=>by
      obtain rfl:g=b:=aql (F.symm.trans p);refine⟨?_,λ_ _=>a3⟩;have aI:o<d.flatten.length:=by omega
      rw[arj w g o cur E (0,0) M]at L;rw[arj _ g o _ E (0,0) au];have:o<(cur.toList.take d.flatten.length).length:=by omega
      simp only[arJ];rw[aqJ,aq2 this,aqT,aqd aI];simpa using L)
     (λRd C _ az W=>by
      obtain rfl:=aql W;refine⟨aw,av,λah=>by rw[Env.bN];exact ao ah,.inr ⟨g,m,_,Env.bL,by rw[Env.dz,aqy],by rw[aqy];exact ad,hm,au,?_,?_,?_⟩⟩
      ·simp only[ar3,aqy,ar4,asv,ar]
       rw[y]at am⊢;rw[a5];omega
      ·have e1:(cur.toList.take d.flatten.length++us++cur.toList.drop (d.length*i.size+us.length)).toArray.toList.take (d++ys).flatten.length=cur.toList.take d.flatten.length++us:=by
        rw[arQ,aqy,<-Q.1];exact as7 (by rw[aqy,ar])
       rw[e1,arQ];exact(O.imp λ_ _ v=>v.mono C).append (Q.imp λ_ _ v=>v.mono λb o u f=>C b o u (D b o u f))
      ·rw[Env.bN,arQ,aqy];omega)
    exact⟨h1,λb o u f=>h2 b o u (D b o u f)⟩
   ·have X:∀(j:Nat) u,(cur.toList.take d.flatten.length)[j]? =some u->w.cell? ((⟨g,0,none⟩:Addr).add j)=some u:=λj u N=>by
     rw[aqW,aqN,arj w g j cur E (0,0) M];rw[aqT]at N;split at N
     ·simpa using N
     ·cases N
    have G:=ai _ O m w rfl I.ext.drew (grownCap w (d.length+ys.length) m E) (arF w _ m E) (an m);refine⟨_,_,some w.heap.size,0,?_,G.1,λb o u f=>G.2 b o u (D b o u f)⟩;rw[a6];exact ast (P:=P) w t R E i z Y V hz ⟨g,0,none⟩ d.length m (cur.toList.take d.flatten.length) (by rw[O.1,a5,y]) X ⟨S,Z,none⟩ ys.length U us (by rw[A,y]) a4 (by omega) (by omega) (as8 (by omega) aD)
end
end
variable{D:Act}{I:Bs}{L:Hp}{A:Operand}{S:TypeId}
structure Ga(w0:Bs)(Rd0:Nat->Nat->Value->Prop)(e:Env)(st:St)(a:Act)(w:World):Prop where
 n:a.tmps.size=st.n/\st.n<=1000000
 d:a.defers=w0.df
 sr:SR w0 Rd0 e st.h w
 tr:TR (bF w0 Rd0 e st.h w) e st.t a.tmps
def lj:Value->AV
 |.slice none 0 0=>.sl true 0 []
 |x=>.v x
def gA(g:Nat):AV:=match Ws Y2 g with
 |some (k,l)=>.fp (l.map λx=>.v (.int k x))
 |none=>.un
def St.ev(s:St):Operand->AV
 |.tmp i=>bz s.t i
 |.const v=>lj v
 |.global g=>gA g
 |.func f=>.v (.func (.func f) #[] #[])
def CF{Rd:Nat->Nat->Value->Prop}{E:Option Env}(x:Value):VR Rd E (lj x) x:=by
 unfold lj;split
 ·exact VR.sl (rows:=[]) [] (by simp) (by simp) rfl (by simp) (aqf _) (aqI _) (λ_=>rfl) (by simp)
 ·exact .v
def Ga.ev{q:Bs}{p:Nat->Nat->Value->Prop}{e:Env}{st:St}{a:Act}{w:World}(h:Ga q p e st a w)(x:Operand):VR (bF q p e st.h w) (some e) (st.ev x) (a.eval x):=by
 cases x with
 |tmp i=>exact h.tr i
 |const v=>exact CF v
 |global g=>
  simp only[St.ev,gA];split
  ·rename_i k l r
   refine VR.fp (o:=0) (l.map λx=>Value.int k x) (by simp) (λj c u n b=>?_) λj u b=>?_
   ·rw[aqA]at n b
    cases m:l[j]? with
    |none=>rw[m]at n;cases n
    |some x=>rw[m]at n b;cases n;cases b;exact .v
   ·rw[aqA]at b
    cases m:l[j]? with
    |none=>rw[m]at b;cases b
    |some x=>
     rw[m]at b;cases b;rw[aqN];exact h.sr.CD ⟨k,l,x,r,m,rfl⟩
  ·exact .un
 |func f=>exact .v
def aeS:TypeDesc->Bool
 |.struct _|.array _ _=>true
 |_=>false
def O_(P:Program)(t:TypeId):Option (Bool×Nat):=
 match P.underlying t,P.info? t with
 |some d,some i=>some (aeS d,i.size)
 |_,_=>none
def Ft(P:Program)(t:TypeId):Option (TypeId×Nat×Nat×List Value):=
 match P.underlying t with
 |some (.slice e)=>match P.info? e with
  |some i=>match i.zero with
   |some z=>if z.cells.size=i.size then some (e,i.size,i.bytes,z.cells.toList)else none
   |none=>none
  |none=>none
 |_=>none
def arA(P:Program)(t:TypeId):Option (Nat×TypeId×Nat):=
 match P.underlying t with
 |some (.array n e)=>match P.info? e with
  |some i=>some (n,e,i.size)
  |none=>none
 |_=>none
def YV(P:Program)(t:TypeId)(f:Nat):Option (Nat×Bool×Nat):=
 match P.underlying t with
 |some (.struct fs)=>match fs[f]? with
  |some fl=>match O_ P fl.type with
   |some (ag,n)=>some (fl.offset,ag,n)
   |none=>none
  |none=>none
 |_=>none
def BH(st:St)(p:AV)(n:Nat)(cs:List AV):Prop:=
 match p with
 |.pt k o=>∃t Rt,aY st.h k=some (.box t Rt)/\t≠CC/\o+n<=Rt.length/\cs=(Rt.drop o).take n
 |.pe k i sz o=>(∃t rows wr r,aY st.h k=some (.arr t sz rows wr)/\rows[i]? =some r/\o+n<=r.length/\cs=(r.drop o).take n)\/
  ∃t Rt c,aY st.h k=some (.nr t Rt)/\Rt[i]? =some c/\sz=1/\o=0/\n=1/\cs=[c]
 |.fp Rt=>n<=Rt.length/\cs=Rt.take n
 |_=>False
def RS(P:Program)(o:Oper)(st:St)(c:AV):Prop:=
 ∀w0 Rd0 e a w,Ga w0 Rd0 e st a w->∃v,VR (bF w0 Rd0 e st.h w) (some e) c v/\∀w',Ext w w'->(execOp a.eval o).run P w'=.ok (.value v) w'
section
variable{P:Program}{st:St}{d:Option Tmp}{ty:TypeId}{pos:String}{af:Array Edge}{gd:Option (Nat×Bool)}
def RS.move(x:Operand):RS P ⟨d,.move x,ty,pos,af,gd⟩ st (st.ev x):=λf b e a w h=>
 ⟨a.eval x,h.ev x,λc _=>by simp[execOp]⟩
def RS.assign(x:Operand):RS P ⟨d,.assign x,ty,pos,af,gd⟩ st (st.ev x):=λf b e a w h=>
 ⟨a.eval x,h.ev x,λc _=>by simp[execOp]⟩
def RS.pick(c x y:Operand)(t:Bool)(g:st.ev c=.v (.bool t)):RS P ⟨d,.pick c x y,ty,pos,af,gd⟩ st (if t then st.ev x else st.ev y):=λk j e a w h=>by
 have b:=h.ev c;rw[g]at b;have f:=b.bE;cases t
 ·exact⟨a.eval y,by simpa using h.ev y,λi _=>by simp[execOp,f,asBool]⟩
 ·exact⟨a.eval x,by simpa using h.ev x,λi _=>by simp[execOp,f,asBool]⟩
def LR.sub{R:AV->Value->Prop}(a:LR R y h)(o n:Nat)(b:o+n<=y.length):LR R ((y.drop o).take n) ((h.drop o).take n)/\((h.drop o).take n).length=n:=by
 refine⟨(a.drop o).take n,?_⟩;rw[aq0,ar4,a.1];omega
def CG(h:Ga I c u st D g){n:Nat}(l:BH st B n y){v:Value}(w:VR (bF I c u st.h g) (some u) B v):
 ∃b o z,v=.pointer (some ⟨b,o,none⟩)/\z.length=n/\LR (VR (bF I c u st.h g) (some u)) y z/\∀(j:Nat) a,z[j]? =some a->g.cell? ⟨b,o+j,none⟩=some a:=by
 cases B with
 |pt k o=>
  obtain⟨t,K,H,a4,O,rfl⟩:=l;cases w with
  |pt q=>
   obtain⟨_,s,z,F,a5,A⟩:=h.sr.ob _ _ H;obtain rfl:=aql (F.symm.trans q);have C:=A.sub o n O;refine⟨s,o,_,rfl,C.2,C.1,λj a f=>?_⟩;rw[arj g s (o+j) z.toArray t (0,0) (a5.cells a4)];rw[aqT]at f;split at f
   ·rw[arD]at f;simpa using f
   ·cases f
 |pe k i p o=>
  rcases l with l|⟨t,K,e,H,l,rfl,rfl,rfl,rfl⟩
  case inr=>
   cases w with
   |pe q=>
    obtain⟨_,Q⟩:=h.sr.ob _ _ H;rcases Q with⟨_,M,_⟩|⟨s,V,L,F,a3,X,hm,N,Z,A⟩
    ·rw[M]at q;cases q
    obtain rfl:=aql (F.symm.trans q);obtain⟨a,U,a6⟩:=A.get l;have hi:i<K.length:=(aqh.1 l).1;refine⟨s,i*1+0,[a],rfl,rfl,LR.cons a6 LR.nil,λj u' f=>?_⟩;cases j with
    |zero=>
     simp at f;subst f;rw[arj g s _ L t (0,0) N];rw[aqT,aqd hi]at U;simpa using U
    |succ j=>simp at f
  obtain⟨t,m,wr,r,H,J,O,rfl⟩:=l;cases w with
  |pe q=>
   obtain⟨E,a7,_,Q⟩:=h.sr.ob _ _ H;rcases Q with⟨_,M,_⟩|⟨s,V,L,F,a3,X,hm,N,Z,A,a8⟩
   ·rw[M]at q;cases q
   obtain rfl:=aql (F.symm.trans q);have a9:r.length=p:=E r (aqw J);have eK:i<m.length:=(aqh.1 J).1;have a0:(m.flatten.drop (i*p)).take p=r:=by
    have:∀(m:List (List AV)) (i:Nat),(∀r∈m,r.length=p)->m[i]? =some r->(m.flatten.drop (i*p)).take p=r:=by
     intro m
     induction m with
     |nil=>intro i _ G;simp at G
     |cons x m ih=>
      intro i E G;have R:x.length=p:=E x (by simp);cases i with
      |zero=>
       simp at G;subst G;simp only[asM,aq3,aqR];exact as7 R
      |succ i=>
       rw[aqR,aqS,asj,aug,<-R,au1];rw[R];exact ih i (λr J=>E r (by simp[J])) (by simpa using G)
    exact this m i E J
   have a2:((m.flatten.drop (i*p+o)).take n)=(r.drop o).take n:=by
    rw[<-a0,<-asl,List.drop_take,asw];congr 1;omega
   have a1:i*p+o+n<=m.flatten.length:=by
    rw[dX E];have:(i+1)*p<=m.length*p:=asu _ eK;rw[aqS]at this;omega
   have C:=A.sub (i*p+o) n a1;rw[a2]at C;refine⟨s,i*p+o,_,rfl,C.2,C.1.imp λ_ _ w=>w.cJ,λj a f=>?_⟩;rw[arj g s _ L t (0,0) N];rw[aqT]at f;split at f
   ·rw[arD,aqT]at f
    split at f
    ·simpa using f
    ·cases f
   ·cases f
 |fp K=>
  obtain⟨O,rfl⟩:=l;cases w with
  |fp z S Y W=>
   have A:LR (VR (bF I c u st.h g) none) K z:=⟨S,Y⟩;refine⟨_,_,z.take n,rfl,by rw[aq0,S];omega,(A.take n).imp λ_ _ w=>w.cJ,λj a f=>?_⟩;rw[aqT]at f;split at f
   ·exact(W j a f).1
   ·cases f
 |un=>exact l.elim
 |v x=>exact l.elim
 |sl tt p m=>exact l.elim
 |ow k=>exact l.elim
 |ag y=>exact l.elim
 |tu vs=>exact l.elim
 |mp k=>exact l.elim
 |sw=>exact l.elim
 |cl fn fs y=>exact l.elim
def lK{a:TypeDesc}(w:World)(h:P.underlying s=some a):(isAgg s).run P w=.ok (aeS a) w:=by
 simp only[isAgg,aqs,aqF h,aqt];cases a<;>simp[aeS]
def cq{i:TypeInfo}(w:World)(h:P.info? s=some i):(sizeOf s).run P w=.ok i.size w:=by
 simp[sizeOf,typeInfo,h]
def hU(h:O_ P s=some (G,v)):∃a i,P.underlying s=some a/\P.info? s=some i/\G=aeS a/\v=i.size:=by
 unfold O_ at h;split at h
 ·rename_i a i b c
  simp only[aqg,aqx]at h;exact⟨a,i,b,c,h.1.symm,h.2.symm⟩
 ·cases h
def oL(k:O_ P s=some (G,v)){b o:Nat}{us:List Value}{w:World}(h:us.length=v)(e:∀(j:Nat) u,us[j]? =some u->w.cell? ⟨b,o+j,none⟩=some u):
 (G=true->(loadVar s ⟨b,o,none⟩).run P w=.ok (.agg us.toArray) w)/\(G=false->∀u,us=[u]->(loadVar s ⟨b,o,none⟩).run P w=.ok u w):=by
 obtain⟨m,i,c,f,rfl,rfl⟩:=hU k;refine⟨λa=>?_,λa u l=>?_⟩
 ·have:=run_loadCells_list (P:=P) w ⟨b,o,none⟩ us (λj u g=>by rw[aqW];exact e j u g)
  rw[h]at this;simp only[loadVar,aqs,lK w c,aqt,a,aqP,cq w f,this,aqu]
 ·subst l
  have:=e 0 u rfl;simp only[arG]at this;simp only[loadVar,aqs,lK w c,aqt,a,arS,aq_];simp[load,Sem.run,this]
def RS.load(x:O_ P s=some (G,v))(n:BH st (st.ev A) v y)(t:(G=true/\B=.ag y)\/(G=false/\y=[B])):
 RS P ⟨d,.load s A,ty,pos,af,gd⟩ st B:=λC z e a w h=>by
 obtain⟨b,o,g,m,r,i,p⟩:=CG h n (h.ev A);have l:=λ(c:World) (f:Ext w c)=>oL (P:=P) x (b:=b) (o:=o) (us:=g) (w:=c) r (λj u q=>f.cell (p j u q));rcases t with⟨k,rfl⟩|⟨k,rfl⟩
 ·refine⟨.agg g.toArray,.ag g i.1 i.2,λc f=>?_⟩
  have:=(l c f).1 k;simp[execOp,Instr.loadAt,Instr.sureAddr,m,this]
 ·obtain⟨u,rfl⟩:∃u,g=[u]:=by
   match g,i.1 with
   |[u],_=>exact⟨u,rfl⟩
  refine⟨u,i.2 0 B u rfl rfl,λc f=>?_⟩;have:=(l c f).2 k u rfl;simp[execOp,Instr.loadAt,Instr.sureAddr,m,this]
def gg(p:AV)(off:Nat):Option AV:=
 match p with
 |.pt k o=>some (.pt k (o+off))
 |.pe k i sz o=>some (.pe k i sz (o+off))
 |.fp cs=>some (.fp (cs.drop off))
 |_=>none
def FX{p q:AV}{off:Nat}(f:gg p off=some q){v:Value}(s:VR (bF I c u L g) (some u) p v):
 ∃b o,v=.pointer (some ⟨b,o,none⟩)/\VR (bF I c u L g) (some u) q (.pointer (some ⟨b,o+off,none⟩)):=by
 cases s with
 |pt h=>simp only[gg,aqg]at f;subst f;exact⟨_,_,rfl,.pt h⟩
 |pe h=>
  simp only[gg,aqg]at f;subst f;refine⟨_,_,rfl,?_⟩;rw[as9];exact .pe h
 |fp t r n m=>
  simp only[gg,aqg]at f;subst f;refine⟨_,_,rfl,.fp (t.drop off) (by simp[r]) (λj e a i k=>?_) (λj a l=>?_)⟩
  ·rw[arD]at i k;exact n _ e a i k
  ·rw[arD]at l
   rw[as9];exact m _ a l
 |un=>simp[gg]at f
 |v=>simp[gg]at f
 |sl=>simp[gg]at f
 |ow=>simp[gg]at f
 |sw=>simp[gg]at f
 |ag=>simp[gg]at f
 |tu=>simp[gg]at f
 |mp=>simp[gg]at f
 |cl=>simp[gg]at f
def RS.fieldAddr{f g n:Nat}(c:YV P s f=some (g,G,n))(q:n≠0)(r:gg (st.ev A) g=some B):
 RS P ⟨d,.fieldAddr s A f,ty,pos,af,gd⟩ st B:=λH x e a w h=>by
 obtain⟨b,o,t,u⟩:=FX r (h.ev A);refine⟨_,u,λv D=>?_⟩;unfold YV at c;split at c
 ·rename_i z j
  split at c
  ·rename_i fl k
   split at c
   ·rename_i y E l
    simp only[aqg,aqx]at c;obtain⟨rfl,rfl,rfl⟩:=c;obtain⟨F,i,C,m,_,rfl⟩:=hU l;have p:(⟨b,o,none⟩:Addr).add fl.offset=⟨b,o+fl.offset,none⟩:=aqW ..;simp[execOp,Instr.fieldAt,aqF j,k,t,Instr.sureAddr,fieldPlace,cq v m,q,p]
   ·cases c
  ·cases c
 ·cases c
def cK(a:Ft P s=some (S,v,Y,h)):∃i b,P.underlying s=some (.slice S)/\P.info? S=some i/\i.zero=some b/\b.cells.size=v/\i.size=v/\i.bytes=Y/\b.cells.toList=h:=by
 unfold Ft at a;split at a
 ·rename_i j c
  split at a
  ·rename_i i e
   split at a
   ·rename_i b f
    split at a
    ·rename_i g
     simp only[aqg,aqx]at a;obtain⟨rfl,rfl,rfl,rfl⟩:=a;exact⟨i,b,c,e,f,g,rfl,rfl,rfl⟩
    ·cases a
   ·cases a
  ·cases a
 ·cases a
def sK(h:arA P s=some (v,S,Y)):∃i,P.underlying s=some (.array v S)/\P.info? S=some i/\i.size=Y:=by
 unfold arA at h;split at h
 ·rename_i e c a
  split at h
  ·rename_i i b
   simp only[aqg,aqx]at h;obtain⟨rfl,rfl,rfl⟩:=h;exact⟨i,a,b,rfl⟩
  ·cases h
 ·cases h
def RS.Ru{x c:Operand}{k:IntKind}{i:Int}
 (M:Ft P s=some (S,v,Y,h)) (p:st.ev x=.sl G v N) (O:st.ev c=.v (.int k i)) (A:0<=i) (n:N[i.toNat]? =some y) (a1:0<v):
 RS P ⟨d,.indexAddr s x c,ty,pos,af,gd⟩ st (.fp y):=λw0 V e a w f=>by
 obtain⟨inf,zv,B,C,h3,h4,rfl,_,_⟩:=cK M;have z:=f.ev x;rw[p]at z;have q:=f.ev c;rw[O]at q;have q:=q.bE;obtain⟨W,X,R,F,l,Z,t,a0,hm,_,D⟩:=z.lS;have eK:i.toNat<N.length:=(aqh.1 n).1;have a2:y.length=inf.size:=l y (aqw n);have I:(N.flatten.drop (i.toNat*inf.size)).take inf.size=y:=by
  have:∀(N:List (List AV)) (i:Nat),(∀y∈N,y.length=inf.size)->N[i]? =some y->(N.flatten.drop (i*inf.size)).take inf.size=y:=by
   intro N
   induction N with
   |nil=>intro i _ g;simp at g
   |cons x N Q=>
    intro i l g;have p:x.length=inf.size:=l x (by simp);cases i with
    |zero=>
     simp at g;subst g;simp only[asM,aq3,aqR];exact as7 p
    |succ i=>
     rw[aqR,aqS,asj,aug,<-p,au1];rw[p];exact Q i (λy n=>l y (by simp[n])) (by simpa using g)
  exact this N i.toNat l n
 have J:i.toNat*inf.size+inf.size<=N.flatten.length:=by
  rw[dX l];have:(i.toNat+1)*inf.size<=N.length*inf.size:=asu _ eK;rw[aqS]at this;omega
 have L:R≠[]:=by
  intro g;have:=t.1;rw[g]at this;simp only[aq5]at this;omega
 obtain⟨b,o,rfl,H⟩:=D L;have r:=t.sub (i.toNat*inf.size) inf.size J;rw[I]at r;refine⟨.pointer (some ⟨b,o+i.toNat*inf.size,none⟩),.fp _ r.1.1 r.1.2 (λj u m=>?_),λU a3=>?_⟩
 ·rw[aqT]at m
  split at m
  ·rw[arD]at m
   rw[as9];exact H _ u m
  ·cases m
 ·have E:(⟨b,o,none⟩:Addr).add (i.toNat*inf.size)=⟨b,o+i.toNat*inf.size,none⟩:=aqW ..
  have K:i<(N.length:Int):=by omega
  simp[execOp,Instr.indexAt,q,asIntOf,aqF B,F,A,K,cq U C,E]
def RS.aeT{x y:Operand}{rows:List (List AV)}{wr:Bool}{k:IntKind}{i:Int}{l:Nat}
 (E:Ft P s=some (S,v,Y,h)) (F:st.ev x=.ow l) (A:aY st.h l=some (.arr S v rows wr)) (G:st.ev y=.v (.int k i)) (o:0<=i) (m:i<rows.length):
 RS P ⟨d,.indexAddr s x y,ty,pos,af,gd⟩ st (.pe l i.toNat v 0):=λw0 I e a w b=>by
 obtain⟨j,zv,p,q,L,M,rfl,_,_⟩:=cK E;have g:=b.ev x;rw[F]at g;have f:=b.ev y;rw[G]at f;have f:=f.bE;obtain⟨Z,K,_,C⟩:=b.sr.ob _ _ A;rcases C with⟨B,O,_⟩|⟨c,n,J,z,D,Q,X,U,R,W,V⟩
 ·subst B;simp at m;omega
 have t:a.eval x=.slice (some ⟨c,0,none⟩) rows.length n:=by
  generalize N:a.eval x=u at g;cases g with
  |ow=>exact D
 refine⟨.pointer (some ⟨c,i.toNat*j.size+0,none⟩),.pe z,λH a0=>?_⟩;have r:(⟨c,0,none⟩:Addr).add (i.toNat*j.size)=⟨c,i.toNat*j.size,none⟩:=by rw[aqW,aqN]
 simp[execOp,Instr.indexAt,f,asIntOf,aqF p,t,o,m,cq H q,r]
def RS.vO{x y:Operand}{k:IntKind}{i:Int}{q:AV}
 (r:arA P s=some (v,S,Y)) (z:st.ev y=.v (.int k i)) (g:0<=i) (j:i<v) (p:gg (st.ev x) (i.toNat*Y)=some q):
 RS P ⟨d,.indexAddr s x y,ty,pos,af,gd⟩ st q:=λD B e a w h=>by
 obtain⟨f,l,m,rfl⟩:=sK r;have c:=h.ev y;rw[z]at c;have c:=c.bE;obtain⟨b,o,t,u⟩:=FX p (h.ev x);refine⟨_,u,λA C=>?_⟩;have n:(⟨b,o,none⟩:Addr).add (i.toNat*f.size)=⟨b,o+i.toNat*f.size,none⟩:=aqW ..;simp[execOp,Instr.indexAt,c,asIntOf,aqF l,t,Instr.sureAddr,g,j,cq A m,n]
def qx(st:St):AV->Option Nat
 |.sl _ _ rows=>some rows.length
 |.sw _ _ n _=>some n
 |.ow k=>match aY st.h k with
  |some (.arr _ _ rows _)=>some rows.length
  |some (.nr _ cs)=>some cs.length
  |_=>none
 |_=>none
def aeU(h:Ga I c u st D g)(a:qx st B=some Y){v:Value}(q:VR (bF I c u st.h g) (some u) B v):∃m b,v=.slice m Y b:=by
 cases q with
 |sl G C w A z s x y e=>simp only[qx,aqg]at a;subst a;exact⟨_,_,rfl⟩
 | @ow u k=>
  simp only[qx]at a;split at a
  ·rename_i t F E wr f
   simp only[aqg]at a;subst a;obtain⟨_,_,_,j⟩:=h.sr.ob _ _ f;rcases j with⟨i,_,D,e⟩|⟨n,b,o,p,l,_⟩
   ·subst i;exact⟨D,0,e⟩
   ·exact⟨_,b,l⟩
  ·rename_i t r f
   simp only[aqg]at a;subst a;obtain⟨_,j⟩:=h.sr.ob _ _ f;rcases j with⟨i,_,D,e⟩|⟨n,b,o,p,l,_⟩
   ·subst i;exact⟨D,0,e⟩
   ·exact⟨_,b,l⟩
  ·cases a
 |un=>simp[qx]at a
 |v=>simp[qx]at a
 |pt=>simp[qx]at a
 |pe=>simp[qx]at a
 |sw=>simp only[qx,aqg]at a;subst a;exact⟨_,_,rfl⟩
 |fp=>simp[qx]at a
 |ag=>simp[qx]at a
 |tu=>simp[qx]at a
 |mp=>simp[qx]at a
 |cl=>simp[qx]at a
def jO(P:Program)(t:TypeId):Bool:=match P.underlying t with|some (.slice _)=>true|_=>false
def RS.len{c:Array TypeId}(b:jO P s=true)(i:c[0]? =some s)(g:qx st (st.ev A)=some v):
 RS P ⟨d,.call ⟨.builtin .len, #[A],c⟩,ty,pos,af,gd⟩ st (.v (.int .i64 v)):=λo k e a w h=>by
 obtain⟨l,m,j⟩:=aeU h g (h.ev A);refine⟨_,.v,λn _=>?_⟩;unfold jO at b;split at b
 ·rename_i E f
  simp[execOp,resolve,invoke,builtin,Builtin.len_,i,aqF f,j,goInt]
 ·cases b
def RS.extract{x:Operand}{i:Nat}{f:List AV}{c:AV}(n:st.ev x=.tu f)(j:f[i]? =some c):RS P ⟨d,.extract x i,ty,pos,af,gd⟩ st c:=λr o e a w h=>by
 have b:=h.ev x;rw[n]at b;obtain⟨p,g,k⟩:=b.CB;obtain⟨u,m,l⟩:=k.get j;exact⟨u,l,λq _=>by simp[execOp,Instr.extract,g,m]⟩
def RS.field{t:TypeId}{x:Operand}{f l n:Nat}{o:Bool}{j:List AV}{c:AV}(b:YV P t f=some (l,o,n))(K:st.ev x=.ag j)(G:l+n<=j.length)
 (H:(o=true/\c=.ag ((j.drop l).take n))\/(o=false/\j[l]? =some c)):RS P ⟨d,.field t x f,ty,pos,af,gd⟩ st c:=λR L e a w h=>by
 have B:=h.ev x;rw[K]at B;obtain⟨q,y,z⟩:=B.eS;unfold YV at b;split at b
 ·rename_i N r
  split at b
  ·rename_i g s
   split at b
   ·rename_i M O D
    simp only[aqg,aqx]at b;obtain⟨rfl,rfl,rfl⟩:=b;obtain⟨Q,i,v,E,k,rfl⟩:=hU D;rcases H with⟨p,rfl⟩|⟨p,F⟩
    ·have A:=z.sub g.offset i.size G
     refine⟨.agg ((q.drop g.offset).take i.size).toArray,.ag _ A.1.1 A.1.2,λm _=>?_⟩;rw[p]at k;have C:q.toArray.extract g.offset (g.offset+i.size)=((q.drop g.offset).take i.size).toArray:=by
      simp[au2]
     simp[execOp,Instr.field,aqF r,s,y,asAgg,part,lK m v,<-k,cq m E,C]
    ·obtain⟨u,J,I⟩:=z.get F
     refine⟨u,I,λm _=>?_⟩;rw[p]at k;simp[execOp,Instr.field,aqF r,s,y,asAgg,part,lK m v,<-k,J]
   ·cases b
  ·cases b
 ·cases b
def AV.val:AV->Value
 |.v x=>x
 |_=>undef
end
variable{Q:Exit->Act->World->Prop}{F:Oper}
def SS(P:Program)(o:Oper)(st:St)(K:St->Prop):Prop:=
 ∀w0 Rd0 e a w next Q,Ga w0 Rd0 e st a w->(∀FY,K FY->∀e' a' w',Ga w0 Rd0 e' FY a' w'->next a' w')->o.wp P a w next Q
section
variable{P:Program}{st:St}{d:Nat}{ty:TypeId}{pos:String}{af:Array Edge}{gd:Option (Nat×Bool)}{K:St->Prop}
def dY{w w':World}{v:Value}{next:Act->World->Prop}(a:(execOp D.eval F).run P w=.ok (.value v) w')(h:next (D.put F.dst v) w'):F.wp P D w next Q:=by
 unfold Oper.wp;rw[a];exact h
def sL{w w':World}{next:Act->World->Prop}(a:(execOp D.eval F).run P w=.ok .skip w')(h:next (D.put F.dst undef) w'):F.wp P D w next Q:=by
 unfold Oper.wp;rw[a];exact h
def Ga.put{f:Bs}{b:Nat->Nat->Value->Prop}{e:Env}{a:Act}{w:World}(h:Ga f b e st a w){c:AV}{v:Value}(g:d<st.n)(i:VR (bF f b e st.h w) (some e) c v):
 Ga f b e ⟨st.n,(d,c)::st.t,st.h⟩ (a.put (some d) v) w:=
 ⟨by simpa[Act.put]using h.n,h.d,h.sr,h.tr.put (by rw[h.n.1];exact g) i⟩
def SS.read{b:Op}(j:RS P ⟨some d,b,ty,pos,af,gd⟩ st B)(g:d<st.n)(f:K ⟨st.n,(d,B)::st.t,st.h⟩):SS P ⟨some d,b,ty,pos,af,gd⟩ st K:=by
 intro m c e a w next Q h i
 obtain⟨v,l,k⟩:=j m c e a w h;exact dY (k w (Ext.refl w)) (i _ f _ _ _ (h.put g l))
def cellsOf:AV->Option (List AV)
 |.ag cs=>some cs
 |c=>if c.one then some [c]else none
def mY(h:j.oneCell'=true):j.cells= #[j]:=by
 cases j<;>simp_all[Value.oneCell',Value.cells]
def oM{Rd:Nat->Nat->Value->Prop}(a:cellsOf B=some y)(c:VR Rd (some u) B j)(i:∀k,B=.ow k->(u.sv k).oneCell'=true):
 ∃b,j.cells=b.toArray/\LR (VR Rd (some u)) y b:=by
 cases B with
 |ag l=>
  simp only[cellsOf,aqg]at a;subst a;obtain⟨b,rfl,h⟩:=c.eS;exact⟨b,rfl,h⟩
 |_=>
  simp only[cellsOf]at a;split at a
  ·rename_i e
   simp only[aqg]at a;subst a;have:=c.jk e (λm k f g=>by cases f;exact i k g);exact⟨[j],by rw[mY this],LR.cons c LR.nil⟩
  ·cases a
def Ga.akz(h:Ga I c u st D g)(i:(match aY st.h v with|some (.arr ..)=>true|some (.nr ..)=>true|_=>false)=true):(u.sv v).oneCell'=true:=by
 split at i
 ·rename_i t p o wr b
  obtain⟨_,_,_,e⟩:=h.sr.ob _ _ b;rcases e with⟨_,_,D,a⟩|⟨j,k,l,m,f,_⟩
  ·rw[a];rfl
  ·rw[f];rfl
 ·rename_i t n b
  obtain⟨_,e⟩:=h.sr.ob _ _ b;rcases e with⟨_,_,D,a⟩|⟨j,k,l,m,f,_⟩
  ·rw[a];rfl
  ·rw[f];rfl
 ·cases i
def nL(h:Hp):AV->Bool
 |.ow k=>match aY h k with|some (.arr ..)=>true|some (.nr ..)=>true|_=>false
 |_=>true
def Ga.nL(h:Ga I c u st D g)(a:nL st.h B=true):∀k,B=.ow k->(u.sv k).oneCell'=true:=by
 rintro k rfl;exact h.akz a
def Ga.new(a:Ga I c u st D g)(j:d<st.n)(t:TypeId)(n:t≠CC)(k:LR (VR (bF I c u st.h g) (some u)) y h):
 ∃f,Ga I c f ⟨st.n,(d,.pt d 0)::cP d st.t,(d,some (.box t (y.map (AV.kill d))))::bh d st.h⟩ (D.put (some d) (.pointer (some ⟨g.heap.size,0,none⟩))) (g.alloc (.cells h.toArray t)):=by
 obtain⟨l,e⟩:=a.sr.kill d;obtain⟨m,i⟩:=l.ah3 d t n ((k.imp λ_ _ o=>o.mono e).kill d) (dQ d st.h) (by have:=a.n.2;omega) (uW d y);refine⟨_,⟨by simpa[Act.put]using a.n,a.d,m,TR.put ?_ (by rw[a.n.1];exact j) (.pt Env.bL)⟩⟩;exact(((a.tr.kill d).mono e).mono i).env d (dE d st.t) (λ_ b=>Env.br b) (λ_ b=>Env.cW b)
def SS.box{t:TypeId}{x:Operand}{b:List AV}(m:t≠CC)(f:cellsOf (st.ev x)=some b)(l:nL st.h (st.ev x)=true)(g:d<st.n)
 (c:K ⟨st.n,(d,.pt d 0)::cP d st.t,(d,some (.box t (b.map (AV.kill d))))::bh d st.h⟩):SS P ⟨some d,.box t x,ty,pos,af,gd⟩ st K:=by
 intro r p e a w next Q h k
 obtain⟨o,n,j⟩:=oM f (h.ev x) (h.nL l);obtain⟨q,i⟩:=h.new g t m j;refine dY (v:=.pointer (some ⟨w.heap.size,0,none⟩)) (w':=w.alloc (.cells o.toArray t)) ?_ (k _ c _ _ _ i);simp[execOp,Instr.box,newVar,newRow,newObj,n,Sem.run]
def Ac(P:Program)(t:TypeId):Option (List Value):=(P.info? t).bind λi=>i.zero.map λz=>z.cells.toList
def vP{Rd:Nat->Nat->Value->Prop}{E:Option Env}(b:List Value):LR (VR Rd E) (b.map lj) b:=
 ⟨by simp,λj c u a e=>by
  rw[aqA,e]at a;simp at a;subst a;exact CF u⟩
def SS.alloc{t:TypeId}{z:List Value}(l:t≠CC)(b:Ac P t=some z)(f:d<st.n)
 (c:K ⟨st.n,(d,.pt d 0)::cP d st.t,(d,some (.box t ((z.map lj).map (AV.kill d))))::bh d st.h⟩):SS P ⟨some d,.alloc t,ty,pos,af,gd⟩ st K:=by
 intro q o e a w next Q h k
 obtain⟨p,g⟩:=h.new f t l (vP z);unfold Ac at b;obtain⟨i,j,b⟩:=asx.1 b;obtain⟨n,m,rfl⟩:=aqL.1 b;refine dY (v:=.pointer (some ⟨w.heap.size,0,none⟩)) (w':=w.alloc (.cells n.cells.toList.toArray t)) ?_ (k _ c _ _ _ g);simp[execOp,Instr.alloc,zeroValue,typeInfo,j,m,newVar,newRow,newObj,Sem.run]
def setCells{α:Type}(cs:List α)(o:Nat):List α->List α
 |[]=>cs
 |x::xs=>setCells (cs.set o x) (o+1) xs
def kU{α:Type}:∀(b a:List α) (o:Nat),(setCells a o b).length=a.length
 |[],_,_=>rfl
 |x::b,a,o=>by rw[setCells,kU b];simp
def TR.ic{Rd:Nat->Nat->Value->Prop}{e e':Env}{t:List (Nat×AV)}{a:Array Value}(h:TR Rd e t a)(b:∀j,e'.bJ j=e.bJ j)(c:∀j,e'.sv j=e.sv j):TR Rd e' t a:=λi=>(h i).ic rfl b c
def Ga.nK{B:Bs}{r:Nat->Nat->Value->Prop}{k b:Nat}{t:TypeId}(F:t≠CC):∀(xs:List AV) (q:List Value) (o:Nat) {st:St} {e:Env} {a:Act} {w:World} {n:List AV} (h:Ga B r e st a w) (l:aY st.h k=some (.box t n)) (y:e.bJ k=some b)
 (m:LR (VR (bF B r e st.h w) (some e)) xs q) (D:∀u∈q,u.oneCell'=true) (L:o+xs.length<=n.length) (i:Nat) (z:Nat) (O:z+i=o),
 ∃I H C,(storeCells ⟨b,z,none⟩ q i).run P w=.ok () H/\Ga B r I ⟨st.n,st.t,(k,some (.box t (setCells n o xs)))::C⟩ a H/\∀j,j≠k->aY C j=aY st.h j
 |[],[],o,st,e,a,w,n,h,l,y,m,D,L,i,z,O=>by
  obtain⟨S,g,A,J,G,M⟩:=h.sr.ob _ _ l;have a6:=h.sr.base _ _ _ l y;obtain⟨Q,s⟩:=h.sr.tM k (e.bJ k) (e.sv k) 0 (some (.box t n)) h.sr.ext (.inr ⟨rfl,rfl⟩) (aqf _) (λ_ _ _=>rfl)
   (λV E _=>⟨(h.sr.base _ _ _ l E).1,(h.sr.base _ _ _ l E).2,.inl ⟨_,l,E⟩⟩) (λV o' u' ob a8 E N Y=>by rw[S]at N;omega)
   (λRd s _ aa a3=>by
    obtain rfl:=aql a3;exact⟨Env.bN,g,A,by rw[Env.bL];exact J,G,M.imp λ_ _ p=>(p.mono s).ic rfl (λj=>by by_cases f:j=k<;>simp[Env.cz,f]) (λj=>by by_cases f:j=k<;>simp[Env.cz,f])⟩)
  refine⟨_,w,st.h,rfl,⟨h.n,h.d,Q,(h.tr.mono s).ic (λj=>by by_cases f:j=k<;>simp[Env.cz,f]) (λj=>by by_cases f:j=k<;>simp[Env.cz,f])⟩,λ_ _=>rfl⟩
 |x::xs,u::q,o,st,e,a,w,n,h,l,y,m,D,L,i,z,O=>by
  have hx:VR (bF B r e st.h w) (some e) x u:=m.2 0 x u rfl rfl;have a2:LR (VR (bF B r e st.h w) (some e)) xs q:=⟨by simpa using m.1,λj c v X p=>m.2 (j+1) c v (by simpa using X) (by simpa using p)⟩;obtain⟨Q,s⟩:=h.sr.nK F l y o hx;obtain⟨S,g,A,J,G,M⟩:=h.sr.ob _ _ l;obtain rfl:=aql (J.symm.trans y);have R:∀j,(e.cz k (some g) (e.sv k) 0).bJ j=e.bJ j:=λj=>by by_cases f:j=k<;>simp[Env.cz,f,y]
  have U:∀j,(e.cz k (some g) (e.sv k) 0).sv j=e.sv j:=λj=>by by_cases f:j=k<;>simp[Env.cz,f]
  have Z:Ga B r (e.cz k (some g) (e.sv k) 0) ⟨st.n,st.t,(k,some (.box t (n.set o x)))::st.h⟩ a (w.setCell ⟨g,o,none⟩ u):=⟨h.n,h.d,Q,(h.tr.mono s).ic R U⟩;simp only[aqC]at L;obtain⟨I,H,C,a4,a0,a1⟩:=Ga.nK F xs q (o+1) Z bc Env.bL (a2.imp λ_ _ p=>(p.mono s).ic rfl R U) (λv p=>D v (by simp[p])) (by simp;omega) (i+1) z (by omega);refine⟨I,H,C,?_,a0,λj f=>by rw[a1 j f,a_ f]⟩;have W:(⟨g,z,none⟩:Addr).add i=⟨g,o,none⟩:=by rw[aqW,O]
  have N:o<A.length:=by rw[M.1];omega
  have Y:w.cell? ⟨g,o,none⟩=some A[o]:=by
   rw[arj w g o A.toArray t (0,0) (G.cells F)];simp[N]
  have a7:=asN w g o A.toArray t (G.cells F);have a9:=D u (by simp);have a5:(store ⟨g,o,none⟩ u).run P w=.ok () (w.setCell ⟨g,o,none⟩ u):=by
   cases u<;>simp_all[store,Sem.run,Value.oneCell']
  simp only[storeCells,aqs,W,a5,aqt];exact a4
 |[],u::q,_,_,_,_,_,_,_,_,_,m,_,_,_,_,_=>by have:=m.1;simp at this
 |x::xs,[],_,_,_,_,_,_,_,_,_,m,_,_,_,_,_=>by have:=m.1;simp at this
def LR.anX{Rd:Nat->Nat->Value->Prop}(a:LR (VR Rd (some u)) y h)(g:y.all AV.one=true)(m:∀k,.ow k∈y->(u.sv k).oneCell'=true):∀b∈h,b.oneCell'=true:=by
 intro b n;obtain⟨j,c,rfl⟩:=aqY n;have e:j<y.length:=by rw[<-a.1];exact c
 have f:=asH e;exact(a.2 j y[j] h[j] (aqm e) (aqm c)).jk (aqD.1 g _ f) (λo k i l=>by cases i;exact m k (l▸f))
def Ga.ky{t:List (Nat×AV)}{h i:Hp}(e:Ga I c u ⟨v,t,h⟩ D g)(f:∀j,aY i j=aY h j):Ga I c u ⟨v,t,i⟩ D g:=by
 have m:∀b o a,bF I c u h g b o a↔bF I c u i g b o a:=λb o a=>by unfold bF;simp only[f]
 exact⟨e.n,e.d,⟨e.sr.ext,e.sr.jG,λk ob l=>(e.sr.ob k ob (by rw[<-f];exact l)).mono λb o a=>(m b o a).1,λk ob b l=>e.sr.base k ob b (by rw[<-f];exact l),λk q ob r b n p=>e.sr.inj k q ob r b (by rw[<-f];exact n) (by rw[<-f];exact p),e.sr.tV⟩,e.tr.mono λb o a=>(m b o a).1⟩
def SS.nK{t g:TypeId}{x y:Operand}{k o:Nat}{l f:List AV}{r:Bool}{n:Nat}(R:g≠CC)(L:st.ev x=.pt k o)(F:aY st.h k=some (.box g l))(O:O_ P t=some (r,n))(C:cellsOf (st.ev y)=some f)(G:f.length=n)
 (s:f.all AV.one=true) (I:nL st.h (st.ev y)=true) (J:f.all (nL st.h)=true) (Z:o+n<=l.length) (z:K ⟨st.n,st.t,(k,some (.box g (setCells l o f)))::st.h⟩):
 SS P ⟨none,.store t x y,ty,pos,af,gd⟩ st K:=by
 intro w0 V e a w next Q h H
 obtain⟨q,S,m⟩:=oM C (h.ev y) (h.nL I);have p:=h.ev x;rw[L]at p;generalize A:a.eval x=u at p;cases p with
 | @pt _ _ _ b B=>
  obtain⟨td,i,Y,v,_,rfl⟩:=hU O;obtain⟨W,U,X,M,D,E⟩:=Ga.nK (P:=P) R f q o h F B m (m.anX s λj c=>h.nL (aqD.1 J _ c) j rfl) (by omega) 0 o rfl;refine sL (w':=U) ?_ (H _ z _ _ _ ((D.ky (λj=>by
   by_cases c:j=k
   ·subst c;rw[bc,bc]
   ·rw[a_ c,a_ c,E j c]))))
  have N:q.length=i.size:=by rw[m.1];exact G
  simp[execOp,Instr.storeAt,Instr.sureAddr,A,storeVar,S,cq w v,N,M]
end
def AV.fz:AV->Bool
 |.un|.v _|.sl .. |.fp _=>true
 |_=>false
def VR.CH{Rd:Nat->Nat->Value->Prop}{E:Option Env}(h:VR Rd E B j)(l:B.fz=true):VR Rd none B j:=by
 cases h with
 |un=>exact .un
 |v=>exact .v
 |sl e m g c b f i k a=>exact .sl e m g c b f i k a
 |fp e c b a=>exact .fp e c b a
 |_=>simp[AV.fz]at l
def plA(P:Program)(t:TypeId):Option (List Value×(Nat->Option (Nat×Nat))):=
 match P.info? t,P.underlying t with
 |some it,some (.array _ e)=>
  match it.zero,P.info? e with
  |some z,some ie=>some (z.cells.toList,λi=>some (i*ie.size,ie.size))
  |_,_=>none
 |some it,some (.struct fields)=>
  match it.zero,fields.toList.mapM (λf=>(P.info? f.type).map λi=>(f.offset,i.size))with
  |some z,some places=>some (z.cells.toList,λi=>places[i]?)
  |_,_=>none
 |_,_=>none
def fZ{α:Type}(place:Nat->Option (Nat×Nat))(cs:List α):List (Nat×List α)->Option (List α)
 |[]=>some cs
 |(i,xs)::rest=>match place i with
  |none=>none
  |some (off,size)=>if xs.length=size/\off+size<=cs.length then fZ place (setCells cs off xs) rest else none
def Kf{R:O->Value->Prop}:∀(e:List O) (a:List Value) (b:List O) (f:Array Value) (o:Nat),LR R b f.toList->LR R e a->
 LR R (setCells b o e) ((a.zipIdx).foldl (λ(b:Array Value) (p:Value×Nat)=>b.setIfInBounds (o+p.2) p.1) f).toList:=by
 have r:∀(e:List O) (a:List Value) (b:List O) (f:Array Value) (o i:Nat),LR R b f.toList->LR R e a->
  LR R (setCells b (o+i) e) ((a.zipIdx i).foldl (λ(b:Array Value) (p:Value×Nat)=>b.setIfInBounds (o+p.2) p.1) f).toList:=by
  intro e
  induction e with
  |nil=>
   intro a b f o i h g;have:a=[]:=arh (by simpa using g.1);subst this;simpa[setCells]using h
  |cons x e q=>
   intro a b f o i h g;cases a with
   |nil=>have:=g.1;simp at this
   |cons u a=>
    have k:R x u:=g.2 0 x u rfl rfl;have l:LR R e a:=⟨by simpa using g.1,λj c v m n=>g.2 (j+1) c v (by simpa using m) (by simpa using n)⟩;simp only[setCells,List.zipIdx_cons,List.foldl_cons];rw[as9];refine q a _ _ o (i+1) ?_ l;rw[as4];exact h.set _ k
 intro e a b f o h g;exact r e a b f o 0 h g
def jl{α:Type}{R:α->Value->Prop}{place:Nat->Option (Nat×Nat)}:∀(g:List (Nat×List α)) (k:List (Nat×Value)) (c e:List α) (b:Array Value),
 LR R c b.toList->g.length=k.length->(∀(j:Nat) p q,g[j]? =some p->k[j]? =some q->p.1=q.1/\LR R p.2 q.2.cells.toList)->fZ place c g=some e->
 ∃l,Instr.fill place b k=some l/\LR R e l.toList
 |[],[],c,e,b,h,_,_,a=>by
  simp only[fZ,aqg]at a;subst a;exact⟨b,rfl,h⟩
 |(i,A)::g,(E,v)::k,c,e,b,h,f,o,a=>by
  obtain⟨rfl,n⟩:=o 0 _ _ rfl rfl;simp only at n;simp only[fZ]at a;cases m:place i with
  |none=>simp[m]at a
  |some z=>
   obtain⟨off,r⟩:=z;simp only[m]at a;split at a
   ·rename_i B
    have s:=Kf A v.cells.toList c b off h n;obtain⟨l,t,w⟩:=jl g k _ e _ s (by simpa using f) (λj p q x y=>o (j+1) p q (by simpa using x) (by simpa using y)) a;refine⟨l,?_,w⟩;have D:v.cells.size=r:=by have:=n.1;simp at this;omega
    have C:b.size=c.length:=by have:=h.1;simpa using this
    have u:(v.cells.size≠r||off+v.cells.size>b.size)=false:=by simp;omega
    simp only[Instr.fill,m,u];rw[aqc (by simp)];rw[<-t];congr 1;rw[<-Array.foldl_toList,Array.toList_zipIdx]
   ·cases a
 |[],_::_,_,_,_,_,f,_,_=>by simp at f
 |_::_,[],_,_,_,_,f,_,_=>by simp at f
def qM(st:St):List (Nat×Operand)->Option (List (Nat×List AV))
 |[]=>some []
 |(i,x)::ps=>match cellsOf (st.ev x),qM st ps with
  |some cs,some r=>some ((i,cs)::r)
  |_,_=>none
def sM(st:St):List (Nat×Operand)->Bool
 |[]=>true
 |(_,x)::ps=>nL st.h (st.ev x) && sM st ps
section
variable{P:Program}{st:St}{d:Nat}{dd:Option Tmp}{ty:TypeId}{pos:String}{af:Array Edge}{gd:Option (Nat×Bool)}{K:St->Prop}
def Kg{o:Bs}{n:Nat->Nat->Value->Prop}{e:Env}{a:Act}{w:World}(h:Ga o n e st a w):∀(c:List (Nat×Operand)) (f:List (Nat×List AV)),qM st c=some f->sM st c=true->
 f.length=(c.map λp=>(p.1,a.eval p.2)).length/\∀(j:Nat) p q,f[j]? =some p->(c.map λp=>(p.1,a.eval p.2))[j]? =some q->p.1=q.1/\LR (VR (bF o n e st.h w) (some e)) p.2 q.2.cells.toList
 |[],f,b,_=>by simp only[qM,aqg]at b;subst b;simp
 |(i,x)::c,f,b,k=>by
  simp only[qM]at b;simp only[sM,aqe]at k;cases g:cellsOf (st.ev x)with
  |none=>simp[g]at b
  |some y=>
   cases m:qM st c with
   |none=>simp[g,m]at b
   |some r=>
    simp only[g,m,aqg]at b;subst b;obtain⟨s,t⟩:=Kg h c r m k.2;refine⟨by simpa using s,λj p q l b=>?_⟩;cases j with
    |zero=>
     simp at l b;subst l;subst b;obtain⟨z,v,u⟩:=oM g (h.ev x) (h.nL k.1);exact⟨rfl,by simpa[v]using u⟩
    |succ j=>exact t j p q (by simpa using l) (by simpa using b)
def RS.build{f:Array (Nat×Operand)}{p:Nat->Option (Nat×Nat)}{g:List (Nat×List AV)}(c:plA P s=some (h,p))(C:qM st f.toList=some g)(B:sM st f.toList=true)
 (A:fZ p (h.map lj) g=some y):RS P ⟨dd,.build s f,ty,pos,af,gd⟩ st (.ag y):=λG t e a w b=>by
 obtain⟨u,v⟩:=Kg b f.toList g C B;have D:LR (VR (bF G t e st.h w) (some e)) (h.map lj) h.toArray.toList:=by simpa using vP h
 obtain⟨j,q,r⟩:=jl (place:=p) g _ (h.map lj) y h.toArray D u v A;refine⟨.agg j.toList.toArray,.ag _ r.1 r.2,λF _=>?_⟩;have z:P.built s (f.map λ(i,x)=>(i,a.eval x)).toList=some j:=by
  unfold plA at c;unfold Program.built;simp only[arT];split at c
  ·rename_i E n e k l
   split at c
   ·rename_i H J m o
    simp only[aqg,aqx]at c;obtain⟨rfl,rfl⟩:=c;simp only[k,l,m,o];simpa using q
   ·cases c
  ·rename_i E I k l
   split at c
   ·rename_i H L m o
    simp only[aqg,aqx]at c;obtain⟨rfl,rfl⟩:=c;simp only[k,l,m,o];simpa using q
   ·cases c
  ·cases c
 have:=run_build F s _ j z;simp only[execOp,aqs,this,aqt,aqu,auh]
def gV(h:Hp):AV->Option (Hp×AV)
 |.ow k=>match aY h k with
  |some (.arr t sz rows _)=>some ((k,some (.arr t sz rows false))::h,.sl false sz rows)
  |_=>none
 |c=>if c.fz then some (h,c)else none
def iA(h:Hp):List AV->Option (Hp×List AV)
 |[]=>some (h,[])
 |c::cs=>match gV h c with
  |some (h1,c1)=>match iA h1 cs with
   |some (h2,cs2)=>some (h2,c1::cs2)
   |none=>none
  |none=>none
def jm(h:Hp):AV->Option (Hp×AV)
 |.ag cs=>match iA h cs with
  |some (h1,cs1)=>some (h1,.ag cs1)
  |none=>none
 |c=>gV h c
def mZ(h:Hp):List AV->Option (Hp×List AV)
 |[]=>some (h,[])
 |c::cs=>match jm h c with
  |some (h1,c1)=>match mZ h1 cs with
   |some (h2,cs2)=>some (h2,c1::cs2)
   |none=>none
  |none=>none
structure m_(w0:Bs)(Rd0:Nat->Nat->Value->Prop)(e:Env)(h:Hp)(w:World)(e':Env)(h':Hp):Prop where
 sr:SR w0 Rd0 e' h' w
 rd:∀b o u,bF w0 Rd0 e h w b o u->bF w0 Rd0 e' h' w b o u
 bJ:∀j,e'.bJ j=e.bJ j
 sv:∀j,e'.sv j=e.sv j
def m_.trans{f:Bs}{c:Nat->Nat->Value->Prop}{e g i:Env}{h k l:Hp}{w:World}(a:m_ f c e h w g k)(b:m_ f c g k w i l):m_ f c e h w i l:=
 ⟨b.sr,λx o u m=>b.rd x o u (a.rd x o u m),λj=>(b.bJ j).trans (a.bJ j),λj=>(b.sv j).trans (a.sv j)⟩
def m_.refl(a:SR I c u L g):m_ I c u L g u L:=⟨a,λ_ _ _ L=>L,λ_=>rfl,λ_=>rfl⟩
def nM{h f:Hp}(l:SR I c u h g){a i:AV}(m:VR (bF I c u h g) (some u) a j)(b:gV h a=some (f,i)):
 ∃e,m_ I c u h g e f/\VR (bF I c e f g) none i j:=by
 cases a with
 |ow k=>
  simp only[gV]at b;split at b
  ·rename_i t x w wr v
   simp only[aqg,aqx]at b;obtain⟨rfl,rfl⟩:=b;obtain⟨e,n,o,p,q,r⟩:=l.O9 v;cases m with
   |ow=>exact⟨e,⟨n,o,p,q⟩,r⟩
  ·cases b
 |_=>
  simp only[gV]at b;split at b
  ·rename_i s
   simp only[aqg,aqx]at b;obtain⟨rfl,rfl⟩:=b;exact⟨u,m_.refl l,m.CH s⟩
  ·cases b
def FZ{m:Bs}{g:Nat->Nat->Value->Prop}{w:World}:∀(i:List AV) (b:List Value) (e:Env) (h k:Hp) (n:List AV),SR m g e h w->LR (VR (bF m g e h w) (some e)) i b->iA h i=some (k,n)->
 ∃q,m_ m g e h w q k/\LR (VR (bF m g q k w) none) n b
 |[],b,e,h,k,n,p,f,a=>by
  simp only[iA,aqg,aqx]at a;obtain⟨rfl,rfl⟩:=a;have:b=[]:=arh (by simpa using f.1);subst this;exact⟨e,m_.refl p,LR.nil⟩
 |c::i,b,e,h,k,n,p,f,a=>by
  cases b with
  |nil=>have:=f.1;simp at this
  |cons u b=>
   simp only[iA]at a;split at a
   ·rename_i r H A
    split at a
    ·rename_i z t B
     simp only[aqg,aqx]at a;obtain⟨rfl,rfl⟩:=a;obtain⟨o,l,F⟩:=nM p (f.2 0 c u rfl rfl) A;have C:LR (VR (bF m g o r w) (some o)) i b:=⟨by simpa using f.1,λj x y D E=>((f.2 (j+1) x y (by simpa using D) (by simpa using E)).mono l.rd).ic rfl l.bJ l.sv⟩;obtain⟨v,s,G⟩:=FZ i b o r z t l.sr C B;exact⟨v,l.trans s,LR.cons (F.mono s.rd) G⟩
    ·cases a
   ·cases a
def qN{h f:Hp}(k:SR I c u h g){a i:AV}(m:VR (bF I c u h g) (some u) a j)(b:jm h a=some (f,i)):
 ∃e,m_ I c u h g e f/\VR (bF I c e f g) none i j:=by
 cases a with
 |ag o=>
  simp only[jm]at b;split at b
  ·rename_i q p r
   simp only[aqg,aqx]at b;obtain⟨rfl,rfl⟩:=b;obtain⟨n,rfl,s⟩:=m.eS;obtain⟨e,l,v⟩:=FZ o n u h q p k s r;exact⟨e,l,.ag n v.1 v.2⟩
  ·cases b
 |_=>exact nM k m (by simpa only[jm]using b)
def yZ{m:Bs}{g:Nat->Nat->Value->Prop}{w:World}:∀(i:List AV) (b:List Value) (e:Env) (h k:Hp) (n:List AV),SR m g e h w->LR (VR (bF m g e h w) (some e)) i b->mZ h i=some (k,n)->
 ∃q,m_ m g e h w q k/\LR (VR (bF m g q k w) none) n b
 |[],b,e,h,k,n,p,f,a=>by
  simp only[mZ,aqg,aqx]at a;obtain⟨rfl,rfl⟩:=a;have:b=[]:=arh (by simpa using f.1);subst this;exact⟨e,m_.refl p,LR.nil⟩
 |c::i,b,e,h,k,n,p,f,a=>by
  cases b with
  |nil=>have:=f.1;simp at this
  |cons u b=>
   simp only[mZ]at a;split at a
   ·rename_i r H A
    split at a
    ·rename_i z t B
     simp only[aqg,aqx]at a;obtain⟨rfl,rfl⟩:=a;obtain⟨o,l,F⟩:=qN p (f.2 0 c u rfl rfl) A;have C:LR (VR (bF m g o r w) (some o)) i b:=⟨by simpa using f.1,λj x y D E=>((f.2 (j+1) x y (by simpa using D) (by simpa using E)).mono l.rd).ic rfl l.bJ l.sv⟩;obtain⟨v,s,G⟩:=yZ i b o r z t l.sr C B;exact⟨v,l.trans s,LR.cons (F.mono s.rd) G⟩
    ·cases a
   ·cases a
def Ga.cA{e a:Env}(h:Ga I c e st D g)(l:m_ I c e st.h g a L):Ga I c a ⟨st.n,st.t,L⟩ D g:=
 ⟨h.n,h.d,l.sr,(h.tr.mono l.rd).ic l.bJ l.sv⟩
def uX(tt:Bool)(n h:Nat):Option Nat->Bool
 |some m=>m==h
 |none=>tt && h==n
def uY(tt:Bool)(rows:List (List AV))(sz:Nat)(l h:Nat)(m:Option Nat):AV:=
 .sl (uX tt rows.length h m) sz ((rows.take h).drop l)
end
variable{P:Option Env}
mutual
def AV.hV(π:Nat->Nat):AV->AV
 |.un=>.un
 |.v x=>.v x
 |.sl tt sz rows=>.sl tt sz rows
 |.ow j=>.ow (π j)
 |.pt j o=>.pt (π j) o
 |.pe j i sz o=>.pe (π j) i sz o
 |.sw j l n sz=>.sw (π j) l n sz
 |.fp cs=>.fp cs
 |.mp j=>.mp (π j)
 |.ag cs=>.ag (AV.qO π cs)
 |.tu cs=>.tu (AV.qO π cs)
 |.cl fn fs cs=>.cl fn (AV.qO π fs) (AV.qO π cs)
def AV.qO(π:Nat->Nat):List AV->List AV
 |[]=>[]
 |c::cs=>AV.hV π c::AV.qO π cs
def AV.fX(p:Nat->Bool):AV->Bool
 |.un=>true
 |.v _=>true
 |.sl _ _ _=>true
 |.fp _=>true
 |.ow j=> !p j
 |.pt j _=> !p j
 |.pe j _ _ _=> !p j
 |.sw j _ _ _=> !p j
 |.mp j=> !p j
 |.ag cs=>AV.lT p cs
 |.tu cs=>AV.lT p cs
 |.cl _ fs cs=>AV.lT p fs && AV.lT p cs
def AV.lT(p:Nat->Bool):List AV->Bool
 |[]=>true
 |c::cs=>AV.fX p c && AV.lT p cs
end
def kz(π:Nat->Nat):∀a:List AV,AV.qO π a=a.map (AV.hV π)
 |[]=>rfl
 |c::a=>by rw[AV.qO,kz π a];rfl
def eT{p:Nat->Bool}:∀{a:List AV},AV.lT p a=true->∀(j:Nat) c,a[j]? =some c->c.fX p=true
 |[],_,j,c,h=>by simp at h
 |x::a,b,j,c,h=>by
  simp only[AV.lT,aqe]at b;cases j with
  |zero=>simp at h;exact h▸b.1
  |succ j=>exact eT b.2 j c (by simpa using h)
def CI{p:Nat->Bool}:∀{cs:List AV},(∀c∈cs,c.fX p=true)->AV.lT p cs=true
 |[],_=>rfl
 |x::cs,a=>by simp[AV.lT,a x (by simp),CI (cs:=cs) λc b=>a c (by simp[b])]
def VR.hV{Rd:Nat->Nat->Value->Prop}{E:Option Env}{c:AV}{u:Value}(h:VR Rd E c u){e e':Env}(m:E=some e)(π:Nat->Nat)(r:∀j,e'.bJ (π j)=e.bJ j)(K:∀j,e'.sv (π j)=e.sv j):
 VR Rd (some e') (c.hV π) u:=by
 have s:∀(g:List AV) (a:List Value),a.length=g.length->(∀(j:Nat) c u,g[j]? =some c->a[j]? =some u->VR Rd (some e') (c.hV π) u)->a.length=(AV.qO π g).length/\∀(j:Nat) c u,(AV.qO π g)[j]? =some c->a[j]? =some u->VR Rd (some e') c u:=by
  intro g a k p;rw[kz];refine⟨by simpa using k,λj c u d f=>?_⟩;rw[aqA]at d;obtain⟨z,G,rfl⟩:=aqL.1 d;exact p j z u G f
 induction h with
 |un=>exact .un
 |v=>exact .v
 |sl a L C k p d f F t q=>exact .sl a L C k p d f F t
 | @ow e0 j=>cases m;rw[<-K j];exact .ow
 | @pt e0 j o b h=>cases m;exact .pt (by rw[r j];exact h)
 | @pe e0 j i N o b h=>cases m;exact .pe (by rw[r j];exact h)
 | @sw e0 j l n N b o O h J d f=>cases m;exact .sw (by rw[r j];exact h) J d f
 |fp a k p t q=>exact .fp a k p t
 | @ag x g a k p q=>
  have:=s g a k λj c u d f=>q j c u d f m;exact .ag a this.1 this.2
 | @tu x g a k p q=>
  have:=s g a k λj c u d f=>q j c u d f m;exact .tu a this.1 this.2
 | @mp e0 j b h=>cases m;exact .mp (by rw[r j];exact h)
 | @cl x P A g a y k I p Q q M=>
  have d:=s A a k λj c u d f=>q j c u d f m;have f:=s g y I λj c u d f=>M j c u d f m;exact .cl a y d.1 f.1 d.2 f.2
def VR.FG{Rd:Nat->Nat->Value->Prop}{c:AV}(h:VR Rd P c j){e e':Env}(k:P=some e)(p:Nat->Bool)(g:c.fX p=true)
 (t:∀a,p a=false->e'.bJ a=e.bJ a) (F:∀a,p a=false->e'.sv a=e.sv a):VR Rd (some e') c j:=by
 induction h with
 |un=>exact .un
 |v=>exact .v
 |sl q G z m s d f A u r=>exact .sl q G z m s d f A u
 | @ow e0 a=>
  cases k;rw[<-F a (by simpa[AV.fX]using g)];exact .ow
 | @pt e0 a o b h=>
  cases k;exact .pt (by rw[t a (by simpa[AV.fX]using g)];exact h)
 | @pe e0 a i J o b h=>
  cases k;exact .pe (by rw[t a (by simpa[AV.fX]using g)];exact h)
 | @sw e0 a l n J b o L h E d f=>
  cases k;exact .sw (by rw[t a (by simpa[AV.fX]using g)];exact h) E d f
 |fp q m s u r=>exact .fp q m s u
 | @ag x y q m s r=>exact .ag q m λa c j d f=>r a c j d f k (eT (by simpa[AV.fX]using g) a c d)
 | @tu x y q m s r=>exact .tu q m λa c j d f=>r a c j d f k (eT (by simpa[AV.fX]using g) a c d)
 | @mp e0 a b h=>
  cases k;exact .mp (by rw[t a (by simpa[AV.fX]using g)];exact h)
 | @cl x M N y q K m C s O r I=>
  simp only[AV.fX,aqe]at g;exact .cl q K m C (λa c j d f=>r a c j d f k (eT g.1 a c d)) (λa c j d f=>I a c j d f k (eT g.2 a c d))
def AV.jH(p:Nat->Bool)(c:AV):AV:=if c.fX p then c else .un
def Ob.jH(p:Nat->Bool):Ob->Ob
 |.box t cs=>.box t (cs.map (AV.jH p))
 |.arr t sz rows wr=>.arr t sz rows wr
 |.mp d es=>.mp d es
 |.nr t cs=>.nr t (cs.map (AV.jH p))
def gW(p:Nat->Bool):Hp->Hp
 |[]=>[]
 |(j,o)::h=>(j,if p j then none else o.map (Ob.jH p))::gW p h
def qb(p:Nat->Bool):List (Nat×AV)->List (Nat×AV)
 |[]=>[]
 |(j,c)::t=>(j,c.jH p)::qb p t
def nN(p:Nat->Bool)(c:AV):(c.jH p).fX p=true:=by
 unfold AV.jH;split
 ·assumption
 ·rfl
def VR.jH{Rd:Nat->Nat->Value->Prop}{E:Option Env}{c:AV}{u:Value}(h:VR Rd E c u)(p:Nat->Bool):VR Rd E (c.jH p) u:=by
 unfold AV.jH;split
 ·exact h
 ·exact .un
def lL(p:Nat->Bool):∀(t:List (Nat×AV)) (j:Nat),bz (qb p t) j=(bz t j).jH p
 |[],_=>by simp[qb,bz,AV.jH,AV.fX]
 |(i,c)::t,j=>by
  simp only[qb,bz];split
  ·rfl
  ·exact lL p t j
def sN(p:Nat->Bool):∀(h:Hp) (j:Nat),aY (gW p h) j=if p j then none else(aY h j).map (Ob.jH p)
 |[],j=>by simp[gW,aY]
 |(i,o)::h,j=>by
  simp only[gW,aY];by_cases a:j=i
  ·subst a;simp
  ·simp only[a,aq_];exact sN p h j
def Ob.hV(π:Nat->Nat):Ob->Ob
 |.box t cs=>.box t (AV.qO π cs)
 |.arr t sz rows wr=>.arr t sz rows wr
 |.mp d es=>.mp d es
 |.nr t cs=>.nr t (AV.qO π cs)
def jU(π:Nat->Nat):Hp->Hp
 |[]=>[]
 |(j,o)::h=>(π j,o.map (Ob.hV π))::jU π h
def Kh(π:Nat->Nat):List (Nat×AV)->List (Nat×AV)
 |[]=>[]
 |(j,c)::t=>(j,c.hV π)::Kh π t
def Ki(π:Nat->Nat):∀(t:List (Nat×AV)) (j:Nat),bz (Kh π t) j=(bz t j).hV π
 |[],_=>by simp[Kh,bz,AV.hV]
 |(i,c)::t,j=>by
  simp only[Kh,bz];split
  ·rfl
  ·exact Ki π t j
def Kj(π:Nat->Nat)(b:∀i j,π i=π j->i=j):∀(h:Hp) (j:Nat),aY (jU π h) (π j)=(aY h j).map (Ob.hV π)
 |[],j=>by simp[jU,aY]
 |(i,o)::h,j=>by
  simp only[jU,aY];by_cases a:j=i
  ·subst a;simp
  ·have:¬π j=π i:=λc=>a (b _ _ c)
   simp only[a,this,aq_];exact Kj π b h j
def dZ(h h':Hp)(k:Nat):aY (h++h') k=if h.any (λp=>p.1==k)then aY h k else aY h' k:=by
 induction h with
 |nil=>simp
 |cons p h b=>
  obtain⟨i,o⟩:=p;simp only[arw,aY,ar5];by_cases a:k=i
  ·subst a;simp
  ·have:(i==k)=false:=by simp;exactλh=>a h.symm
   simp only[a,aq_,this,aui];exact b
def OR.hV{Rd:Nat->Nat->Value->Prop}{e e':Env}{w:World}{k:Nat}{ob:Ob}(h:OR Rd e w k ob)(π:Nat->Nat)(f:∀j,e'.bJ (π j)=e.bJ j)(o:∀j,e'.sv (π j)=e.sv j)(r:∀j,e'.cA (π j)=e.cA j):
 OR Rd e' w (π k) (ob.hV π):=by
 cases ob with
 |box t n=>
  obtain⟨m,b,J,p,q,c⟩:=h;have E:=(VR.ag J c.1 c.2:VR Rd (some e) (.ag n) _).hV rfl π f o;obtain⟨x,I,G⟩:=VR.eS (by simpa only[AV.hV]using E);have:x=J:=by
   have:=aqr (λv=>match v with|.agg a=>a.toList|_=>[]) I;simpa using this.symm
  subst this;exact⟨by rw[r];exact m,b,x,by rw[f];exact p,q,G⟩
 |arr t P O wr=>
  obtain⟨m,p,q,c⟩:=h;refine⟨m,p,λM=>by rw[r];exact q M,?_⟩;rcases c with⟨g,i,l⟩|⟨b,C,u,g,i,l,y,z,A,s,K⟩
  ·exact .inl ⟨g,by rw[f];exact i,by rw[o];exact l⟩
  ·exact .inr ⟨b,C,u,by rw[f];exact g,by rw[o];exact i,l,y,z,A,s,by rw[r];exact K⟩
 |mp d N=>
  obtain⟨m,b,arr,L,p,q,c⟩:=h;exact⟨by rw[r];exact m,b,arr,L,by rw[f];exact p,q,c⟩
 |nr t n=>
  obtain⟨m,c⟩:=h;refine⟨by rw[r];exact m,?_⟩;have F:(AV.qO π n).length=n.length:=by rw[kz,aqn]
  rcases c with⟨g,i,l⟩|⟨b,C,u,g,i,l,y,z,A,s⟩
  ·exact .inl ⟨by rw[g];rfl,by rw[f];exact i,by rw[o];exact l⟩
  ·have E:=(VR.ag _ s.1 s.2:VR Rd (some e) (.ag n) _).hV rfl π f o
   obtain⟨x,I,G⟩:=VR.eS (by simpa only[AV.hV]using E);have:x=u.toList.take n.length:=by
    have:=aqr (λv=>match v with|.agg a=>a.toList|_=>[]) I;simpa using this.symm
   subst this;exact .inr ⟨b,C,u,by rw[f];exact g,by rw[o,F];exact i,by rw[F];exact l,y,z,A,by rw[F];exact G⟩
def OR.FG{Rd:Nat->Nat->Value->Prop}{e e':Env}{w:World}{k:Nat}{ob:Ob}(p:Nat->Bool)(h:OR Rd e w k ob)(a:p k=false)(g:∀j,p j=false->e'.bJ j=e.bJ j)(o:∀j,p j=false->e'.sv j=e.sv j)(x:e'.cA k=e.cA k):
 OR Rd e' w k (ob.jH p):=by
 cases ob with
 |box t L=>
  obtain⟨n,b,N,r,s,f⟩:=h;refine⟨by rw[x];exact n,b,N,by rw[g k a];exact r,s,by simpa using f.1,λj c u v I=>?_⟩;rw[aqA]at v;obtain⟨q,G,rfl⟩:=aqL.1 v;exact((f.2 j q u G I).jH p).FG rfl p (nN p q) g o
 |arr t Q P wr=>
  obtain⟨n,r,s,f⟩:=h;refine⟨n,r,λM=>by rw[x];exact s M,?_⟩;rcases f with⟨i,l,m⟩|⟨b,E,F,i,l,m,z,A,C,y,J⟩
  ·exact .inl ⟨i,by rw[g k a];exact l,by rw[o k a];exact m⟩
  ·exact .inr ⟨b,E,F,by rw[g k a];exact i,by rw[o k a];exact l,m,z,A,C,y,by rw[x];exact J⟩
 |mp d O=>
  obtain⟨n,b,arr,K,r,s,f⟩:=h;exact⟨by rw[x];exact n,b,arr,K,by rw[g k a];exact r,s,f⟩
 |nr t L=>
  obtain⟨n,f⟩:=h;refine⟨by rw[x];exact n,?_⟩;rcases f with⟨i,l,m⟩|⟨b,E,F,i,l,m,z,A,C,y⟩
  ·exact .inl ⟨by rw[i];rfl,by rw[g k a];exact l,by rw[o k a];exact m⟩
  ·refine .inr ⟨b,E,F,by rw[g k a];exact i,by rw[o k a,aqn];exact l,by rw[aqn];exact m,z,A,C,?_⟩
   rw[aqn];refine⟨by simpa using y.1,λj c u v I=>?_⟩;rw[aqA]at v;obtain⟨q,G,rfl⟩:=aqL.1 v;exact((y.2 j q u G I).jH p).FG rfl p (nN p q) g o
def mv(B k:Nat):Bool:=Nat.ble B k && Nat.blt k (B+1000)
def VR.anY{Rd:Nat->Nat->Value->Prop}{e b:Env}{c:AV}(h:VR Rd (some e) c j)(p:Nat->Bool)(i:c.fX p=true)(π:Nat->Nat)(g:∀a,p a=false->b.bJ (π a)=e.bJ a)(l:∀a,p a=false->b.sv (π a)=e.sv a):
 VR Rd (some b) (c.hV π) j:=by
 have f:=h.FG (e':=⟨λk=>b.bJ (π k),λk=>b.sv (π k),e.cA⟩) rfl p i (λa d=>g a d) (λa d=>l a d);exact f.hV rfl π (λ_=>rfl) (λ_=>rfl)
def kA{p:Nat->Bool}{c:AV}(h:c.fX p=true):c.jH p=c:=by simp[AV.jH,h]
def VR.nO{Rd:Nat->Nat->Value->Prop}{e e':Env}(π:Nat->Nat)(t:∀a,e'.bJ a=e.bJ (π a))(J:∀a,e'.sv a=e.sv (π a)){y:AV}(h:VR Rd P y j)(l:P=some e):∀{c:AV},y=c.hV π->VR Rd (some e') c j:=by
 have u:∀(s r:List AV) (d:List Value),s=AV.qO π r->d.length=s.length->(∀(a:Nat) c j,s[a]? =some c->d[a]? =some j->∀{z:AV},c=z.hV π->VR Rd (some e') z j)->d.length=r.length/\∀(a:Nat) c j,r[a]? =some c->d[a]? =some j->VR Rd (some e') c j:=by
  intro s r d A i b;rw[kz]at A;subst A;exact⟨by simpa using i,λa c j f g=>b a (c.hV π) j (by simp[f]) g rfl⟩
 induction h with
 |un=>intro c b;cases c<;>simp[AV.hV]at b;exact .un
 |v=>intro c b;cases c<;>simp[AV.hV]at b;subst b;exact .v
 |sl d K E i o f g F x n=>
  intro c b;cases c<;>simp[AV.hV]at b;obtain⟨rfl,rfl,rfl⟩:=b;exact .sl d K E i o f g F x
 | @ow e0 k=>
  intro c b;cases l;cases c<;>simp[AV.hV]at b;rename_i M;subst b;rw[<-J M];exact .ow
 |pt m=>
  intro c b;cases l;cases c<;>simp[AV.hV]at b;obtain⟨rfl,rfl⟩:=b;exact .pt ((t _).trans m)
 |pe m=>
  intro c b;cases l;cases c<;>simp[AV.hV]at b;obtain⟨rfl,rfl,rfl,rfl⟩:=b;exact .pe ((t _).trans m)
 |sw m I f g=>
  intro c b;cases l;cases c<;>simp[AV.hV]at b;obtain⟨rfl,rfl,rfl,rfl⟩:=b;exact .sw ((t _).trans m) I f g
 |fp d i o x n=>
  intro c b;cases c<;>simp[AV.hV]at b;subst b;exact .fp d i o x
 |ag d i o n=>
  intro c b;cases c<;>simp[AV.hV]at b;obtain⟨p,q⟩:=u _ _ d b i λa c j f g=>n a c j f g l;exact .ag d p q
 |tu d i o n=>
  intro c b;cases c<;>simp[AV.hV]at b;obtain⟨p,q⟩:=u _ _ d b i λa c j f g=>n a c j f g l;exact .tu d p q
 |mp m=>
  intro c b;cases l;cases c<;>simp[AV.hV]at b;subst b;exact .mp ((t _).trans m)
 |cl d C i G o Q n L=>
  intro c b;cases c<;>simp[AV.hV]at b;obtain⟨rfl,f,g⟩:=b;obtain⟨p,q⟩:=u _ _ d f i λa c j f g=>n a c j f g l;obtain⟨N,O⟩:=u _ _ C g G λa c j f g=>L a c j f g l;exact .cl d C p N q O
def OR.nO{Rd:Nat->Nat->Value->Prop}{e e':Env}{w:World}{k:Nat}{ob:Ob}(π:Nat->Nat)(h:OR Rd e w (π k) (ob.hV π))(l:∀j,e'.bJ j=e.bJ (π j))(p:∀j,e'.sv j=e.sv (π j))(u:e'.cA k=e.cA (π k)):OR Rd e' w k ob:=by
 cases ob with
 |box t o=>
  obtain⟨n,b,G,r,s,i⟩:=h;refine⟨by rw[u];exact n,b,G,by rw[l];exact r,s,?_⟩;have:=(VR.ag G i.1 i.2:VR Rd (some e) (.ag _) _).nO π l p rfl (c:=.ag o) (by simp[AV.hV]);obtain⟨I,F,E⟩:=VR.eS this;have:I=G:=by
   have:=aqr (λv=>match v with|.agg a=>a.toList|_=>[]) F;simpa using this.symm
  subst this;exact E
 |arr t P O wr=>
  obtain⟨n,r,s,i⟩:=h;refine⟨n,r,λM=>by rw[u];exact s M,?_⟩;rcases i with⟨m,f,g⟩|⟨b,C,x,m,f,g,y,z,A,q,K⟩
  ·exact .inl ⟨m,by rw[l];exact f,by rw[p];exact g⟩
  ·exact .inr ⟨b,C,x,by rw[l];exact m,by rw[p];exact f,g,y,z,A,q,by rw[u];exact K⟩
 |mp d N=>
  obtain⟨n,b,arr,L,r,s,i⟩:=h;exact⟨by rw[u];exact n,b,arr,L,by rw[l];exact r,s,i⟩
 |nr t o=>
  obtain⟨n,i⟩:=h;refine⟨by rw[u];exact n,?_⟩;have J:(AV.qO π o).length=o.length:=by rw[kz,aqn]
  rcases i with⟨m,f,g⟩|⟨b,C,x,m,f,g,y,z,A,q⟩
  ·exact .inl ⟨arh (by rw[<-J,m];rfl),by rw[l];exact f,by rw[p];exact g⟩
  ·rw[J]at f g q
   have:=(VR.ag _ q.1 q.2:VR Rd (some e) (.ag _) _).nO π l p rfl (c:=.ag o) (by simp[AV.hV]);obtain⟨I,F,E⟩:=VR.eS this;have:I=x.toList.take o.length:=by
    have:=aqr (λv=>match v with|.agg a=>a.toList|_=>[]) F;simpa using this.symm
   subst this;exact .inr ⟨b,C,x,by rw[l];exact m,by rw[p];exact f,g,y,z,A,E⟩
def tW:List (Nat×Nat)->Nat->Option Nat
 |[],_=>none
 |(p,c)::D,k=>cond (Nat.beq k p) (some c) (tW D k)
def O4:List (Nat×Nat)->Nat->Option Nat
 |[],_=>none
 |(p,c)::D,k=>cond (Nat.beq k c) (some p) (O4 D k)
def fG(D:List (Nat×Nat))(B k:Nat):Nat:=match tW D k with
 |some c=>c
 |none=>B+k
def Bm:List Nat->Bool
 |[]=>true
 |x::l=> !(l.any (Nat.beq x)) && Bm l
def Ka(B:Nat)(D:List (Nat×Nat)):Bool:=D.all (λq=>Nat.ble 4294967296 q.1 && !mv B q.2) && Bm (D.map (·.1)) && Bm (D.map (·.2)) && Nat.ble (B+1000) 4294967296
def Fv(D:List (Nat×Nat))(k:Nat):Bool:=Nat.blt k 1000||(tW D k).isSome
def obX(D:List (Nat×Nat)):Ob->Bool
 |.box _ cs=>AV.lT (λk=> !Fv D k) cs
 |.nr _ cs=>AV.lT (λk=> !Fv D k) cs
 |_=>true
def lU(D:List (Nat×Nat))(H:Hp):Bool:=H.all λp=>Fv D p.1 && (match p.2 with|some ob=>obX D ob|none=>true)
def na(D:List (Nat×Nat)):Hp:=D.map λq=>(q.2,none)
def H3(h:¬d=v):Nat.beq d v=false:=by
 cases a:Nat.beq d v with
 |false=>rfl
 |true=>exact absurd (aqj a) h
def fP:∀{D:List (Nat×Nat)} {p c:Nat},tW D p=some c->(p,c)∈D
 |[],p,c,h=>by cases h
 |(q,x)::D,p,c,h=>by
  simp only[tW]at h;by_cases e:p=q
  ·subst e;rw[aqM]at h;cases h;simp
  ·rw[H3 e]at h;exact ari _ (fP h)
def Y4:∀{l:List Nat} {x:Nat},Bm (x::l)=true->x∉l:=λ{l x} h a=>by
 simp only[Bm,aqe,arq,List.any_eq_false]at h;exact h.1 x a (aqM x)
def lV:∀{D:List (Nat×Nat)} {p c:Nat},Bm (D.map (·.2))=true->(p,c)∈D->O4 D c=some p
 |[],p,c,_,h=>by cases h
 |(q,x)::D,p,c,a,h=>by
  simp only[O4];rcases aqG.1 h with h|h
  ·cases h;rw[aqM];rfl
  ·have d:x∉D.map (·.2):=Y4 (by simpa using a)
   have b:¬c=x:=λe=>d (by rw[<-e];exact aqq.2 ⟨_,h,rfl⟩);rw[H3 b];exact lV (by simp only[aqz,Bm,aqe]at a;exact a.2) h
def Rv:∀{D:List (Nat×Nat)} {p c:Nat},O4 D c=some p->(p,c)∈D
 |[],p,c,h=>by cases h
 |(q,x)::D,p,c,h=>by
  simp only[O4]at h;by_cases e:c=x
  ·subst e;rw[aqM]at h;cases h;simp
  ·rw[H3 e]at h;exact ari _ (Rv h)
def cB(D:List (Nat×Nat))(B:Nat)(e:Env)(w:World):Bs:=
 ⟨w,λb=>∃p c,tW D p=some c/\e.bJ c=some b,λk=>e.bJ (fG D B k),λk=>e.sv (fG D B k),[]⟩
def cRd(D:List (Nat×Nat))(B:Nat)(w0:Bs)(Rd0:Nat->Nat->Value->Prop)(e:Env)(h:Hp)(w:World)(b o:Nat)(u:Value):Prop:=bF w0 Rd0 e h w b o u/\¬(cB D B e w).gU b
def Env.pi(D:List (Nat×Nat))(B:Nat)(e:Env):Env:=⟨λk=>e.bJ (fG D B k),λk=>e.sv (fG D B k),λk=>e.cA (fG D B k)⟩
def Env.eh(D:List (Nat×Nat))(B:Nat)(e e2:Env):Env:=
 ⟨λk=>if mv B k then e2.bJ (k - B)else e.bJ k,λk=>if mv B k then e2.sv (k - B)else e.sv k,
  λk=>if mv B k then e2.cA (k - B)else match O4 D k with
   |some p=>e2.cA p
   |none=>e.cA k⟩
def Handed(D:List (Nat×Nat))(e:Env)(h:Hp):Prop:=∀p c,tW D p=some c->(∃ob,aY h c=some ob)/\e.cA c=0
section
variable{w0:Bs}{w w':World}{Rd0:Nat->Nat->Value->Prop}{e e2:Env}{h H H0:Hp}{D:List (Nat×Nat)}{B:Nat}
def bF.nc(t:Handed D e h)(f:bF w0 Rd0 e h w d v j)(m:∀p ob,aY H0 p=some ob->∃c,tW D p=some c/\∃a,aY h c=some a):
 bF (cB D B e w) (cRd D B w0 Rd0 e h w) (e.pi D B) H0 w d v j:=by
 have r:=f;obtain⟨i,s,k⟩:=r;refine⟨i,λn=>⟨f,n⟩,λp ob q b=>?_⟩;obtain⟨c,l,a,o⟩:=m p ob q;have g:fG D B p=c:=by simp[fG,l]
 simp only[Env.pi,g]at b⊢;exact k c a o b
def SR.Kk(a:SR w0 Rd0 e h w)(m:Handed D e h)(b:GT d v j):¬(cB D B e w).gU d:=by
 have n:=a.CD b;have f:=(a.jG.1 d v j (a.jG.2 _ _ _ b)).2;rintro(k|⟨p,c,i,g⟩)
 ·have:=asg w _ n.1
  simp only[cB]at k;simp only at this;omega
 ·obtain⟨⟨ob,l⟩,_⟩:=m p c i
  exact f (a.base c ob d l g).1
def SR.nc(l:SR w0 Rd0 e h w)(y:Handed D e h)(q:Ka B D=true)
 (j:∀p ob,aY H0 p=some ob->∃c d,tW D p=some c/\aY h c=some d/\∀Rd,OR Rd e w c d->OR Rd e w c (ob.hV (fG D B))):
 SR (cB D B e w) (cRd D B w0 Rd0 e h w) (e.pi D B) H0 w:=by
 have E:∀p ob,aY H0 p=some ob->∃c,tW D p=some c/\∃d,aY h c=some d:=λp ob g=>by
  obtain⟨c,d,a,b,_⟩:=j p ob g;exact⟨c,a,d,b⟩
 have m:∀{p c},tW D p=some c->fG D B p=c:=λ{p c} f=>by simp[fG,f]
 refine⟨⟨rfl,rfl,rfl,aqf _,λ_ _=>rfl,aqf _⟩,⟨λb o u n=>⟨n.1.1,n.2⟩,λb o u x=>⟨l.CD x,l.Kk y x⟩⟩,λp ob g=>?_,λp ob b g i=>?_,λp J ob d b g I i t=>?_,λk _=>⟨rfl,rfl⟩⟩
 ·obtain⟨c,d,f,r,C⟩:=j p ob g
  have s:=C _ (l.ob c d r);have A:=m f;rw[<-A]at s;exact(OR.nO (fG D B) s (e':=e.pi D B) (λ_=>rfl) (λ_=>rfl) rfl).mono λb o u n=>n.nc y E
 ·obtain⟨c,d,f,r,_⟩:=j p ob g
  simp only[Env.pi,m f]at i;exact⟨.inr ⟨p,c,f,i⟩,(l.base c d b r i).2⟩
 ·obtain⟨c,M,f,F,_⟩:=j p ob g
  obtain⟨L,N,v,G,_⟩:=j J d I;simp only[Env.pi,m f]at i;simp only[Env.pi,m v]at t;have:=l.inj _ _ _ _ _ F G i t;subst this;simp only[Ka,aqe]at q;have K:=lV q.1.2 (fP f);have z:=lV q.1.2 (fP v);rw[K]at z;exact aql z
def SR.eh(J:SR w0 Rd0 e h w)(hp:Handed D e h)(hD:Ka B D=true)(y:SR (cB D B e w) (cRd D B w0 Rd0 e h w) e2 H w')(A:lU D H=true):
 SR w0 Rd0 (e.eh D B e2) (jU (fG D B) H++(na D++gW (mv B) h)) w'/\
 (∀b o u,bF w0 Rd0 e h w b o u->bF w0 Rd0 (e.eh D B e2) (jU (fG D B) H++(na D++gW (mv B) h)) w' b o u)/\
 (∀b o u,bF (cB D B e w) (cRd D B w0 Rd0 e h w) e2 H w' b o u->bF w0 Rd0 (e.eh D B e2) (jU (fG D B) H++(na D++gW (mv B) h)) w' b o u)/\
 (∀k,Fv D k=true->(e.eh D B e2).bJ (fG D B k)=e2.bJ k/\(e.eh D B e2).sv (fG D B k)=e2.sv k):=by
 have ag:=hD;simp only[Ka,aqe,aqD,arq]at ag;obtain⟨⟨⟨d1,d2⟩,d3⟩,d4⟩:=ag;have d4:B+1000<=4294967296:=aqk d4;have M:∀p c,tW D p=some c->4294967296<=p/\mv B c=false:=λp c l=>by
  have:=d1 _ (fP l);exact⟨aqk this.1,this.2⟩
 have ar:∀p p' c,tW D p=some c->tW D p'=some c->p=p':=λp p' c W X=>by
  have r1:=lV d3 (fP W);have r2:=lV d3 (fP X);rw[r1]at r2;exact aql r2
 have eK:∀k,mv B k=true↔B<=k/\k<B+1000:=λk=>by simp[mv]
 have a4:∀k,k<1000->fG D B k=B+k:=λk a=>by
  unfold fG;cases l:tW D k with
  |none=>rfl
  |some c=>have:=(M k c l).1;omega
 have R:∀p c,tW D p=some c->fG D B p=c:=λp c l=>by simp[fG,l]
 have a6:∀k,k<1000->mv B (B+k)=true:=λk a=>(eK (B+k)).2 ⟨by omega,by omega⟩;have O:∀k,Fv D k=true->(e.eh D B e2).bJ (fG D B k)=e2.bJ k:=λk a=>by
  simp only[Fv,ara]at a;rcases a with a|a
  ·have a:k<1000:=aqk a
   rw[a4 k a];simp[Env.eh,a6 k a]
  ·obtain⟨c,l⟩:=arU.1 a
   have:=y.tV k (M k c l).1;rw[this.1,R k c l];simp[Env.eh,(M k c l).2,cB,R k c l]
 have ak:∀k,Fv D k=true->(e.eh D B e2).sv (fG D B k)=e2.sv k:=λk a=>by
  simp only[Fv,ara]at a;rcases a with a|a
  ·have a:k<1000:=aqk a
   rw[a4 k a];simp[Env.eh,a6 k a]
  ·obtain⟨c,l⟩:=arU.1 a
   have:=y.tV k (M k c l).1;rw[this.2,R k c l];simp[Env.eh,(M k c l).2,cB,R k c l]
 have aj:∀k,Fv D k=true->(e.eh D B e2).cA (fG D B k)=e2.cA k:=λk a=>by
  simp only[Fv,ara]at a;rcases a with a|a
  ·have a:k<1000:=aqk a
   rw[a4 k a];simp[Env.eh,a6 k a]
  ·obtain⟨c,l⟩:=arU.1 a
   rw[R k c l];simp[Env.eh,(M k c l).2,lV d3 (fP l)]
 have Q:∀k,mv B k=false->(e.eh D B e2).bJ k=e.bJ k:=λk a=>by simp[Env.eh,a]
 have an:∀k,mv B k=false->(e.eh D B e2).sv k=e.sv k:=λk a=>by simp[Env.eh,a]
 have ae:∀k,mv B k=false->O4 D k=none->(e.eh D B e2).cA k=e.cA k:=λk a L=>by simp[Env.eh,a,L]
 have aD:∀k s,Fv D k=true->Fv D s=true->fG D B k=fG D B s->k=s:=by
  intro k s a r C;simp only[Fv,ara]at a r;rcases a with a|a
  ·have a:k<1000:=aqk a
   rw[a4 k a]at C;rcases r with r|r
   ·have r:s<1000:=aqk r
    rw[a4 s r]at C;omega
   ·obtain⟨c,l⟩:=arU.1 r
    rw[R s c l]at C;have:=(M s c l).2;rw[<-C,a6 k a]at this;cases this
  ·obtain⟨c,l⟩:=arU.1 a
   rw[R k c l]at C;rcases r with r|r
   ·have r:s<1000:=aqk r
    rw[a4 s r]at C;have:=(M k c l).2;rw[C,a6 s r]at this;cases this
   ·obtain⟨c',ai⟩:=arU.1 r
    rw[R s c' ai]at C;subst C;exact ar _ _ _ l ai
 have ay:∀(H:Hp),lU D H=true->∀k ob,aY H k=some ob->Fv D k=true/\obX D ob=true:=by
  intro H
  induction H with
  |nil=>intro _ k ob hh;simp[aY]at hh
  |cons q H ih=>
   intro A k ob a;obtain⟨i,o⟩:=q;simp only[lU,arn,aqe]at A;by_cases P:k=i
   ·subst P
    rw[bc]at a;subst a;exact⟨A.1.1,A.1.2⟩
   ·rw[a_ P]at a
    exact ih (by simpa[lU]using A.2) k ob a
 have aC:∀(H:Hp),lU D H=true->∀k,(jU (fG D B) H).any (λq=>q.1==k)=true->∃j,Fv D j=true/\fG D B j=k/\aY (jU (fG D B) H) k=(aY H j).map (Ob.hV (fG D B)):=by
  intro H
  induction H with
  |nil=>intro _ k G;simp[jU]at G
  |cons q H ih=>
   intro A k G;obtain⟨i,o⟩:=q;simp only[lU,arn,aqe]at A;simp only[jU,ar5,ara,as_]at G;by_cases P:fG D B i=k
   ·refine⟨i,A.1.1,P,?_⟩
    simp only[jU,aY,P,aqP]
   ·obtain⟨j,j1,j2,j3⟩:=ih (by simpa[lU]using A.2) k (G.resolve_left P)
    refine⟨j,j1,j2,?_⟩;have ax:¬j=i:=λe=>P (by rw[<-e];exact j2);have az:¬k=fG D B i:=λe=>P e.symm;simp only[jU,aY,az,aq_,ax,j3]
 have av:∀(D:List (Nat×Nat)) k,aY (na D) k=none:=by
  intro D k
  induction D with
  |nil=>rfl
  |cons q D ih=>
   simp only[na,aqz,aY];split
   ·rfl
   ·exact ih
 have au:∀k,(na D).any (λq=>q.1==k)=false->O4 D k=none:=by
  intro k a;cases L:O4 D k with
  |none=>rfl
  |some p=>
   have:=Rv L;rw[List.any_eq_false]at a;exact absurd (by simp) (a (k,none) (aqq.2 ⟨_,this,rfl⟩))
 have Z:∀k ob,aY (jU (fG D B) H++(na D++gW (mv B) h)) k=some ob->(∃j f,Fv D j=true/\obX D f=true/\k=fG D B j/\aY H j=some f/\ob=f.hV (fG D B))\/(mv B k=false/\O4 D k=none/\∃f,aY h k=some f/\ob=f.jH (mv B)):=by
  intro k ob a;rw[dZ]at a;split at a
  ·rename_i G
   obtain⟨j,j1,j2,j3⟩:=aC H A k G;rw[j3]at a;obtain⟨f,n,rfl⟩:=aqL.1 a;exact .inl ⟨j,f,j1,(ay H A j f n).2,j2.symm,n,rfl⟩
  ·rw[dZ]at a
   split at a
   ·rw[av]at a;cases a
   ·rename_i _ G
    have G:(na D).any (λq=>q.1==k)=false:=(Bool.not_eq_true _).mp G;rw[sN]at a;split at a
    ·cases a
    ·rename_i v
     obtain⟨f,n,rfl⟩:=aqL.1 a;exact .inr ⟨by simpa using v,au k G,f,n,rfl⟩
 have af:∀b,(cB D B e w).gU b->w0.gU b:=by
  rintro b (m|⟨p,c,l,m⟩)
  ·exact J.ext.gU m
  ·obtain⟨⟨ob,F⟩,_⟩:=hp p c l
   exact(J.base c ob b F m).1
 have a7:∀k f b,O4 D k=none->aY h k=some f->e.bJ k=some b->¬(cB D B e w).gU b:=by
  rintro k f b L n m (Y|⟨p,c,l,ab⟩)
  ·have:=(J.base k f b n m).2
   simp only[cB]at Y;omega
  ·obtain⟨⟨ob,F⟩,_⟩:=hp p c l
   have:=J.inj _ _ _ _ _ n F m ab;subst this;rw[lV d3 (fP l)]at L;cases L
 have aw:∀b o u,bF w0 Rd0 e h w b o u->¬(cB D B e w).gU b:=by
  rintro b o u ⟨W,X,h3⟩ (Y|⟨p,c,l,ab⟩)
  ·have:=asg w _ W
   simp only[cB]at Y;simp only at this;omega
  ·obtain⟨⟨ob,F⟩,hl⟩:=hp p c l
   have:=h3 c ob F ab;omega
 have a5:∀b o u,bF w0 Rd0 e h w b o u->bF w0 Rd0 (e.eh D B e2) (jU (fG D B) H++(na D++gW (mv B) h)) w' b o u:=by
  rintro b o u L;have am:=aw b o u L;have aB:=L;obtain⟨W,X,h3⟩:=aB;refine⟨by rw[asG (w:=w) (y.ext.block b am)];exact W,X,λk ob a m=>?_⟩;rcases Z k ob a with⟨j,f,E,_,rfl,n,rfl⟩|⟨v,I,f,n,rfl⟩
  ·rw[O j E]at m
   exact absurd (y.base _ _ _ n m).1 am
  ·rw[Q k v]at m
   rw[ae k v I];exact h3 k f n m
 have ah:∀b o u,bF (cB D B e w) (cRd D B w0 Rd0 e h w) e2 H w' b o u->bF w0 Rd0 (e.eh D B e2) (jU (fG D B) H++(na D++gW (mv B) h)) w' b o u:=by
  rintro b o u ⟨W,X,h3⟩;refine⟨W,λal=>(X λY=>al (af b Y)).1.2.1 al,λk ob a m=>?_⟩;rcases Z k ob a with⟨j,f,E,_,rfl,n,rfl⟩|⟨v,I,f,n,rfl⟩
  ·rw[O j E]at m
   rw[aj j E];exact h3 j f n m
  ·rw[Q k v]at m
   rw[ae k v I];exact(X (a7 k f b I n m)).1.2.2 k f n m
 refine⟨⟨?_,J.jG,λk ob a=>?_,λk ob b a m=>?_,λk s ob ap b a r m N=>?_,λk a=>?_⟩,a5,ah,λk a=>⟨O k a,ak k a⟩⟩
 ·exact J.ext.step y.ext.os y.ext.tape y.ext.output y.ext.size (λb m _=>y.ext.block b λY=>m (af b Y)) y.ext.drawn
 ·rcases Z k ob a with⟨j,f,E,hx,rfl,n,rfl⟩|⟨v,I,f,n,rfl⟩
  ·have F:=(y.ob j f n).mono ah
   have aA:OR (bF w0 Rd0 (e.eh D B e2) (jU (fG D B) H++(na D++gW (mv B) h)) w') ⟨λk=>(e.eh D B e2).bJ (fG D B k),λk=>(e.eh D B e2).sv (fG D B k),λk=>(e.eh D B e2).cA (fG D B k)⟩ w' j f:=by
    have:=F.FG (e':=⟨λk=>(e.eh D B e2).bJ (fG D B k),λk=>(e.eh D B e2).sv (fG D B k),λk=>(e.eh D B e2).cA (fG D B k)⟩) (λk=> !Fv D k) (by simpa using E)
     (λi K=>O i (by simpa using K)) (λi K=>ak i (by simpa using K)) (aj j E)
    have C:f.jH (λk=> !Fv D k)=f:=by
     cases f with
     |box t cs=>
      simp only[Ob.jH];refine aqr (Ob.box t) ?_;rw[aq6 (g:=id),ar6];intro c l;obtain⟨i,K,rfl⟩:=aqY l;exact kA (eT hx i _ (aqm K))
     |arr=>rfl
     |mp=>rfl
     |nr t cs=>
      simp only[Ob.jH];refine aqr (Ob.nr t) ?_;rw[aq6 (g:=id),ar6];intro c l;obtain⟨i,K,rfl⟩:=aqY l;exact kA (eT hx i _ (aqm K))
    rw[C]at this;exact this
   exact aA.hV (fG D B) (λ_=>rfl) (λ_=>rfl) (λ_=>rfl)
  ·refine OR.FG (mv B) (e:=e) ?_ v Q an (ae k v I)
   have x:=J.ob k f n;have hx:∀{b:Nat} {o:Obj},e.bJ k=some b->w.heap[b]? =some o->w'.heap[b]? =some o:=λ{b o} m F=>(y.ext.block b (a7 k f b I n m)).trans F;cases f with
   |box t cs=>
    obtain⟨S,b,us,U,a2,z⟩:=x;exact⟨S,b,us,U,a2.ext (λo F=>hx U F),z.imp λ_ _ hv=>hv.mono a5⟩
   |arr t sz aE wr=>
    obtain⟨S,U,a2,z⟩:=x;refine⟨S,U,a2,?_⟩;rcases z with z|⟨b,a9,aa,b1,b2,b3,b4,b5,b6,b7,b8⟩
    ·exact .inl z
    ·exact .inr ⟨b,a9,aa,b1,b2,b3,b4,hx b1 b5,b6,b7.imp λ_ _ hv=>hv.mono a5,b8⟩
   |mp d es=>
    obtain⟨S,b,arr,aq,U,a2,z⟩:=x;exact⟨S,b,arr,aq,U,hx U a2,z.mono a5⟩
   |nr t cs=>
    obtain⟨S,z⟩:=x;refine⟨S,?_⟩;rcases z with z|⟨b,a9,aa,b1,b2,b3,b4,b5,b6,b7⟩
    ·exact .inl z
    ·exact .inr ⟨b,a9,aa,b1,b2,b3,b4,hx b1 b5,b6,b7.imp λ_ _ hv=>hv.mono a5⟩
 ·rcases Z k ob a with⟨j,f,E,_,rfl,n,rfl⟩|⟨v,I,f,n,rfl⟩
  ·rw[O j E]at m
   have:=y.base _ _ _ n m;exact⟨af b this.1,this.2⟩
  ·rw[Q k v]at m
   have:=J.base _ _ _ n m;exact⟨this.1,asi this.2 y.ext.size⟩
 ·rcases Z k ob a with⟨j,f,E,_,rfl,n,rfl⟩|⟨v,I,f,n,rfl⟩
  ·rw[O j E]at m
   rcases Z s ap r with⟨j',a8,ad,_,rfl,V,rfl⟩|⟨ac,ao,a8,V,rfl⟩
   ·rw[O j' ad]at N
    rw[y.inj _ _ _ _ _ n V m N]
   ·rw[Q s ac]at N
    exact absurd (y.base _ _ _ n m).1 (a7 s a8 b ao V N)
  ·rw[Q k v]at m
   rcases Z s ap r with⟨j',a8,ad,_,rfl,V,rfl⟩|⟨ac,ao,a8,V,rfl⟩
   ·rw[O j' ad]at N
    exact absurd (y.base _ _ _ V N).1 (a7 k f b I n m)
   ·rw[Q s ac]at N
    exact J.inj _ _ _ _ _ n V m N
 ·have v:mv B k=false:=by
   cases K:mv B k with
   |false=>rfl
   |true=>have:=(eK k).1 K;omega
  rw[Q k v,an k v];exact J.tV k a
end
variable{M:Code}{U:FuncId}{W:List Nat}
def Wv:Option Nat->Fence
 |none=>Fence.wide
 |some l=>Fence.wide.inRound l
def Pa(r:Option Nat)(f:FuncId):(Wv r).fn f:=by cases r<;>trivial
def F0(r:Option Nat):(Wv r).depth=none:=by cases r<;>rfl
def Pb(P:Program)(r:Option Nat):Machine.fenced P (Wv r)=Machine.fenced P Fence.wide:=by cases r<;>rfl
def Kl{r:Option Nat}{n:Nat}{P:Program}{c:Array Value}{w:World}{R:Ending->World->Prop}(h:Calls P U c w R):CallsIn (Wv r) n P U c w R:=by
 cases r with
 |none=>exact auj.2 h
 |some l=>exact(auj.2 h).inRound l
def Pc{r:Option Nat}{n:Nat}{P:Program}{e:String}{d:Array Value}{w:World}{R:Value->World->Prop}(h:Rows P e d w R):RowsIn (Wv r) n P e d w R:=λc cs _=>by
 obtain⟨v,g,f,s⟩:=h c cs;refine⟨v,g,f,?_⟩;rw[Pb];exact stepsIn_wide.2 s
def CJ:List Oper->List Nat
 |[]=>[]
 |o::l=>match o.dst with
  |some d=>d::CJ l
  |none=>CJ l
def F1{o:Oper}(c:o.dst=some d):∀{l:List Oper},o∈l->d∈CJ l:=by
 intro l
 induction l with
 |nil=>intro h;cases h
 |cons f l e=>
  intro h;unfold CJ;rcases aqG.1 h with h|h
  ·subst h
   rw[c];exact ata
  ·have:=e h
   split
   ·exact ari _ this
   ·exact this
def wrL:Code->List Nat
 |.region _ ops _=>CJ ops.toList
 |.seq a b=>wrL a++wrL b
 |.cond _ a b=>wrL a++wrL b
 |.block _ a=>wrL a
 |.loop a=>wrL a
 |.scope a=>wrL a
 |_=>[]
def Kp(l:List Nat)(a a':Act):Prop:=∀i,i∉l->a'.tmps[i]? =a.tmps[i]?
def Kp.refl(l:List Nat)(a:Act):Kp l a a:=λ_ _=>rfl
def Kp.trans{l:List Nat}{a b c:Act}(h:Kp l a b)(k:Kp l b c):Kp l a c:=λi d=>(k i d).trans (h i d)
def Kp.mono{l m:List Nat}{a b:Act}(h:Kp l a b)(e:∀i,i∈l->i∈m):Kp m a b:=λi d=>h i λc=>d (e i c)
def Kp.left{l m:List Nat}{a b:Act}(h:Kp l a b):Kp (l++m) a b:=h.mono λi c=>auk _ c
def Kp.right{l m:List Nat}{a b:Act}(h:Kp m a b):Kp (l++m) a b:=h.mono λi c=>aul _ c
def Kp.put{l:List Nat}{a:Act}{d:Option Nat}{v:Value}(h:∀x,d=some x->x∈l):Kp l a (a.put d v):=λi c=>by
 cases d with
 |none=>rfl
 |some x=>
  have f:x≠i:=λe=>c (e▸h x rfl);simp only[Act.put];rw[atC f]
def jo(a:Act)(d:Option Nat)(v:Value):(a.put d v).defers=a.defers:=by cases d<;>rfl
section
variable{P:Program}{b:Frame}{a:Act}{k:List Item}{cs:List Frame}{w:World}{Q:Exit->Act->World->Prop}{F:Fence}{n:Nat}
def Km:step P (lone (b.atR a (.code (.scope M)::k)) cs w)=.next (lone (b.atR a (.code M:: .inScope M::k)) cs w):=
 step_lone_go (by simp[stepG,stepG.exec,Frame.atR])
def FH:step P (lone (b.atR a (.inScope M::k)) cs w)=.next (lone (b.atR a k) cs w):=
 step_lone_go (by simp[stepG,stepG.exec,Frame.atR])
def tO(h:M.wpIn F n P (Exit.noGoto Q) a w):(Code.scope M).wpIn F n P Q a w:=by
 intro b k cs p j o;obtain⟨e,f,i,d,c⟩:=h b (.inScope M::k) cs p j o;have g:StepsIn (Machine.fenced P F) P (lone (b.atR a (.code (.scope M)::k)) cs w) (lone (b.atR a (.code M:: .inScope M::k)) cs w):=.one (fenced_calm j o rfl) Km;cases e with
 |normal=>exact⟨.normal,f,i,d,.of_steps g (StepsIn.trans c (.one (fenced_calm j o rfl) FH))⟩
 |exit id=>exact⟨.exit id,f,i,d,.of_steps g ⟨λs m=>c.1 s (by simp[exitTo,m]),λq m=>c.2 q (by simp[exitTo,m])⟩⟩
 |goto l=>exact d.elim
 |ret=>exact⟨_,f,i,d,.of_steps g c⟩
 |panic t=>exact⟨_,f,i,d,.of_steps g c⟩
 |outgrown=>exact⟨_,f,i,d,.of_steps g c⟩
end
section
variable{P:Program}{ops:Array Oper}{r:Option Nat}
def Ko{o:Oper}{a:Act}{next:Act->World->Prop}{Q:Exit->Act->World->Prop}(g:∀c i,next c i->c.defers.length<=d)(j:∀x c i,Q x c i->x=.normal){res:Result Next}(h:o.upon P a next Q res):a.defers.length<=d:=by
 unfold Oper.upon at h;split at h
 ·have:=g _ _ h;rwa[jo]at this
 ·have:=g _ _ h;rwa[jo]at this
 ·have:=g _ _ h;rw[jo]at this;simp at this;omega
 ·obtain⟨e,m,q,f,_⟩:=h []
  cases e with
  |returned v=>have:=g _ _ f;rwa[jo]at this
  |panicked p=>cases j _ _ _ f
  |outgrown=>obtain⟨c,i,l⟩:=f;cases j _ _ _ l
 ·obtain⟨v,m,f,_⟩:=h default []
  have:=g _ _ f;rwa[jo]at this
 ·cases j _ _ _ h
 ·cases h
def BI{Q:Exit->Act->World->Prop}(d:∀x c e,Q x c e->x=.normal):¬LetsOut Q:=λ⟨a,w,h⟩=>by cases d _ _ _ h
def akA{o:Oper}{a:Act}{w:World}{next:Act->World->Prop}{Q:Exit->Act->World->Prop}(p:∀i e,next i e->i.defers.length<=a.defers.length)(l:∀x i e,Q x i e->x=.normal)(h:o.wp P a w next Q):
 o.wpIn (Wv r) 0 P a w next Q:=by
 refine⟨λf _=>Pa r f,?_⟩;unfold Oper.wp at h;have q:o.semAt (Wv r).round a.eval=execOp a.eval o:=by
  refine Oper.semAt_eq _ _ _ λc m=>?_;have s:(execOp a.eval o).run P w=((resolve a.eval c o.type).run P w).andThen λd e=>.ok (.defer d) e:=by
   unfold execOp;rw[m];simp only[aqs,aqu]
  rw[s]at h;cases j:(resolve a.eval c o.type).run P w with
  |ok d e=>
   rw[j]at h;have:=p _ _ h;rw[jo]at this;simp at this;omega
  |halt x e=>
   rw[j]at h;cases x<;>first|exact h.elim|(cases l _ _ _ h)
 rw[q];generalize(execOp a.eval o).run P w=res at h;unfold Oper.upon at h;unfold Oper.uponIn;split at h
 ·exact h
 ·exact h
 ·exact h
 ·exact⟨λg=>by(rw[F0]at g;cases g),Kl h⟩
 ·exact⟨λg=>by(rw[F0]at g;cases g),Pc h⟩
 ·exact h
 ·exact h.elim
def uZ{Q:Exit->Act->World->Prop}{m:Nat}(d:∀x c e,Q x c e->x=.normal/\c.defers.length<=m):∀(l:List Oper) (a:Act) (w:World),wpList P ops Q l a w->a.defers.length<=m
 |[],a,w,h=>(d _ _ _ h).2
 |o::l,a,w,h=>by
  unfold wpList at h;split at h
  ·rcases h with h|⟨_,h⟩
   ·exact Ko (uZ d l) (λx c e f=>(d x c e f).1) h
   ·exact absurd h (BI λx c e f=>(d x c e f).1)
  ·have:=uZ d l _ _ h
   rwa[jo]at this
def Ww{F:Fence}{n:Nat}{o:Oper}{a:Act}{w:World}{next m:Act->World->Prop}{Q q:Exit->Act->World->Prop}(g:∀x j f,Q x j f->x=.normal)(h:o.wpIn F n P a w next Q)
 (d:∀(i:Act) (v:Value) (f:World),i.tmps=a.tmps->a.defers.length<=i.defers.length->next (i.put o.dst v) f->m (i.put o.dst v) f):o.wpIn F n P a w m q:=by
 refine⟨h.1,?_⟩;have h:=h.2;generalize(o.semAt F.round a.eval).run P w=res at h;unfold Oper.uponIn at h⊢;split at h
 ·exact d _ _ _ rfl (aqf _) h
 ·exact d _ _ _ rfl (aqf _) h
 ·exact d {a with defers:=_::a.defers} _ _ rfl (by simp) h
 ·exact⟨h.1,h.2.mono λe p c=>by
   cases e with
   |returned v=>exact d _ _ _ rfl (aqf _) c
   |panicked s=>cases g _ _ _ c
   |outgrown=>obtain⟨j,f,l⟩:=c;cases g _ _ _ l⟩
 ·exact⟨h.1,h.2.mono λv p c=>d _ _ _ rfl (aqf _) c⟩
 ·exact⟨h.1,h.2.mono λe p c=>by
   cases e with
   |returned v=>exact d _ _ _ rfl (aqf _) c
   |panicked s=>cases g _ _ _ c
   |outgrown=>obtain⟨j,f,l⟩:=c;cases g _ _ _ l⟩
 ·cases g _ _ _ h
 ·exact h.elim
def CL{o:Oper}{a j:Act}{w:World}{next p:Act->World->Prop}{Q q:Exit->Act->World->Prop}(l:∀x e f,Q x e f->x=.normal)(z:∀e f,next e f->e.defers.length<=d)(u:∀c,o.dst=some c->c∈W)
 (A:d<=a.defers.length) (y:Kp W j a) (h:o.wp P a w next Q) (B:∀e f,next e f->d<=e.defers.length->Kp W j e->p e f):o.wpIn (Wv r) 0 P a w p q:=by
 have t:=akA (r:=r) (λe f g=>aq9 (z e f g) A) l h;refine Ww l t λs v f C D g=>B _ _ g ?_ ?_
 ·rw[jo];omega
 ·intro i m
  rw[Kp.put (a:=s) (v:=v) u i m,C];exact y i m
def F2{F:Fence}{n:Nat}{o:Oper}{a:Act}{w:World}{next m:Act->World->Prop}{Q l:Exit->Act->World->Prop}(f:∀x a w,Q x a w->l x a w)(d:∀a w,next a w->m a w)(h:o.wpIn F n P a w next Q):o.wpIn F n P a w m l:=by
 refine⟨h.1,?_⟩;have h:=h.2;generalize(o.semAt F.round a.eval).run P w=res at h;unfold Oper.uponIn at h⊢;split at h
 ·exact d _ _ h
 ·exact d _ _ h
 ·exact d _ _ h
 ·exact⟨h.1,h.2.mono λe p c=>by
   cases e with
   |returned v=>exact d _ _ c
   |panicked q=>exact f _ _ _ c
   |outgrown=>obtain⟨g,j,i⟩:=c;exact⟨g,j,f _ _ _ i⟩⟩
 ·exact⟨h.1,h.2.mono λv p c=>d _ _ c⟩
 ·exact⟨h.1,h.2.mono λe p c=>by
   cases e with
   |returned v=>exact d _ _ c
   |panicked q=>exact f _ _ _ c
   |outgrown=>obtain⟨g,j,i⟩:=c;exact⟨g,j,f _ _ _ i⟩⟩
 ·exact f _ _ _ h
 ·exact h.elim
def y0{Q:Exit->Act->World->Prop}{m:Nat}(g:∀x c e,Q x c e->x=.normal/\c.defers.length<=m){l0:List Nat}{a0:Act}:∀(l:List Oper) (a:Act) (w:World),(∀o∈l,∀d,o.dst=some d->d∈l0)->m<=a.defers.length->Kp l0 a0 a->wpList P ops Q l a w->
 wpListIn (Wv r) 0 P ops (λx c e=>Q x c e/\Kp l0 a0 c) l a w
 |[],a,w,_,_,j,h=>⟨h,j⟩
 |o::l,a,w,p,v,j,h=>by
  unfold wpList at h;unfold wpListIn;have u:∀x,o.dst=some x->x∈l0:=λx A=>p o (by simp) x A;split at h
  ·rename_i s
   rw[aqd s];rcases h with h|⟨_,h⟩
   ·exact CL (λx c e i=>(g x c e i).1) (uZ g l) u v j h λc e i z y=>y0 g l c e (λt q=>p t (by simp[q])) z y i
   ·exact absurd h (BI λx c e i=>(g x c e i).1)
  ·rename_i s
   rw[aqc s];exact⟨λf _=>Pa r f,y0 g l _ w (λt q=>p t (by simp[q])) (by rw[jo];exact v) (j.trans (Kp.put u)) h⟩
def ng{F:Fence}{n:Nat}{Q e:Exit->Act->World->Prop}(c:∀x a w,Q x a w->e x a w):∀(l:List Oper) (a:Act) (w:World),wpListIn F n P ops Q l a w->wpListIn F n P ops e l a w
 |[],a,w,h=>c _ _ _ h
 |o::l,a,w,h=>by
  unfold wpListIn at h⊢;split at h
  ·rename_i d
   rw[aqd d];exact F2 c (λa w f=>ng c l a w f) h
  ·rename_i d
   rw[aqc d];exact⟨h.1,ng c l _ _ h.2⟩
def lA{F:Fence}{n:Nat}{m:Region.Mode}{Q l:Exit->Act->World->Prop}(e:∀x a w,Q x a w->l x a w):∀(d:Nat) (j:Array Bool) (a:Act) (w:World),wpAnyIn F n P m ops Q d j a w->wpAnyIn F n P m ops l d j a w
 |0,_,a,w,h=>⟨h.1,e _ _ _ h.2⟩
 |d+1,j,a,w,h=>by
  refine⟨λs=>e _ _ _ (h.1 s),λi q=>?_⟩;have c:=h.2 i q;unfold wpOpIn at c⊢;split
  ·rename_i f
   rw[f]at c;exact lA e d _ a w c
  ·rename_i o f
   rw[f]at c;simp only at c;split at c
   ·rename_i g
    rw[aqd g];exact F2 e (λa w p=>lA e d _ a w p) c
   ·rename_i g
    rw[aqc g];exact⟨c.1,lA e d _ _ _ c.2⟩
def sO{p:Region.Mode}{Q:Exit->Act->World->Prop}{m:Nat}(d:∀x e g,Q x e g->x=.normal/\e.defers.length<=m):∀(f:Nat) (l:Array Bool) (a:Act) (w:World),wpAny P p ops Q f l a w->a.defers.length<=m
 |0,_,a,w,h=>(d _ _ _ h.2).2
 |f+1,l,a,w,h=>by
  obtain⟨q,s⟩:=h;cases o:Region.ready p ops l with
  |nil=>exact(d _ _ _ (q o)).2
  |cons i t=>
   have c:=s i (by rw[o];simp);unfold wpOp at c;split at c
   ·exact sO d f _ _ _ c
   ·split at c
    ·rcases c with c|⟨_,c⟩
     ·exact Ko (sO d f _) (λx e g j=>(d x e g j).1) c
     ·exact absurd c (BI λx e g j=>(d x e g j).1)
    ·have:=sO d f _ _ _ c
     rwa[jo]at this
def vQ{z:Region.Mode}{Q:Exit->Act->World->Prop}{m:Nat}(l:∀x c g,Q x c g->x=.normal/\c.defers.length<=m){l0:List Nat}{a0:Act}(q:∀(i:Nat) o,ops[i]? =some o->∀d,o.dst=some d->d∈l0):∀(j:Nat) (y:Array Bool) (a:Act) (w:World),m<=a.defers.length->Kp l0 a0 a->wpAny P z ops Q j y a w->
 wpAnyIn (Wv r) 0 P z ops (λx c g=>Q x c g/\Kp l0 a0 c) j y a w
 |0,_,a,w,_,p,h=>⟨h.1,h.2,p⟩
 |j+1,y,a,w,u,p,h=>by
  obtain⟨A,B⟩:=h;refine⟨λG=>⟨A G,p⟩,λi C=>?_⟩;have e:=B i C;unfold wpOp at e;unfold wpOpIn;split at e
  ·rename_i t
   rw[t];exact vQ l q j _ a w u p e
  ·rename_i o t
   rw[t];simp only;split at e
   ·rename_i v
    rw[aqd v];rcases e with e|⟨_,e⟩
    ·exact CL (λx c g s=>(l x c g s).1) (sO l j _) (q i o t) u p e λc g s E D=>vQ l q j _ c g E D s
    ·exact absurd e (BI λx c g s=>(l x c g s).1)
   ·rename_i v
    rw[aqc v];exact⟨λf _=>Pa r f,vQ l q j _ _ w (by rw[jo];exact u) (p.trans (Kp.put (q i o t))) e⟩
end
variable{H:Array Oper}{Z:List Oper}
def Enters(P:Program)(f:FuncId):Prop:=∃fn,P.funcs[f]? =some fn/\(fn.name== "runtime.NumGoroutine")=false/\fn.body.isNone=false
def Bn(P:Program)(f:FuncId)(H0:Hp)(aS:List AV)(H:Hp)(r:AV):Prop:=
 Enters P f/\∀B Rd e w vs,SR B Rd e H0 w->LR (VR (bF B Rd e H0 w) (some e)) aS vs->Calls P f vs.toArray w λx w'=>∃v e',x=.returned v/\SR B Rd e' H w'/\VR (bF B Rd e' H w') (some e') r v
section
variable{P:Program}{st:St}{d:Nat}{ty:TypeId}{pos:String}{af:Array Edge}{gd:Option (Nat×Bool)}{K:St->Prop}
def gh(h:Enters P U)(a:Array Value)(w:World):(callFunc U a).run P w=.ok (.enter U a) w:=by
 obtain⟨b,c,e,g⟩:=h;have f:¬(b.name== "runtime.NumGoroutine")=true:=by rw[e];simp
 have i:¬b.body.isNone=true:=by rw[g];simp
 simp only[callFunc,aqs];have:(program).run P w=.ok P w:=rfl;rw[this];simp only[aqt,c];rw[aqc f,aqc i];rfl
mutual
def AV.pu:AV->Bool
 |.un=>true
 |.v _=>true
 |.sl _ _ rows=>rows.isEmpty
 |.ow _=>true
 |.pt _ _=>true
 |.pe _ _ _ _=>true
 |.sw _ _ _ _=>true
 |.fp _=>false
 |.mp _=>true
 |.ag cs=>AV.Fw cs
 |.tu cs=>AV.Fw cs
 |.cl _ fs cs=>AV.Fw fs && AV.Fw cs
def AV.Fw:List AV->Bool
 |[]=>true
 |c::cs=>AV.pu c && AV.Fw cs
end
def oN:∀{a:List AV},AV.Fw a=true->∀(j:Nat) c,a[j]? =some c->c.pu=true
 |[],_,j,c,h=>by simp at h
 |x::a,b,j,c,h=>by
  simp only[AV.Fw,aqe]at b;cases j with
  |zero=>simp at h;exact h▸b.1
  |succ j=>exact oN b.2 j c (by simpa using h)
def VR.pure{Rd m:Nat->Nat->Value->Prop}{E:Option Env}(h:VR Rd E B j)(g:B.pu=true):VR m E B j:=by
 induction h with
 |un=>exact .un
 |v=>exact .v
 | @sl E tight D u a x i C y f l c e n z k=>
  have q:u=[]:=by simpa[AV.pu]using g
  subst q;have r:i=[]:=by simpa using f
  subst r;exact .sl (rows:=[]) [] (by simp) (by simp) rfl (by simp) c e n (by simp)
 |ow=>exact .ow
 |pt h=>exact .pt h
 |pe h=>exact .pe h
 |sw h p c e=>exact .sw h p c e
 |fp=>simp[AV.pu]at g
 |ag i f l k=>exact .ag i f λb B j c e=>k b B j c e (oN (by simpa[AV.pu]using g) b B c)
 |tu i f l k=>exact .tu i f λb B j c e=>k b B j c e (oN (by simpa[AV.pu]using g) b B c)
 |mp h=>exact .mp h
 |cl i w f o l A k s=>
  simp only[AV.pu,aqe]at g;exact .cl i w f o (λb B j c e=>k b B j c e (oN g.1 b B c)) (λb B j c e=>s b B j c e (oN g.2 b B c))
def akB:Ob->Prop
 |.box _ cs=>AV.Fw cs=true
 |.arr _ _ rows _=>∀c∈rows.flatten,c.pu=true
 |.mp _ es=>∀p∈es,p.2.pu=true
 |.nr _ cs=>AV.Fw cs=true
def OR.pure{Rd E:Nat->Nat->Value->Prop}{e:Env}{w:World}{k:Nat}{ob:Ob}(h:OR Rd e w k ob)(p:akB ob):OR E e w k ob:=by
 cases ob with
 |box t H=>
  obtain⟨g,b,I,l,n,a⟩:=h;exact⟨g,b,I,l,n,a.1,λj c u f o=>(a.2 j c u f o).pure (oN p j c f)⟩
 |arr t M L wr=>
  obtain⟨g,l,n,a⟩:=h;refine⟨g,l,n,?_⟩;rcases a with a|⟨b,A,B,q,r,s,v,y,z,i,F⟩
  ·exact .inl a
  ·exact .inr ⟨b,A,B,q,r,s,v,y,z,⟨i.1,λj c u f o=>(i.2 j c u f o).pure (p c (aqw f))⟩,F⟩
 |mp d J=>
  obtain⟨g,b,arr,G,l,n,a⟩:=h;exact⟨g,b,arr,G,l,n,a.len,λj x m C D=>⟨(a.key j x m C D).1,(a.key j x m C D).2.pure (p x (aqw C))⟩,a.isk,a.jN,a.O3,a.clk⟩
 |nr t H=>
  obtain⟨g,a⟩:=h;refine⟨g,?_⟩;rcases a with a|⟨b,A,B,q,r,s,v,y,z,i⟩
  ·exact .inl a
  ·exact .inr ⟨b,A,B,q,r,s,v,y,z,⟨i.1,λj c u f o=>(i.2 j c u f o).pure (oN p j c f)⟩⟩
def ah5(H:Hp):Prop:=∀k ob,aY H k=some ob->akB ob
def SR.pure{B:Bs}{Rd b:Nat->Nat->Value->Prop}{e:Env}{H:Hp}{w:World}(h:SR B b e H w)(f:ah5 H)(c:Good Rd B):SR B Rd e H w:=
 ⟨h.ext,c,λk ob a=>(h.ob k ob a).pure (f k ob a),h.base,h.inj,h.tV⟩
def Rx(st:St)(D:List (Nat×Nat))(B:Nat)(h' H0:Hp)(aS cs:List AV):Prop:=
 ∀w0 Rd0 e w us,SR w0 Rd0 e st.h w->LR (VR (bF w0 Rd0 e st.h w) (some e)) cs us->
  ∃e1,m_ w0 Rd0 e st.h w e1 h'/\Handed D e1 h'/\
   (∀p ob,aY H0 p=some ob->∃c ob',tW D p=some c/\aY h' c=some ob'/\∀Rd,OR Rd e1 w c ob'->OR Rd e1 w c (ob.hV (fG D B)))/\
   LR (VR (bF w0 Rd0 e1 h' w) (some e1)) (aS.map (AV.hV (fG D B))) us
def RB(D:List (Nat×Nat))(B:Nat)(e:Env)(w:World)(b o:Nat)(u:Value):Prop:=w.cell? ⟨b,o,none⟩=some u/\¬(cB D B e w).gU b
def Pd(st:St)(D:List (Nat×Nat))(B:Nat)(H0:Hp)(aS cs:List AV):Prop:=
 ∀w0 Rd0 e w us,SR w0 Rd0 e st.h w->LR (VR (bF w0 Rd0 e st.h w) (some e)) cs us->
  Handed D e st.h/\(∀p ob,aY H0 p=some ob->∃c ob',tW D p=some c/\aY st.h c=some ob'/\OR (RB D B e w) e w c (ob.hV (fG D B)))/\
   LR (VR (RB D B e w) (some e)) (aS.map (AV.hV (fG D B))) us
def Ga.args(h:Ga I c u st D g)(args:Array Operand):LR (VR (bF I c u st.h g) (some u)) (args.toList.map st.ev) (args.toList.map D.eval):=by
 refine⟨by simp,λj a b f e=>?_⟩;rw[aqA]at f e;obtain⟨x,i,rfl⟩:=aqL.1 f;rw[i]at e;simp at e;subst e;exact h.ev x
def Pe(c:Enters P U){a:Array Operand}{e:Array TypeId}:
 (execOp D.eval ⟨some d,.call ⟨.value (.func U),a,e⟩,ty,pos,af,gd⟩).run P g=.ok (.enter U (a.toList.map D.eval).toArray) g:=by
 have:=gh c (a.map D.eval) g;have b:(a.toList.map D.eval).toArray=a.map D.eval:=by rw[<-arT]
 rw[b];simpa[execOp,resolve,Act.eval,Deferred.ofValue,invoke]using this
def Kb(P:Program)(o:Oper)(st:St)(f:FuncId)(avs:List AV):Prop:=
 Enters P f->∀w0 Rd0 e a w,Ga w0 Rd0 e st a w->∃us,LR (VR (bF w0 Rd0 e st.h w) (some e)) avs us/\∀w',(execOp a.eval o).run P w'=.ok (.enter f us.toArray) w'
def Kb.func{f:FuncId}{args:Array Operand}{ts:Array TypeId}:Kb P ⟨some d,.call ⟨.value (.func f),args,ts⟩,ty,pos,af,gd⟩ st f (args.toList.map st.ev):=λb i c e a w h=>
 ⟨_,h.args args,λg=>Pe b⟩
def CM{x:Operand}{args:Array Operand}{ts:Array TypeId}{a:Act}{w:World}{us xs:List Value}(h:Enters P U)(c:a.eval x=.func (.func U) us.toArray xs.toArray):
 (execOp a.eval ⟨some d,.call ⟨.value x,args,ts⟩,ty,pos,af,gd⟩).run P w=.ok (.enter U (us++args.toList.map a.eval++xs).toArray) w:=by
 have:=gh h (us.toArray++args.map a.eval++xs.toArray) w;have b:(us++args.toList.map a.eval++xs).toArray=us.toArray++args.map a.eval++xs.toArray:=by
  rw[<-atD];simp
 rw[b];simpa[execOp,resolve,c,Deferred.ofValue,invoke]using this
def Kb.val{f:FuncId}{args:Array Operand}{ts:Array TypeId}(g:st.ev A=.v (.func (.func f) #[] #[])):Kb P ⟨some d,.call ⟨.value A,args,ts⟩,ty,pos,af,gd⟩ st f (args.toList.map st.ev):=λc k j e a w h=>by
 refine⟨_,h.args args,λi=>?_⟩;have b:=h.ev A;rw[g]at b;have:=CM (P:=P) (d:=d) (ty:=ty) (pos:=pos) (af:=af) (gd:=gd) (x:=A) (args:=args) (ts:=ts) (a:=a) (w:=i) (us:=[]) (xs:=[]) c b.bE;simpa using this
def Kb.cl{x:Operand}{f:FuncId}{args:Array Operand}{ts:Array TypeId}{fs cs:List AV}(m:st.ev x=.cl (.func f) fs cs):Kb P ⟨some d,.call ⟨.value x,args,ts⟩,ty,pos,af,gd⟩ st f (fs++args.toList.map st.ev++cs):=λj q n e a w h=>by
 have b:=h.ev x;rw[m]at b;generalize c:a.eval x=u at b;cases b with
 |cl o r k l g i=>
  exact⟨_,(LR.append ⟨k,g⟩ (h.args args)).append ⟨l,i⟩,λp=>CM j c⟩
def LR.nO{Rd a:Nat->Nat->Value->Prop}{e:Env}{D:List (Nat×Nat)}{B:Nat}{f:List AV}{g:List Value}(h:LR (VR Rd (some e)) (f.map (AV.hV (fG D B))) g)(i:∀b o u,Rd b o u->a b o u):LR (VR a (some (e.pi D B))) f g:=
 ⟨by simpa using h.1,λj c u k l=>((h.2 j (c.hV (fG D B)) u (by simp[k]) l).mono i).nO (fG D B) (e':=e.pi D B) (λ_=>rfl) (λ_=>rfl) rfl rfl⟩
def Ga.back{e l:Env}{a:List (Nat×Nat)}(h:Ga I c e st D g)(q:Handed a e st.h)(m:Ka v a=true)(r:SR (cB a v e g) (cRd a v I c e st.h g) l L J)
 (s:VR (bF (cB a v e g) (cRd a v I c e st.h g) l L J) (some l) B j) (n:lU a L=true) (p:B.fX (λk=> !Fv a k)=true) (o:d<st.n):
 Ga I c (e.eh a v l) ⟨st.n,(d,B.hV (fG a v))::qb (mv v) st.t,jU (fG a v) L++(na a++gW (mv v) st.h)⟩ (D.put (some d) j) J:=by
 obtain⟨j1,j2,j3,j4⟩:=SR.eh h.sr q m r n;refine⟨by simpa[Act.put]using h.n,h.d,j1,TR.put (λi=>?_) (by rw[h.n.1];exact o) ?_⟩
 ·rw[lL]
  exact((((h.tr i).mono j2).jH _).FG rfl (mv v) (nN _ _) (λb f=>by simp[Env.eh,f]) (λb f=>by simp[Env.eh,f]))
 ·exact(s.mono j3).anY _ p (fG a v) (λb f=>(j4 b (by simpa using f)).1) (λb f=>(j4 b (by simpa using f)).2)
def SS.akC{op:Op}{D:List (Nat×Nat)}{n i H:Hp}{m:List AV}(z:Bn P U i m H B)(I:Kb P ⟨some d,op,ty,pos,af,gd⟩ st U y)(J:Rx st D (1000*(d+1)) n i m y)(r:Ka (1000*(d+1)) D=true)(C:lU D H=true)(M:B.fX (λk=> !Fv D k)=true)(G:d<st.n)
 (E:K ⟨st.n,(d,B.hV (fG D (1000*(d+1))))::qb (mv (1000*(d+1))) st.t,jU (fG D (1000*(d+1))) H++(na D++gW (mv (1000*(d+1))) n)⟩):SS P ⟨some d,op,ty,pos,af,gd⟩ st K:=by
 intro A j e a w next Q h N
 obtain⟨us,W,R⟩:=I z.1 A j e a w h;obtain⟨e1,l,g,s,X⟩:=J A j e w _ h.sr W;have q:=h.cA l;have S:=q.sr.nc g r s;have F:=z.2 _ _ _ w us S (X.nO λb o u L=>L.nc g λp ob O=>by
  obtain⟨c,a0,x,f,_⟩:=s p ob O;exact⟨c,x,a0,f⟩)
 unfold Oper.wp;rw[R w];show Calls P U _ w _;refine F.mono λx w' Z=>?_;obtain⟨v,e2,rfl,V,Y⟩:=Z;exact N _ E _ _ _ (q.back g r V Y C M G)
def SS.Ry{op:Op}{D:List (Nat×Nat)}{r H:Hp}{E:List AV}(M:Bn P U r E H B)(a5:B.pu=true)(a3:ah5 H)(Y:Kb P ⟨some d,op,ty,pos,af,gd⟩ st U y)(l:Pd st D (1000*(d+1)) r E y)(s:Ka (1000*(d+1)) D=true)(S:lU D H=true)(hn:B.fX (λk=> !Fv D k)=true)(X:d<st.n)
 (V:K ⟨st.n,(d,B.hV (fG D (1000*(d+1))))::qb (mv (1000*(d+1))) st.t,jU (fG D (1000*(d+1))) H++(na D++gW (mv (1000*(d+1))) st.h)⟩):SS P ⟨some d,op,ty,pos,af,gd⟩ st K:=by
 intro O C e a w next Q h a0
 obtain⟨us,a8,a6⟩:=Y M.1 O C e a w h;obtain⟨A,n,hv⟩:=l O C e w _ h.sr a8;have Z:Good (RB D (1000*(d+1)) e w) (cB D (1000*(d+1)) e w):=⟨λb o u j=>j,λb o u l=>⟨(h.sr.CD l).1,h.sr.Kk A l⟩⟩;have F:∀b o u,RB D (1000*(d+1)) e w b o u->bF (cB D (1000*(d+1)) e w) (RB D (1000*(d+1)) e w) (e.pi D (1000*(d+1))) r w b o u:=λb o u j=>⟨j.1,λ_=>j,λp ob m i=>by
  obtain⟨c,q,x,f,_⟩:=n p ob m;refine absurd (.inr ⟨p,c,x,?_⟩) j.2;have R:fG D (1000*(d+1)) p=c:=by simp[fG,x]
  simpa only[Env.pi,R]using i⟩
 have z:∀{p c},tW D p=some c->fG D (1000*(d+1)) p=c:=λ{p c} g=>by simp[fG,g]
 have hs:SR (cB D (1000*(d+1)) e w) (RB D (1000*(d+1)) e w) (e.pi D (1000*(d+1))) r w:=by
  refine⟨⟨rfl,rfl,rfl,aqf _,λ_ _=>rfl,aqf _⟩,Z,λp ob m=>?_,λp ob b m i=>?_,λp p' ob q b m a4 i G=>?_,λk _=>⟨rfl,rfl⟩⟩
  ·obtain⟨c,q,g,L,J⟩:=n p ob m
   rw[<-z g]at J;exact(OR.nO (fG D (1000*(d+1))) J (e':=e.pi D (1000*(d+1))) (λ_=>rfl) (λ_=>rfl) rfl).mono F
  ·obtain⟨c,q,g,L,_⟩:=n p ob m
   simp only[Env.pi,z g]at i;exact⟨.inr ⟨p,c,g,i⟩,(h.sr.base c q b L i).2⟩
  ·obtain⟨c,aa,g,a1,_⟩:=n p ob m
   obtain⟨c',ab,I,a2,_⟩:=n p' q a4;simp only[Env.pi,z g]at i;simp only[Env.pi,z I]at G;have:=h.sr.inj _ _ _ _ _ a1 a2 i G;subst this;simp only[Ka,aqe]at s;have r1:=lV s.1.2 (fP g);have N:=lV s.1.2 (fP I);rw[r1]at N;exact aql N
 have W:=M.2 _ _ _ w us hs (hv.nO F);unfold Oper.wp;rw[a6 w];show Calls P U _ w _;refine W.mono λx w' hx=>?_;obtain⟨v,e2,rfl,a7,a9⟩:=hx;exact a0 _ V _ _ _ (h.back A s (a7.pure a3 ⟨λb o u j=>⟨j.1.1,j.2⟩,λb o u l=>⟨h.sr.CD l,h.sr.Kk A l⟩⟩) (a9.pure a5) S hn X)
def GS(P:Program)(ops:Array Oper)(o:Oper)(st:St)(K:St->Prop):Prop:=
 ∀w0 Rd0 e a w next Q,Ga w0 Rd0 e st a w->(∀FY,K FY->∀e' a' w',Ga w0 Rd0 e' FY a' w'->next a' w')->
  if Region.wanted o (yielded ops a.tmps)then o.wp P a w next Q else next (a.put o.dst undef) w
def GS.plain(c:F.guard=none)(h:SS P F st K):GS P H F st K:=by
 intro i b e a w next Q f g
 rw[aqd (by simp[Region.wanted,c])];exact h i b e a w next Q f g
def Ga.yielded{f:Array Oper}{n:Bs}{g:Nat->Nat->Value->Prop}{e:Env}{a:Act}{w:World}(h:Ga n g e st a w){j s:Nat}{b:Bool}(k:(f[j]?).bind (·.dst)=some s)(l:s<st.n)(m:bz st.t s=.v (.bool b)):yielded f a.tmps j=some b:=by
 have:=h.tr s;rw[m]at this;have:=this.bE;have c:s<a.tmps.size:=by rw[h.n.1];exact l
 have i:a.tmps[s]? =some (.bool b):=by
  rw[aqX c];simp[ary,aqX c]at this;rw[this]
 unfold Go.yielded;rw[k];simp[i]
def GS.taken(f:F.guard=some (v,G))(g:(H[v]?).bind (·.dst)=some Y)(j:Y<st.n)(k:bz st.t Y=.v (.bool G))(h:SS P F st K):GS P H F st K:=by
 intro l c e a w next Q b i
 rw[aqd (by simp[Region.wanted,f,b.yielded g j k])];exact h l c e a w next Q b i
def GS.left{g:Op}{b c:Bool}(k:gd=some (v,b))(l:(H[v]?).bind (·.dst)=some Y)(n:Y<st.n)(o:bz st.t Y=.v (.bool c))(i:(c==b)=false)(j:∀d,C=some d->d<st.n)
 (h:K ⟨st.n,match C with|some d=>(d,.v undef)::st.t|none=>st.t,st.h⟩):GS P H ⟨C,g,ty,pos,af,gd⟩ st K:=by
 intro r q e a w next Q f m
 have p:¬Region.wanted (⟨C,g,ty,pos,af,gd⟩:Oper) (Go.yielded H a.tmps)=true:=by
  simp only[Region.wanted,k,f.yielded l n o];simpa using i
 rw[aqc p];refine m _ h e _ _ ?_;cases C with
 |none=>exact f
 |some d=>exact f.put (j d rfl) .v
def GS.ahd{g:Op}{b:Bool}(k:gd=some (v,b))(l:(H[v]?).bind (·.dst)=some Y)(n:Y<st.n)(o:bz st.t Y=.v undef)(j:∀d,C=some d->d<st.n)
 (i:K ⟨st.n,match C with|some d=>(d,.v undef)::st.t|none=>st.t,st.h⟩):GS P H ⟨C,g,ty,pos,af,gd⟩ st K:=by
 intro s r e a w next Q c m
 have q:Go.yielded H a.tmps v=none:=by
  have:=c.tr Y;rw[o]at this;have:=this.bE;have f:Y<a.tmps.size:=by rw[c.n.1];exact n
  have h:a.tmps[Y]? =some undef:=by
   rw[aqX f];simp[ary,aqX f]at this;rw[this]
  unfold Go.yielded;rw[l];simp[h,undef]
 have p:¬Region.wanted (⟨C,g,ty,pos,af,gd⟩:Oper) (Go.yielded H a.tmps)=true:=by
  simp only[Region.wanted,k,q];simp
 rw[aqc p];refine m _ i e _ _ ?_;cases C with
 |none=>exact c
 |some d=>exact c.put (j d rfl) .v
def AL(P:Program)(ops:Array Oper)(l:List Oper)(st:St)(K:St->Prop):Prop:=
 ∀w0 Rd0 e a w Q,Ga w0 Rd0 e st a w->(∀FY,K FY->∀e' a' w',Ga w0 Rd0 e' FY a' w'->Q .normal a' w')->wpList P ops Q l a w
def AL.nil(h:K st):AL P H [] st K:=λg f e a w Q b c=>c _ h e a w b
def AL.cons(h:∀c:St->Prop,(∀b,AL P H Z b K->c b)->GS P H F st c):AL P H (F::Z) st K:=by
 intro j f e a w Q n p;refine atb λk m=>?_;exact h (λb=>AL P H Z b K) (λ_ h=>h) j f e a w k Q n λb q l g i o=>m g i (q j f l g i Q o p)
def mark(D:Nat):Deferred:={target:=.collected D,args:= #[]}
def Rz(B:Bs):Prop:=∃l:List Nat,B.df=l.map mark/\l.Nodup/\∀D∈l,¬B.gU D/\B.w.heap[D]? =some (.deferred (some []))
structure Bk(t:Bool)(w0:Bs)(Rd0:Nat->Nat->Value->Prop)(w1:Bs)(Rd1:Nat->Nat->Value->Prop):Prop where
 sr:∀e h w,SR w1 Rd1 e h w->SR w0 Rd0 e h w
 rd:∀e h w b o u,bF w1 Rd1 e h w b o u->bF w0 Rd0 e h w b o u
 sz:w0.w.heap.size<=w1.w.heap.size
 df:Rz w0->Rz w1/\∀D,mark D∈w1.df->mark D∈w0.df\/w0.w.heap.size<=D
 ne:t=false->w1=w0/\Rd1=Rd0
def Bk.refl{t:Bool}:Bk t I c I c:=⟨λ_ _ _ h=>h,λ_ _ _ _ _ _ h=>h,aqf _,λh=>⟨h,λ_ a=>.inl a⟩,λ_=>⟨rfl,rfl⟩⟩
def Bk.trans{t:Bool}{j l m:Bs}{c f g:Nat->Nat->Value->Prop}(h:Bk t j c l f)(k:Bk t l f m g):Bk t j c m g:=
 ⟨λe H w v=>h.sr e H w (k.sr e H w v),λe H w b o u s=>h.rd e H w b o u (k.rd e H w b o u s),aq9 h.sz k.sz,λr=>by
  obtain⟨x,n⟩:=h.df r;obtain⟨y,p⟩:=k.df x;refine⟨y,λD q=>?_⟩;rcases p D q with a|a
  ·exact n D a
  ·exact .inr (aq9 h.sz a),λi=>by
  obtain⟨rfl,rfl⟩:=h.ne i;exact k.ne i⟩
def AC(t:Bool)(P:Program)(c:Code)(st:St)(dm:Exit->St->Prop):Prop:=
 ∀(r:Option Nat) w0 Rd0 e a w Q,(t=true->r=none)->Ga w0 Rd0 e st a w->
  (∀x FY,dm x FY->∀w1 Rd1,Bk t w0 Rd0 w1 Rd1->∀e' a' w',Ga w1 Rd1 e' FY a' w'->Kp (wrL c) a a'->Q x a' w')->c.wpIn (Wv r) 0 P Q a w
variable{t:Bool}{dm:Exit->St->Prop}
def Kq(next:St->Prop)(dm:Exit->St->Prop):Exit->St->Prop
 |.normal,st=>next st
 |x,st=>dm x st
def Pf(id:Nat)(dm:Exit->St->Prop):Exit->St->Prop
 |.exit i,st=>if i=id then dm .normal st else dm (.exit i) st
 |x,st=>dm x st
def AC.region{id:Nat}(h:AL P Z.toArray Z st (dm .normal)):AC t P (.region id Z.toArray false) st dm:=λr i l e a w Q A p y=>by
 refine wpIn_region_lit ?_;have q:=h i l e a w (λx b g=>x=.normal/\b.defers.length<=i.df.length/\∃c f,dm .normal c/\Ga i l f c b g) p λc n f b g j=>⟨rfl,by rw[j.d];exact aqf _,c,f,n,j⟩;have s:=y0 (r:=r) (m:=i.df.length) (l0:=CJ Z) (a0:=a) (λx b g k=>⟨k.1,k.2.1⟩) Z a w (λo z d u=>F1 u z) (by rw[p.d];exact aqf _) (Kp.refl _ _) q;refine ng (λx b g k=>?_) Z a w s;obtain⟨⟨rfl,_,c,f,n,j⟩,v⟩:=k;exact y .normal c n i l Bk.refl f b g j v
def AC.seq{x y:Code}(h:AC t P x st (Kq (λb=>AC t P y b dm) dm)):AC t P (.seq x y) st dm:=λr H s e a w Q q E m=>by
 refine wpIn_seq (h r H s e a w _ q E λA b n p c i g f o j k=>?_);cases A with
 |normal=>exact n r p c g f o Q q j λL G B I u C z v J D F=>m L G B I u (i.trans C) z v J D (k.left.trans F.right)
 |exit id=>exact m _ b n p c i g f o j k.left
 |goto l=>exact m _ b n p c i g f o j k.left
 |ret=>exact m _ b n p c i g f o j k.left
 |panic M=>exact m _ b n p c i g f o j k.left
 |outgrown=>exact m _ b n p c i g f o j k.left
def AC.ahe{x y:Code}(l:st.ev A=.v (.bool true))(h:AC t P x st dm):AC t P (.cond A x y) st dm:=λr v f e a w Q p b o=>by
 have c:=b.ev A;rw[l]at c;exact wpIn_cond_true c.bE (h r v f e a w Q p b λx s q z g k j i u m n=>o x s q z g k j i u m n.left)
def AC.ahf{x y:Code}(l:st.ev A=.v (.bool false))(h:AC t P y st dm):AC t P (.cond A x y) st dm:=λr v f e a w Q p b o=>by
 have c:=b.ev A;rw[l]at c;exact wpIn_cond_false c.bE (h r v f e a w Q p b λx s q z g k j i u m n=>o x s q z g k j i u m n.right)
def AC.block{id:Nat}(h:AC t P M st (Pf id dm)):AC t P (.block id M) st dm:=λr x q e a w Q v u m=>by
 refine wpIn_block (h r x q e a w _ v u λs n b p c i g f o j k=>?_);cases s with
 |normal=>exact m _ n b p c i g f o j k
 |exit z=>
  simp only[Pf]at b;simp only[Exit.inBlock];split at b
  ·rename_i hid;rw[aqd hid];exact m _ n b p c i g f o j k
  ·rename_i hid;rw[aqc hid];exact m _ n b p c i g f o j k
 |goto l=>exact m _ n b p c i g f o j k
 |ret=>exact m _ n b p c i g f o j k
 |panic y=>exact m _ n b p c i g f o j k
 |outgrown=>exact m _ n b p c i g f o j k
def AC.scope(h:AC t P M st λx s=>(∀l,x≠.goto l)/\dm x s):AC t P (.scope M) st dm:=λr z q e a w Q y v m=>
 tO (h r z q e a w _ y v λu n b p c i g f o j k=>by
  cases u with
  |goto l=>exact absurd rfl (b.1 l)
  |normal=>exact m _ n b.2 p c i g f o j k
  |exit id=>exact m _ n b.2 p c i g f o j k
  |ret=>exact m _ n b.2 p c i g f o j k
  |panic A=>exact m _ n b.2 p c i g f o j k
  |outgrown=>exact m _ n b.2 p c i g f o j k)
def AC.skip(h:dm .normal st):AC t P .skip st dm:=λr i f e a w Q g b c=>wpIn_skip (c _ st h _ _ Bk.refl e a w b (Kp.refl _ _))
def AC.label(h:dm .normal st):AC t P (.label v) st dm:=λr i f e a w Q g b c=>wpIn_label (c _ st h _ _ Bk.refl e a w b (Kp.refl _ _))
def AC.exit{id:Nat}(h:dm (.exit id) st):AC t P (.exit id) st dm:=λr i f e a w Q g b c=>wpIn_exit (c _ st h _ _ Bk.refl e a w b (Kp.refl _ _))
def AC.ret(h:dm .ret st):AC t P .ret st dm:=λr i f e a w Q g b c=>wpIn_ret (c _ st h _ _ Bk.refl e a w b (Kp.refl _ _))
def bX(P:Program)(st st2:St):Prop:=∀w0 Rd0 e a w,Ga w0 Rd0 e st a w->∃e',Ga w0 Rd0 e' st2 a w
def bX.refl{P:Program}{st:St}:bX P st st:=λ_ _ e _ _ h=>⟨e,h⟩
def bX.trans{P:Program}{c f g:St}(h:bX P c f)(k:bX P f g):bX P c g:=λi b e a w l=>let⟨j,m⟩:=h i b e a w l;k i b j a w m
def AC.le{c:St}(m:bX P st c)(h:AC t P M c dm):AC t P M st dm:=λr f b e a w Q l j k=>let⟨g,i⟩:=m f b e a w j;h r f b g a w Q l i k
def AL.le{c:St}(l:bX P st c)(h:AL P H Z c K):AL P H Z st K:=λf b e a w Q j k=>let⟨g,i⟩:=l f b e a w j;h f b g a w Q i k
def GS.le{c:St}(l:bX P st c)(h:GS P H F c K):GS P H F st K:=λf b e a w next Q j k=>let⟨g,i⟩:=l f b e a w j;h f b g a w next Q i k
def AC.mono{c:Exit->St->Prop}(h:AC t P M st dm)(j:∀x b,dm x b->c x b):AC t P M st c:=λr m f e a w Q k g i=>h r m f e a w Q k g λx b l=>i x b (j x b l)
def AC.loop{α:Type}(I:α->St)(μ:α->Nat)(D:α)(L:bX P st (I D))
 (Z:∀x,AC t P M (I x) (Kq (λf=>∃y,bX P f (I y)/\μ y<μ x) dm)):AC t P (.loop M) st dm:=by
 intro r B z e a w Q V S s;obtain⟨e0,O⟩:=L B z e a w S;have Y:∀n x,μ x<n->∀v u,Bk t B z v u->∀F A C,Ga v u F (I x) A C->Kp (wrL M) a A->Code.roundsIn (Wv r) 0 P M Q n A C:=by
  intro n
  induction n with
  |zero=>intro x W;omega
  |succ n X=>
   intro x W v u j G E a0 N o;refine Z x r v u G E a0 (Exit.then (Code.roundsIn (Wv r) 0 P M Q n) Q) V N λJ f q g b k i c h m p=>?_;cases J with
   |normal=>
    obtain⟨y,U,a3⟩:=q;obtain⟨H,R⟩:=U g b i c h m;exact X y (by omega) g b (j.trans k) H c h R (o.trans p)
   |exit id=>exact s _ f q g b (j.trans k) i c h m (o.trans p)
   |goto l=>exact s _ f q g b (j.trans k) i c h m (o.trans p)
   |ret=>exact s _ f q g b (j.trans k) i c h m (o.trans p)
   |panic ch=>exact s _ f q g b (j.trans k) i c h m (o.trans p)
   |outgrown=>exact s _ f q g b (j.trans k) i c h m (o.trans p)
 exact wpIn_loop_rounds _ (Y _ D (Nat.lt_succ_self _) B z Bk.refl e0 a w O (Kp.refl _ _))
end
def vR{Rd:Nat->Nat->Value->Prop}(a:cellsOf B=some y)(c:VR Rd none B j):∃b,j.cells=b.toArray/\LR (VR Rd none) y b:=by
 cases B with
 |ag h=>
  simp only[cellsOf,aqg]at a;subst a;obtain⟨b,rfl,g⟩:=c.eS;exact⟨b,rfl,g⟩
 |_=>
  simp only[cellsOf]at a;split at a
  ·rename_i e
   simp only[aqg]at a;subst a;have:=c.jk e (λi k f l=>by cases f);exact⟨[j],by rw[mY this],LR.cons c LR.nil⟩
  ·cases a
def chunk(sz:Nat):Nat->List AV->List (List AV)
 |0,_=>[]
 |n+1,cs=>cs.take sz::chunk sz n (cs.drop sz)
def CN(sz:Nat):∀(n:Nat) (a:List AV),a.length=n*sz->(chunk sz n a).flatten=a/\(chunk sz n a).length=n/\∀r∈chunk sz n a,r.length=sz
 |0,a,h=>by simp at h;subst h;simp[chunk]
 |n+1,a,h=>by
  have g:a.length=n*sz+sz:=by rw[h,aqS,asj]
  obtain⟨c,e,f⟩:=CN sz n (a.drop sz) (by simp;omega);refine⟨by rw[chunk,aqR,c,ar7],by rw[chunk,aqC,e],λr b=>?_⟩;rw[chunk]at b;rcases aqG.1 b with rfl|b
  ·simp;omega
  ·exact f r b
def kV:List Nat->List AV->Option (List (Nat×List AV))
 |[],[]=>some []
 |i::is,c::cs=>match cellsOf c,kV is cs with
  |some x,some r=>some ((i,x)::r)
  |_,_=>none
 |_,_=>none
def y5{Rd:Nat->Nat->Value->Prop}:∀(e:List Nat) (n:List AV) (b:List Value) (h:List (Nat×List AV)),kV e n=some h->LR (VR Rd none) n b->e.length=b.length->
 h.length=(e.zip b).length/\∀(j:Nat) p q,h[j]? =some p->(e.zip b)[j]? =some q->p.1=q.1/\LR (VR Rd none) p.2 q.2.cells.toList
 |[],[],b,h,a,g,_=>by simp only[kV,aqg]at a;subst a;simp
 |i::e,c::o,b,h,a,g,v=>by
  cases b with
  |nil=>have:=g.1;simp at this
  |cons u b=>
   simp only[kV]at a;cases f:cellsOf c with
   |none=>simp[f]at a
   |some x=>
    cases l:kV e o with
    |none=>simp[f,l]at a
    |some r=>
     simp only[f,l,aqg]at a;subst a;obtain⟨s,t⟩:=y5 e o b r l ⟨by simpa using g.1,λj c u f m=>g.2 (j+1) c u (by simpa using f) (by simpa using m)⟩ (by simpa using v);refine⟨by simpa using s,λj p q k a=>?_⟩;cases j with
     |zero=>
      simp at k a;subst k;subst a;obtain⟨y,m,w⟩:=vR f (g.2 0 c u rfl rfl);exact⟨rfl,by simpa[m]using w⟩
     |succ j=>exact t j p q (by simpa using k) (by simpa using a)
 |[],_::_,_,_,a,_,_=>by simp[kV]at a
 |_::_,[],_,_,a,_,_=>by simp[kV]at a
section
variable{P:Program}{st:St}{d:Nat}{ty:TypeId}{pos:String}{af:Array Edge}{gd:Option (Nat×Bool)}{K:St->Prop}
def SR.froze(b:SR I c u L g){us:List Value}{t:TypeId}(m:Ext g J)(e:J.heap[g.heap.size]? =some (.cells us.toArray t (0,0))):
 ∀(j:Nat) a,us[j]? =some a->bF I c u L J g.heap.size j a:=λj a h=>by
 refine⟨?_,λl=>?_,λk ob i f=>?_⟩
 ·rw[arj J g.heap.size j us.toArray t (0,0) e];simpa using h
 ·exact absurd (b.ext.gU (aqf _)) l
 ·have:=(b.base _ _ _ i f).2;omega
def Ga.later{g:Bs}{w f:World}{b:Nat->Nat->Value->Prop}{e:Env}{a:Act}(h:Ga g b e st a w)(c:Ext w f):Ga g b e st a f:=
 ⟨h.n,h.d,(h.sr.later c).1,h.tr.mono (h.sr.later c).2⟩
def kW(w:World)(t e:TypeId)(b:Nat)(g:Array (Nat×Value))(a:TypeInfo)(z:Value)
 (m:P.underlying t=some (.slice e)) (k:P.info? e=some a) (n:a.zero=some z) (o:b*a.size<=16777216):
 ∃j:Array Value,j.size=b*a.size/\∀c,Instr.fill (λi=>some (i*a.size,a.size)) j g.toList=some c->
 (Instr.buildSlice t b g).run P w=.ok (.slice (some ⟨w.heap.size,0,none⟩) b b) (w.alloc (.cells c e)):=by
 have l:¬b*a.size>2^24:=by omega
 by_cases f:b*a.size=0
 ·refine⟨#[],by simp[f],λc h=>?_⟩
  have e0:Array.range 0= #[]:=Array.range_zero';simp only[Instr.buildSlice,aqs,aqF m,aqt,cq w k,l,aq_,f,aqP];simp[h,newRow,f,e0,newObj,Sem.run]
 ·refine⟨(Array.range (b*a.size)).map (z.cells[· % z.cells.size]!),by simp,λc h=>?_⟩
  exact run_buildSlice w t e b g c a z m k n l f h
def SS.buildSlice{t E:TypeId}{len m N:Nat}{parts:Array (Nat×Operand)}{h':Hp}{aS cs:List AV}{qs:List (Nat×List AV)}(ht:Ft P t=some (E,m,N,h))
 (hl:mZ st.h (parts.toList.map λp=>st.ev p.2)=some (h',aS)) (hq:kV (parts.toList.map (·.1)) aS=some qs) (H:fZ (λi=>some (i*m,m)) (List.replicate (len*m) .un) qs=some cs)
 (z:cs.all AV.one=true) (V:len*m<=16777216) (a3:0<m) (X:d<st.n) (S:K ⟨st.n,(d,.sl true m (chunk m len cs))::st.t,h'⟩):SS P ⟨some d,.buildSlice t len parts,ty,pos,af,gd⟩ st K:=by
 intro B s e a w next Q b hn
 obtain⟨i,zv,o,O,R,h5,rfl,_,_⟩:=cK ht;have U:LR (VR (bF B s e st.h w) (some e)) (parts.toList.map λp=>st.ev p.2) (parts.toList.map λp=>a.eval p.2):=by
  refine⟨by simp,λj c u z o=>?_⟩;rw[aqA]at z o;obtain⟨x,q,rfl⟩:=aqL.1 z;rw[q]at o;simp at o;subst o;exact b.ev x.2
 obtain⟨r,l,D⟩:=yZ _ _ _ _ _ _ b.sr U hl;have C:=b.cA l;obtain⟨p1,p2⟩:=y5 _ _ _ _ hq D (by simp);obtain⟨G,W,a4⟩:=kW (P:=P) w t E len (parts.map λ(i,x)=>(i,a.eval x)) i zv o O R V;have a2:LR (VR (bF B s r h' w) none) (List.replicate (len*i.size) .un) G.toList:=by
  refine⟨by simp[W],λj c u g hu=>?_⟩;rw[asP]at g;split at g
  ·simp at g;subst g;exact .un
  ·cases g
 obtain⟨f,I,J⟩:=jl (place:=λj=>some (j*i.size,i.size)) qs _ _ cs G a2 p1 p2 H;have a5:(parts.toList.map (·.1)).zip (parts.toList.map λp=>a.eval p.2)=(parts.map λ(i,x)=>(i,a.eval x)).toList:=by
  rw[arT,List.zip_map']
 rw[a5]at I;have a0:cs.length=len*i.size:=by
  have q:=J.1;have:∀(A:List (Nat×List AV)) (c y:List AV),fZ (λj=>some (j*i.size,i.size)) c A=some y->y.length=c.length:=by
   intro A
   induction A with
   |nil=>intro c y n;simp only[fZ,aqg]at n;rw[n]
   |cons p A ih=>
    intro c y n;obtain⟨k,xs⟩:=p;simp only[fZ]at n;split at n
    ·rw[ih _ _ n,kU]
    ·cases n
  rw[this _ _ _ H];simp
 obtain⟨M,F,k3⟩:=CN i.size len cs a0;have q:Ext w (w.alloc (.cells f E)):=(Ext.refl w).alloc _;have Z:=C.later q;have Y:=C.sr.froze (us:=f.toList) (t:=E) q (by simpa using Wu w (.cells f E));refine dY (v:=.slice (some ⟨w.heap.size,0,none⟩) len len) (w':=w.alloc (.cells f E)) ?_ (hn _ S r _ _ (Z.put X ?_))
 ·simp only[execOp,aqs,a4 f I,aqt,aqu]
 ·have a1:len<=maxLen:=by
   unfold maxLen;have:len*1<=len*i.size:=ar8 _ a3;omega
  have L:LR (VR (bF B s r h' (w.alloc (.cells f E))) none) (chunk i.size len cs).flatten f.toList:=by
   rw[M];exact J.imp λ_ _ D=>D.mono (C.sr.later q).2
  have:=VR.sl (E:=some r) (Rd:=bF B s r h' (w.alloc (.cells f E))) (tight:=true) (a:=some ⟨w.heap.size,0,none⟩) (cap:=len) f.toList k3 (λc g=>by rw[M]at g;exact aqD.1 z c g) L.1 L.2 (by rw[F];exact aqf _) a1 (λ_=>F.symm) (λ_=>⟨_,0,rfl,λj u hj=>by rw[aqN];exact Y j u hj⟩);rw[F]at this;exact this
def qz(st:St)(ah6:Nat):Option Operand->Option Nat
 |none=>some ah6
 |some x=>match st.ev x with
  |.v (.int _ i)=>if 0<=i then some i.toNat else none
  |_=>none
def vT(h:Ga I c u st D g)(a:qz st v (some A)=some Y):∃k,D.eval A=.int k Y:=by
 simp only[qz]at a;split at a
 ·rename_i k i f
  split at a
  ·rename_i e
   simp only[aqg]at a;subst a;have b:=h.ev A;rw[f]at b;exact⟨k,by rw[b.bE,atE e]⟩
  ·cases a
 ·cases a
def eU{i:TypeInfo}(u:P.underlying s=some (.slice S))(y:P.info? S=some i)(b:Option Addr)(n f l h:Nat)(m:Option Nat)(a:Nat)(p j q:Option Value)(w:World)
 (z:(p=none/\l=0)\/∃k,p=some (.int k (l:Int))) (x:(j=none/\h=n)\/∃k,j=some (.int k (h:Int))) (A:(q=none/\a=f)\/((∃k,q=some (.int k (a:Int)))/\j≠none))
 (B:l<=h) (C:h<=n) (D:h<=a) (E:a<=f) (F:n<=f):
 (Instr.sliceAt s (.slice b n f) p j q).run P w=.ok (.slice (if a=l then b else b.map (·.add (l*i.size))) (h - l) (a - l)) w:=by
 have c:P.elem s=S:=by simp[Program.elem,u]
 have e:P.underlying s=some (.slice (P.elem s)):=by rw[c];exact u
 rw[run_sliceAt_slice w s _ p j q e];have g:=cq (P:=P) w y;rcases z with⟨rfl,rfl⟩|⟨r,rfl⟩<;>rcases x with⟨rfl,rfl⟩|⟨o,rfl⟩<;>rcases A with⟨rfl,rfl⟩|⟨⟨v,rfl⟩,t⟩
 ·rw[run_slice_all w s b h a e];simp[c,g,sliced]
 ·exact absurd rfl t
 ·rw[run_slice_h w s b n a e o h (by omega) (by omega)];simp[c,g,sliced]
 ·rw[run_slice_hm w s b n f e o v h a (by omega) (by omega) (by omega)];simp[c,g,sliced]
 ·rw[run_slice_l w s b h a e r l (by omega) (by omega)];simp[c,g,sliced]
 ·exact absurd rfl t
 ·rw[run_slice_lh w s b n a e r o l h (by omega) (by omega) (by omega)];simp[c,g,sliced]
 ·rw[run_slice_lhm w s b n f e r o v l h a (by omega) (by omega) (by omega) (by omega)];simp[c,g,sliced]
end
def kX{c:Nat}:∀(a:List (List AV)) (h:Nat),(∀r∈a,r.length=c)->(a.take h).flatten=a.flatten.take (h*c)
 |[],h,_=>by simp
 |r::a,0,_=>by simp
 |r::a,h+1,b=>by
  have e:=b r (by simp);rw[List.take_succ_cons,aqR,aqR,kX a h (λx f=>b x (by simp[f])),aqS,asj,List.take_append];rw[aqQ (l:=r) (by omega),e,Nat.add_sub_cancel]
def kY{c:Nat}:∀(a:List (List AV)) (h:Nat),(∀r∈a,r.length=c)->(a.drop h).flatten=a.flatten.drop (h*c)
 |[],h,_=>by simp
 |r::a,0,_=>by simp
 |r::a,h+1,b=>by
  have e:=b r (by simp);rw[List.drop_succ_cons,aqR,kY a h (λx f=>b x (by simp[f])),aqS,asj,List.drop_append];rw[List.drop_of_length_le (l:=r) (by omega),e,Nat.add_sub_cancel,aqZ]
def Wx{Rd:Nat->Nat->Value->Prop}{E E':Option Env}(M:VR Rd E (.sl G v N) j){l h:Nat}{m:Option Nat}(O:l<=h)(Q:h<=N.length)(I:∀x,m=some x->h<=x/\x<=N.length):
 ∃g f,j=.slice g N.length f/\N.length<=f/\VR Rd E' (uY G N v l h m) (.slice (if m.getD f=l then g else g.map (·.add (l*v))) (h - l) (m.getD f - l)):=by
 obtain⟨g,f,w,rfl,t,B,H,D,U,L,C⟩:=M.lS;refine⟨g,f,rfl,D,?_⟩;have S:h<=m.getD f/\m.getD f<=f:=by
  cases m with
  |none=>simp;omega
  |some x=>have:=I x rfl;simp;omega
 have y:((N.take h).drop l).flatten=(N.flatten.take (h*v)).drop (l*v):=by
  rw[kY _ _ (λr p=>t r (asy p)),kX _ _ t]
 have n:((N.take h).drop l).length=h - l:=by simp;omega
 have q:=(H.take (h*v)).drop (l*v);rw[<-y]at q;have:=VR.sl (E:=E') (Rd:=Rd) (tight:=uX G N.length h m) (a:=if m.getD f=l then g else g.map (·.add (l*v))) (cap:=m.getD f - l) (rows:=(N.take h).drop l) (sz:=v) ((w.take (h*v)).drop (l*v))
  (λr p=>t r (asy (atc p))) (λc i=>by
   rw[y]at i;exact B c (asy (atc i))) q.1 q.2 (by rw[n];omega) (by omega) (λs=>?_) (λA=>?_)
 ·rw[n]at this
  exact this
 ·rw[n]
  cases m with
  |none=>
   simp only[uX,aqe,as_]at s;have:=L s.1;simp only[Option.getD_none];omega
  |some x=>
   simp only[uX,as_]at s;simp only[Option.getD_some];omega
 ·have J:w≠[]:=by rintro rfl;simp at A
  obtain⟨b,o,rfl,i⟩:=C J;have R:l<h:=by
   rcases asQ l h with z|z
   ·exact z
   ·have:l=h:=by omega
    subst this;have F:(List.drop (l*v) (List.take (l*v) w))=[]:=arb (by rw[aq0];omega);exact absurd F A
  rw[aqc (by omega)];refine⟨b,o+l*v,by simp[aqW],λe u k=>?_⟩;rw[arD,aqT]at k;split at k
  ·have:=i _ u k
   rw[as9];exact this
  ·cases k
section
variable{P:Program}{st:St}{d:Nat}{ty:TypeId}{pos:String}{af:Array Edge}{gd:Option (Nat×Bool)}{K:St->Prop}
def mxA(st:St):Option Operand->Option (Option Nat)
 |none=>some none
 |some x=>(qz st 0 (some x)).map some
def SS.slice{z:List Value}{o c j:Option Operand}{h':Hp}{tt:Bool}{rows:List (List AV)}{l h:Nat}{m:Option Nat}(N:Ft P s=some (S,v,Y,z))
 (H:gV st.h (st.ev A)=some (h',.sl tt v rows)) (q:qz st 0 o=some l) (p:qz st rows.length c=some h) (n:mxA st j=some m) (J:j.isSome=true->c.isSome=true)
 (t:l<=h) (u:h<=rows.length) (x:∀A,m=some A->h<=A/\A<=rows.length) (F:d<st.n) (D:K ⟨st.n,(d,uY tt rows v l h m)::st.t,h'⟩):
 SS P ⟨some d,.slice s A o c j,ty,pos,af,gd⟩ st K:=by
 intro Z V e a w next Q b L
 obtain⟨i,zv,p2,p3,p4,X,rfl,_,_⟩:=cK N;obtain⟨r,U,O⟩:=nM b.sr (b.ev A) H;obtain⟨C,f,R,E,M⟩:=Wx (E':=some r) O (m:=m) t u x;have G:=b.cA U;refine dY ?_ (L _ D r _ _ (G.put F M));have B:h<=m.getD f/\m.getD f<=f:=by
  cases m with
  |none=>simp;omega
  |some A=>have:=x A rfl;simp;omega
 have:=eU (P:=P) p2 p3 C rows.length f l h none (m.getD f) (o.map a.eval) (c.map a.eval) (j.map a.eval) w
  (by
   cases o with
   |none=>simp[qz]at q;exact .inl ⟨rfl,q.symm⟩
   |some y=>obtain⟨k,g⟩:=vT b q;exact .inr ⟨k,by simp[g]⟩)
  (by
   cases c with
   |none=>simp[qz]at p;exact .inl ⟨rfl,p.symm⟩
   |some y=>obtain⟨k,g⟩:=vT b p;exact .inr ⟨k,by simp[g]⟩)
  (by
   cases j with
   |none=>simp[mxA]at n;subst n;exact .inl ⟨rfl,rfl⟩
   |some y=>
    simp only[mxA]at n;obtain⟨W,I,rfl⟩:=aqL.1 n;obtain⟨k,g⟩:=vT b I;refine .inr ⟨⟨k,by simp[g]⟩,?_⟩;have:=J rfl;cases c with
    |none=>cases this
    |some y=>simp)
  t u B.1 B.2 E
 simp only[execOp,aqs,R,this,aqt,aqu]
def SS.make{t E:TypeId}{x y:Operand}{M N:IntKind}{n:Nat}(ht:Ft P t=some (E,v,Y,h))(hx:st.ev x=.v (.int M n))(A:st.ev y=.v (.int N n))
 (a4:Y*n<=140737488355328) (H:n<=maxLen) (a6:h.all Value.oneCell'=true) (a3:h.all (λf=>(lj f).one)=true) (a0:0<v) (W:d<st.n)
 (R:K ⟨st.n,(d,.ow d)::cP d st.t,(d,some (.arr E v (List.replicate n (h.map lj)) true))::bh d st.h⟩):SS P ⟨some d,.makeSlice t x y,ty,pos,af,gd⟩ st K:=by
 intro w0 O e a w next Q l hn
 obtain⟨i,g,p2,p3,p4,o,rfl,rfl,rfl⟩:=cK ht;have s:=l.ev x;rw[hx]at s;have s:=s.bE;have z:=l.ev y;rw[A]at z;have z:=z.bE;have I:=run_make (P:=P) w t E i g p2 p3 p4 M N n n (by omega) (asR _) (by
  have b:((i.bytes*n:Nat):Int)<=281474976710656:=by omega
  rwa[ar9]at b) (by unfold maxLen at H;omega)
 simp only[aqo]at I;obtain⟨a1,S⟩:=l.sr.kill d;have a7:g.cells.toList.length=i.size:=by simpa using o
 have J:∀r∈List.replicate n (g.cells.toList.map lj),r.length=i.size:=λr hr=>by
  rw[au3 hr];simp[o]
 have F:(List.replicate n (g.cells.toList.map lj)).length=n:=by simp
 have C:=dX J;rw[F]at C;have aY:∀(n j:Nat) c,(List.replicate n (g.cells.toList.map lj)).flatten[j]? =some c->∃f,g.cells.toList[j % i.size]? =some f/\c=lj f:=by
  intro n
  induction n with
  |zero=>intro j c b;simp at b
  |succ n ih=>
   intro j c b;rw[arK,aqR]at b;by_cases p:j<i.size
   ·rw[aq2 (by simpa[o]using p),aqA]at b
    obtain⟨f,m,rfl⟩:=aqL.1 b;exact⟨f,by rw[asz p];exact m,rfl⟩
   ·rw[arx (by simp[o];omega)]at b
    have X:(g.cells.toList.map lj).length=i.size:=by simpa using o
    rw[X]at b;obtain⟨f,m,rfl⟩:=ih _ c b;refine⟨f,?_,rfl⟩;rw[<-m,aum (asT p)]
 have U:∀(j:Nat) u,(madeCells g.cells (n*i.size)).toList[j]? =some u->g.cells.toList[j % i.size]? =some u:=by
  intro j u b;simp only[madeCells,arT,aqA]at b;obtain⟨y,A,rfl⟩:=aqL.1 b;have a5:j<n*i.size:=by
   have:=(aqh.1 A).1;simpa using this
  have a2:y=j:=by
   have:=(aqh.1 A).2;simpa using this.symm
  subst a2;have Z:y % i.size<i.size:=asA _ a0;rw[o];have:y % i.size<g.cells.size:=by rw[o];exact Z
  simp[this]
 obtain⟨L,G⟩:=a1.H2 d E i.size n (rows:=List.replicate n (g.cells.toList.map lj)) (cur:=madeCells g.cells (n*i.size)) J (λc B=>by
  obtain⟨j,p,rfl⟩:=aqY B;obtain⟨f,m,V⟩:=aY n j _ (aqm p);rw[V];exact aqD.1 a3 f (aqw m))
  ⟨by rw[C];simp[aun,C],λj c u B q=>by
   obtain⟨f,m,rfl⟩:=aY n j c B;rw[aqT]at q;split at q
   ·have:=U j u q
    rw[m]at this;simp at this;subst this;exact CF f
   ·cases q⟩ (by rw[F];exact aqf _) H (by rw[aun]) (dQ d st.h) (by have:=l.n.2;omega) (w.alloc (.cells (madeCells g.cells (n*i.size)) E)) rfl (l.sr.ext.alloc _)
 rw[F]at L G;refine dY (v:=.slice (some ⟨w.heap.size,0,none⟩) n n) (w':=w.alloc (.cells (madeCells g.cells (n*i.size)) E)) ?_ (hn _ R _ _ _ ⟨by simpa[Act.put]using l.n,l.d,L,TR.put ?_ (by rw[l.n.1];exact W) ?_⟩)
 ·simp only[execOp,aqs,s,z,I,aqt,aqu]
 ·exact(((l.tr.kill d).mono S).mono G).env d (dE d st.t) (λ_ D=>Env.br D) (λ_ D=>Env.cW D)
 ·have:=VR.ow (Rd:=bF w0 O (e.cz d (some w.heap.size) (.slice (some ⟨w.heap.size,0,none⟩) n n) 0) ((d,some (.arr E i.size (List.replicate n (g.cells.toList.map lj)) true))::bh d st.h) (w.alloc (.cells (madeCells g.cells (n*i.size)) E))) (e:=e.cz d (some w.heap.size) (.slice (some ⟨w.heap.size,0,none⟩) n n) 0) (k:=d)
  rw[Env.dz]at this;exact this
end
def kZ(st:St)(p:AV)(n:Nat):Option (List AV):=
 match p with
 |.pt k o=>match aY st.h k with
  |some (.box t Rt)=>if t≠CC/\o+n<=Rt.length then some ((Rt.drop o).take n)else none
  |_=>none
 |.pe k i sz o=>match aY st.h k with
  |some (.arr _ Y5 rows _)=>match rows[i]? with
   |some r=>if o+n<=r.length/\Y5=sz then some ((r.drop o).take n)else none
   |none=>none
  |some (.nr _ Rt)=>match Rt[i]? with
   |some c=>if sz=1/\o=0/\n=1 then some [c]else none
   |none=>none
  |_=>none
 |.fp cs=>if n<=cs.length then some (cs.take n)else none
 |_=>none
def Wy{st:St}(h:kZ st B v=some y):BH st B v y:=by
 unfold kZ at h;split at h
 ·rename_i k o
  split at h
  ·rename_i t e b
   split at h
   ·rename_i a;simp only[aqg]at h;exact⟨t,e,b,a.1,a.2,h.symm⟩
   ·cases h
  ·cases h
 ·rename_i k i l o
  split at h
  ·rename_i t m j wr b
   split at h
   ·rename_i r g
    split at h
    ·rename_i a
     obtain⟨a,rfl⟩:=a;simp only[aqg]at h;exact .inl ⟨t,j,wr,r,b,g,a,h.symm⟩
    ·cases h
   ·cases h
  ·rename_i t e b
   split at h
   ·rename_i c f
    split at h
    ·rename_i a
     simp only[aqg]at h;exact .inr ⟨t,e,c,b,f,a.1,a.2.1,a.2.2,h.symm⟩
    ·cases h
   ·cases h
  ·cases h
 ·rename_i e
  split at h
  ·rename_i a;simp only[aqg]at h;exact⟨a,h.symm⟩
  ·cases h
 ·cases h
def Y6:Bool->List AV->Option AV
 |true,cs=>some (.ag cs)
 |false,[c]=>some c
 |false,_=>none
def vU(P:Program)(st:St)(p:AV)(t:TypeId):Option AV:=
 match O_ P t with
 |some (ag,n)=>match kZ st p n with
  |some cs=>Y6 ag cs
  |none=>none
 |none=>none
def Kr{P:Program}{st:St}{p c:AV}(h:vU P st p s=some c):∃a n b,O_ P s=some (a,n)/\BH st p n b/\((a=true/\c=.ag b)\/(a=false/\b=[c])):=by
 unfold vU at h;split at h
 ·rename_i a n f
  split at h
  ·rename_i b e
   refine⟨a,n,b,f,Wy e,?_⟩;unfold Y6 at h;split at h
   ·simp only[aqg]at h;exact .inl ⟨rfl,h.symm⟩
   ·simp only[aqg]at h;subst h;exact .inr ⟨rfl,rfl⟩
   ·cases h
  ·cases h
 ·cases h
section
variable{P:Program}{st:St}{d:Option Tmp}{ty:TypeId}{pos:String}{af:Array Edge}{gd:Option (Nat×Bool)}{K:St->Prop}
def RS.vU(h:vU P st (st.ev A) s=some B):RS P ⟨d,.load s A,ty,pos,af,gd⟩ st B:=by
 obtain⟨e,n,f,a,b,c⟩:=Kr h;exact RS.load a b c
def CP(P:Program)(st:St):List ResultVar->Option (List AV)
 |[]=>some []
 |.tmp i::rs=>match CP P st rs with
  |some cs=>some (bz st.t i::cs)
  |none=>none
 |.cell a t::rs=>match vU P st (bz st.t a) t,CP P st rs with
  |some c,some cs=>some (c::cs)
  |_,_=>none
def Ks:List AV->AV
 |[c]=>c
 |cs=>.tu cs
def k4(tmps:Array Value)(r:ResultVar):Sem Value:=
 match r with
 |.tmp t=>pure (tmps.getD t undef)
 |.cell a t=>do loadVar t (<-asAddr (tmps.getD a undef))
def u0(b:Func)(c:Array Value):results b c=(do
 let a<-b.results.mapM (k4 c)
 pure (if h:a.size=1 then a[0]else .tuple a)):=by
 unfold results;congr 1
def BJ{B:Bs}{y:Nat->Nat->Value->Prop}{e:Env}{a:Act}{w:World}(h:Ga B y e st a w):∀(j:List ResultVar) (k:List AV),CP P st j=some k->
 ∃g,(j.mapM (k4 a.tmps)).run P w=.ok g w/\LR (VR (bF B y e st.h w) (some e)) k g
 |[],k,f=>by
  simp only[CP,aqg]at f;subst f;exact⟨[],by simp,LR.nil⟩
 |.tmp i::j,k,f=>by
  simp only[CP]at f;split at f
  ·rename_i r v
   simp only[aqg]at f;subst f;obtain⟨g,m,l⟩:=BJ h j r v;refine⟨_::g,?_,LR.cons (h.tr i) l⟩;rw[atd];simp only[k4,aqs,aqu,aqt,m]
  ·cases f
 |.cell x t::j,k,f=>by
  simp only[CP]at f;split at f
  ·rename_i c r G v
   simp only[aqg]at f;subst f;obtain⟨g,m,l⟩:=BJ h j r v;obtain⟨I,n,J,C,D,E⟩:=Kr G;obtain⟨b,o,q,A,H,p,F⟩:=CG h D (h.tr x);have z:=oL (P:=P) C (b:=b) (o:=o) (us:=q) (w:=w) H F;rcases E with⟨s,rfl⟩|⟨s,rfl⟩
   ·refine⟨_::g,?_,LR.cons (.ag q p.1 p.2) l⟩
    rw[atd];simp only[k4,aqs,A,asAddr,aqu,aqt,z.1 s,m]
   ·obtain⟨u,rfl⟩:∃u,q=[u]:=by
     match q,p.1 with
     |[u],_=>exact⟨u,rfl⟩
    refine⟨_::g,?_,LR.cons (p.2 0 c u rfl rfl) l⟩;rw[atd];simp only[k4,aqs,A,asAddr,aqu,aqt,z.2 s u rfl,m]
  ·cases f
def an0(P:Program)(fn:Func)(H:Hp)(r:AV)(x:Exit)(st:St):Prop:=
 (x=.normal\/x=.ret)/\∃t2 cs,bX P st ⟨fn.ntmps,t2,H⟩/\CP P ⟨fn.ntmps,t2,H⟩ fn.results.toList=some cs/\Ks cs=r
def qP:Nat->List AV->List (Nat×AV)
 |_,[]=>[]
 |i,c::cs=>(i,c)::qP (i+1) cs
def vV:∀(a:List AV) (k i:Nat),bz (qP k a) i=if k<=i then a.getD (i - k) .un else .un
 |[],k,i=>by simp[qP,bz]
 |c::a,k,i=>by
  simp only[qP,bz];by_cases b:i=k
  ·subst b;simp
  ·rw[aqc b,vV a (k+1) i]
   by_cases e:k+1<=i
   ·have:k<=i:=by omega
    simp only[e,this,aqP];rw[show i - k=(i - (k+1))+1 by omega];rfl
   ·have:¬k<=i:=by omega
    simp[e,this]
def Pg:Obj->Bool
 |.deferred _=>true
 |.loop _=>true
 |_=>false
def OR.keep{Rd:Nat->Nat->Value->Prop}{ob:Ob}(h:OR Rd u g v ob)(j:∀(b:Nat) o,g.heap[b]? =some o->Pg o=false->J.heap[b]? =some o):OR Rd u J v ob:=by
 cases ob with
 |box t z=>
  obtain⟨a,b,C,e,f,c⟩:=h;refine⟨a,b,C,e,?_,c⟩;rcases f with⟨a,h⟩|⟨a,x,B,A,i,seen,e,h,f⟩
  ·exact .inl ⟨a,j _ _ h rfl⟩
  ·exact .inr ⟨a,x,B,A,i,seen,e,j _ _ h rfl,f⟩
 |arr t F E wr=>
  obtain⟨a,e,f,c⟩:=h;refine⟨a,e,f,?_⟩;rcases c with c|⟨b,s,i,k,l,m,n,p,q,r,w⟩
  ·exact .inl c
  ·exact .inr ⟨b,s,i,k,l,m,n,j _ _ p rfl,q,r,w⟩
 |mp d D=>
  obtain⟨a,b,arr,y,e,f,c⟩:=h;exact⟨a,b,arr,y,e,j _ _ f rfl,c⟩
 |nr t z=>
  obtain⟨a,c⟩:=h;refine⟨a,?_⟩;rcases c with c|⟨b,s,i,k,l,m,n,p,q,r⟩
  ·exact .inl c
  ·exact .inr ⟨b,s,i,k,l,m,n,j _ _ p rfl,q,r⟩
def Wz{p:Addr}(c:∀(b:Nat) o,g.heap[b]? =some o->Pg o=false->J.heap[b]? =some o)(h:g.cell? p=some j):J.cell? p=some j:=by
 unfold World.cell? at h⊢;cases a:g.heap[p.block]? with
 |none=>rw[a]at h;cases h
 |some o=>
  rw[a]at h;have:Pg o=false:=by cases o<;>first|rfl|(simp at h)
  rw[c _ _ a this];exact h
def Kt{i o:Obj}(h:g.heap[v]? =some i)(j:Pg i=true):∀(b:Nat) a,g.heap[b]? =some a->Pg a=false->(g.putObj v o).heap[b]? =some a:=λb a c f=>by
 have k:b≠v:=λe=>by rw[e,h]at c;cases c;rw[j]at f;cases f
 rw[auo k];exact c
def SR.putObj{a:Bs}{c:Nat->Nat->Value->Prop}{e:Env}{h:Hp}{w:World}(f:SR a c e h w){D:Nat}{n:Obj}(o:Obj)(s:w.heap[D]? =some n)(t:Pg n=true)(v:a.gU D):
 SR a c e h (w.putObj D o)/\∀b g u,bF a c e h w b g u->bF a c e h (w.putObj D o) b g u:=by
 have m:=Kt (o:=o) s t;have l:∀b g u,bF a c e h w b g u->bF a c e h (w.putObj D o) b g u:=λb g u ⟨p,q,r⟩=>⟨Wz m p,q,r⟩;refine⟨⟨f.ext.step rfl rfl rfl (by simp) λb i _=>auo λe=>i (e▸v),f.jG,λk ob j=>((f.ob k ob j).mono l).keep m,λk ob b j i=>?_,f.inj,f.tV⟩,l⟩;have:=f.base k ob b j i;exact⟨this.1,by simpa using this.2⟩
def Ga.putObj{c:Bs}{f:Nat->Nat->Value->Prop}{e:Env}{st:St}{a:Act}{w:World}(b:Ga c f e st a w){D:Nat}{j:Obj}(o:Obj)(g:w.heap[D]? =some j)(h:Pg j=true)(i:c.gU D):Ga c f e st a (w.putObj D o):=
 ⟨b.n,b.d,(b.sr.putObj o g h i).1,b.tr.mono (b.sr.putObj o g h i).2⟩
def vW{h:Func}{k:Array Value}{R:Ending->World->Prop}(I:World->Prop)(i:∀w,I w->∃v,(results h k).run P w=.ok v w/\R (.returned v) w):∀(l:List Nat) (w:World),l.Nodup->(∀D∈l,w.heap[D]? =some (.deferred (some [])))->I w->
 (∀w D,D∈l->I w->w.heap[D]? =some (.deferred (some []))->I (w.putObj D (.deferred none)))->LeavesInM Fence.wide 0 P h k R (l.map mark) .returning w
 |[],w,_,_,f,_=>i w f
 |D::l,w,g,c,f,j=>by
  refine⟨(by intro e;cases e),.inl ⟨D,w.putObj D (.deferred none),rfl,run_takeDeferred (c D (by simp)),?_⟩⟩;rw[ars]at g;refine vW I i l _ g.2 (λa b=>?_) (j w D (by simp) f (c D (by simp))) λw a b=>j w a (by simp[b]);have m:a≠D:=λe=>g.1 (by rw[<-e];exact b);rw[auo m];exact c a (by simp[b])
def Bn.intro{f:FuncId}{a:Func}{c:Code}{G:Hp}{m:List AV}{H:Hp}{r:AV}(hf:P.funcs[f]? =some a)(ah:(a.name== "runtime.NumGoroutine")=false)(hb:a.body=some c)(ap:m.length<=a.ntmps)(a6:a.ntmps<=1000000)
 (h:AC true P c ⟨a.ntmps,qP 0 m,G⟩ (an0 P a H r)):Bn P f G m H r:=by
 refine⟨⟨a,hf,ah,by rw[hb];rfl⟩,λB Rd e w F q am=>auj.1 (callsIn_of_wp_marks (n:=0) hf hb trivial ?_)⟩;obtain⟨j,J⟩:∃j:Bs,j=⟨B.w,B.own,B.bJ,B.sv,[]⟩:=⟨_,rfl⟩;have al:SR j Rd e G w:=by
  subst J;exact⟨⟨q.ext.os,q.ext.tape,q.ext.output,q.ext.size,q.ext.block,q.ext.drawn⟩,q.jG,q.ob,q.base,q.inj,q.tV⟩
 have a4:∀e h w,SR j Rd e h w->SR B Rd e h w:=by
  subst J;exactλe h w p=>⟨⟨p.ext.os,p.ext.tape,p.ext.output,p.ext.size,p.ext.block,p.ext.drawn⟩,p.jG,p.ob,p.base,p.inj,p.tV⟩
 have a5:∀e h w b o u,bF j Rd e h w b o u->bF B Rd e h w b o u:=by subst J;exactλ_ _ _ _ _ _ h=>h
 have W:LR (VR (bF j Rd e G w) (some e)) m F:=by subst J;exact am
 have N:j.df=[]:=by subst J;rfl
 have aa:Ga j Rd e ⟨a.ntmps,qP 0 m,G⟩ {tmps:=F.toArray++Array.replicate (a.ntmps - F.toArray.size) undef,defers:=[]} w:=by
  refine⟨⟨by simp[W.1];omega,a6⟩,by rw[N],al,λi=>?_⟩;rw[vV];simp only[aqI,aqP,ate];by_cases V:i<m.length
  ·have hc:m[i]? =some m[i]:=aqm V
   obtain⟨u,hu,hr⟩:=W.get hc;have O:m.getD i .un=m[i]:=by simp[List.getD,hc]
   have y:(F.toArray++Array.replicate (a.ntmps - F.toArray.size) undef).getD i undef=u:=by
    have a0:i<F.length:=by rw[W.1];exact V
    simp[ary,atf,a0];rw[aqm a0]at hu;simpa using hu
   rw[O,y];exact hr
  ·have O:m.getD i .un=.un:=by simp[List.getD,aq1 (asT V)]
   rw[O];exact .un
 refine h none j Rd _ _ w _ (λ_=>rfl) aa λx aq X w1 a1 S I t z a8 _=>?_;obtain⟨X,Y,A,ac,ai,rfl⟩:=X;obtain⟨y,L⟩:=ac w1 a1 I t z a8;obtain⟨ae,ad⟩:=S.df ⟨[],by rw[N];rfl,List.nodup_nil,by simp⟩;obtain⟨l,hl,ag,ab⟩:=ae;have a9:∀M:Act,M.tmps=t.tmps->M.defers=[]->Ga j Rd y ⟨a.ntmps,Y,H⟩ M z:=λM s Q=>⟨by rw[s];exact L.n,by rw[Q,N],S.sr _ _ _ L.sr,by rw[s];exact L.tr.mono λb o u U=>S.rd _ _ _ b o u U⟩;have aj:∀k,Ga j Rd y ⟨a.ntmps,Y,H⟩ {tmps:=t.tmps,defers:=[]} k->∃v,(results a t.tmps).run P k=.ok v k/\VR (bF j Rd y H k) (some y) (Ks A) v:=by
  intro k C;obtain⟨E,ak,g⟩:=BJ (P:=P) C _ _ ai;have hm:(a.results.mapM (k4 t.tmps)).run P k=.ok E.toArray k:=by
   rw[aup];simp only[atg,ak];rfl
  rw[u0];simp only[aqs,hm,aqt,aqu];refine⟨_,rfl,?_⟩
  match A,E,g with
  |[],[],g=>exact .tu [] rfl (by simp)
  |[c],[u],g=>simpa[Ks]using g.2 0 c u rfl rfl
  |c::Z::A,u::u2::E,g=>
   have:¬(u::u2::E).toArray.size=1:=by simp
   rw[dif_neg this];exact .tu _ g.1 g.2
  |[],u::E,g=>have:=g.1;simp at this
  |[c],[],g=>have:=g.1;simp at this
  |[c],u::u2::E,g=>have:=g.1;simp at this
  |c::Z::A,[],g=>have:=g.1;simp at this
  |c::Z::A,[u],g=>have:=g.1;simp at this
 have a7:LeavesInM Fence.wide 0 P a t.tmps (λx z=>∃v I,x=.returned v/\SR B Rd I H z/\VR (bF B Rd I H z) (some I) (Ks A) v) t.defers .returning z:=by
  rw[L.d,hl];refine vW (λk=>Ga j Rd y ⟨a.ntmps,Y,H⟩ {tmps:=t.tmps,defers:=[]} k) (λk C=>?_) l z ag (λD R=>?_) (a9 _ rfl rfl) λk D R C a3=>?_
  ·obtain⟨v,an,ao⟩:=aj k C
   exact⟨v,an,v,y,rfl,a4 _ _ _ C.sr,ao.mono λb o u U=>a5 _ _ _ b o u U⟩
  ·obtain⟨s,Q⟩:=ab D R
   rw[L.sr.ext.block D s,Q]
  ·refine C.putObj _ a3 rfl (.inl ?_)
   rcases ad D (by rw[hl];exact aqq.2 ⟨D,R,rfl⟩)with s|s
   ·rw[N]at s;cases s
   ·exact s
 rcases X with rfl|rfl<;>exact a7
def bX.y6{t m:List (Nat×AV)}{h h2:Hp}(B:∀i,bz m i=bz t i\/bz m i=.un)(z:∀k,aY h2 k=aY h k\/aY h2 k=none):bX P ⟨v,t,h⟩ ⟨v,m,h2⟩:=by
 intro s n e a w g;have j:∀k ob,aY h2 k=some ob->aY h k=some ob:=λk ob c=>by
  rcases z k with f|f
  ·rw[<-f];exact c
  ·rw[f]at c;cases c
 have p:∀b o u,bF s n e h w b o u->bF s n e h2 w b o u:=λb o u ⟨f,h2,x⟩=>⟨f,h2,λk ob c l=>x k ob (j k ob c) l⟩;refine⟨e,g.n,g.d,⟨g.sr.ext,g.sr.jG,λk ob c=>(g.sr.ob k ob (j k ob c)).mono p,λk ob b c l=>g.sr.base k ob b (j k ob c) l,λk q ob r b c A l y=>g.sr.inj k q ob r b (j k ob c) (j q r A) l y,g.sr.tV⟩,λi=>?_⟩;show VR _ _ (bz m i) _;rcases B i with f|f
 ·rw[f];exact(g.tr i).mono p
 ·rw[f];exact .un
def tX(t:List (Nat×AV)):List Nat->List (Nat×AV)
 |[]=>[]
 |i::is=>(i,bz t i)::tX t is
def RA(h:Hp):List Nat->Hp
 |[]=>[]
 |k::ks=>(k,aY h k)::RA h ks
def bX.O9(i:Nat){c:AV}(k:jm st.h (bz st.t i)=some (L,c)):bX P st ⟨st.n,(i,c)::st.t,L⟩:=by
 intro o n e a w f;obtain⟨g,l,m⟩:=qN f.sr (f.tr i) k;have b:=f.cA l;refine⟨g,b.n,b.d,b.sr,λj=>?_⟩;simp only[bz];split
 ·rename_i h;subst h;exact m.cJ
 ·exact b.tr j
def bX.same{n:Nat}{t b:List (Nat×AV)}{h a:Hp}(e:∀i,bz b i=bz t i)(c:∀k,aY a k=aY h k):bX P ⟨n,t,h⟩ ⟨n,b,a⟩:=.y6 (λi=>.inl (e i)) (λk=>.inl (c k))
end
def swp(a b k:Nat):Nat:=if k=a then b else if k=b then a else k
def oO(a b k:Nat):swp a b (swp a b k)=k:=by
 unfold swp;by_cases e:k=a
 ·subst e
  by_cases c:b=k<;>simp[c]
 ·by_cases c:k=b
  ·subst c;simp[e]
  ·simp[e,c]
def RC(a b:Nat):∀i j,swp a b i=swp a b j->i=j:=λi j h=>by
 have:=aqr (swp a b) h;rwa[oO,oO]at this
section
variable{P:Program}{st:St}
def bX.swap(x y:Nat)(H:x<4294967296)(I:y<4294967296):bX P st ⟨st.n,Kh (swp x y) st.t,jU (swp x y) st.h⟩:=by
 intro v q e a w l;let g:Env:=⟨λk=>e.bJ (swp x y k),λk=>e.sv (swp x y k),λk=>e.cA (swp x y k)⟩;have s:∀j,g.bJ (swp x y j)=e.bJ j:=λj=>by simp[g,oO]
 have t:∀j,g.sv (swp x y j)=e.sv j:=λj=>by simp[g,oO]
 have E:∀j,g.cA (swp x y j)=e.cA j:=λj=>by simp[g,oO]
 have C:∀k,aY (jU (swp x y) st.h) k=(aY st.h (swp x y k)).map (Ob.hV (swp x y)):=λk=>by
  have:=Kj (swp x y) (RC x y) st.h (swp x y k);rwa[oO]at this
 have m:∀k ob,aY (jU (swp x y) st.h) k=some ob->∃f,aY st.h (swp x y k)=some f/\ob=f.hV (swp x y):=λk ob c=>by
  rw[C]at c;obtain⟨f,h,n⟩:=aqL.1 c;exact⟨f,h,n.symm⟩
 have r:∀b o u,bF v q e st.h w b o u->bF v q g (jU (swp x y) st.h) w b o u:=λb o u ⟨n,z,A⟩=>⟨n,z,λk ob c p=>by
  obtain⟨f,h,_⟩:=m k ob c;exact A _ f h p⟩
 refine⟨g,l.n,l.d,⟨l.sr.ext,l.sr.jG,λk ob c=>?_,λk ob b c p=>?_,λk F ob G b c D p B=>?_,λk c=>?_⟩,λi=>?_⟩
 ·obtain⟨f,h,rfl⟩:=m k ob c
  have:=((l.sr.ob _ f h).mono r).hV (e':=g) (swp x y) s t E;rwa[oO]at this
 ·obtain⟨f,h,rfl⟩:=m k ob c
  exact l.sr.base _ f b h p
 ·obtain⟨f,h,rfl⟩:=m k ob c
  obtain⟨J,n,rfl⟩:=m F G D;exact RC x y _ _ (l.sr.inj _ _ _ _ _ h n p B)
 ·have:swp x y k=k:=by unfold swp;rw[aqc (by omega),aqc (by omega)]
  simp only[g,this];exact l.sr.tV k c
 ·show VR _ _ (bz (Kh (swp x y) st.t) i) _
  rw[Ki];exact((l.tr i).mono r).hV rfl (swp x y) s t
def bX.own(i k:Nat)(q:k<4294967296)(t:TypeId)(g:Nat)(c:bz st.t i=.sl true v [])(eK:i<st.n):bX P st ⟨st.n,(i,.ow k)::cP k st.t,(k,some (.arr t g [] true))::bh k st.h⟩:=by
 intro x m e a w b;have l:=b.tr i;rw[c]at l;obtain⟨f,y,z,h,_,_,_,_,_,u,_⟩:=l.lS;have:=u rfl;simp only[aq5]at this h;subst this;obtain⟨r,n⟩:=b.sr.kill k;obtain⟨s,o⟩:=r.CE k t g f (dQ k st.h) q;refine⟨_,b.n,b.d,s,λj=>?_⟩;simp only[bz];split
 ·rename_i p
  subst p;rw[h];have:=VR.ow (Rd:=bF x m (e.cz k none (.slice f 0 0) 0) ((k,some (.arr t g [] true))::bh k st.h) w) (e:=e.cz k none (.slice f 0 0) 0) (k:=k);rw[Env.dz]at this;exact this
 ·exact((((b.tr.kill k).mono n).mono o).env k (dE k st.t) (λ_ c=>Env.br c) (λ_ c=>Env.cW c)) j
end
section
variable{P:Program}{st:St}{d:Option Tmp}{ty t t2:TypeId}{pos:String}{af:Array Edge}{gd:Option (Nat×Bool)}{x y:Operand}{k:IntKind}{a b:Int}
def RS.ahg{c:AV}(h:st.ev x=c):RS P ⟨d,.move x,ty,pos,af,gd⟩ st c:=h▸RS.move x
def RS.akD(c:st.ev A=.v (.bool true))(h:st.ev x=B):RS P ⟨d,.pick A x y,ty,pos,af,gd⟩ st B:=by
 have:=RS.pick (P:=P) (st:=st) (d:=d) (ty:=ty) (pos:=pos) (af:=af) (gd:=gd) A x y true c;simpa[h]using this
def RS.akE(c:st.ev A=.v (.bool false))(h:st.ev y=B):RS P ⟨d,.pick A x y,ty,pos,af,gd⟩ st B:=by
 have:=RS.pick (P:=P) (st:=st) (d:=d) (ty:=ty) (pos:=pos) (af:=af) (gd:=gd) A x y false c;simpa[h]using this
def RD(a b:Int):(a==b)=decide (a=b):=by
 by_cases h:a=b<;>simp[h]
def RE(a b:Int):(a !=b)=decide (¬a=b):=by
 by_cases h:a=b<;>simp[h]
def eu(c:BinOp)(t:TypeId)(x y:Operand)(k e:IntKind)(a b:Int)(w:World):(eqGuard c t x y (.int k a) (.int e b)).run P w=.ok () w:=by
 cases c<;>simp[eqGuard]
def RS.bin{c:BinOp}{u v z:Value}(l:st.ev x=.v u)(m:st.ev y=.v v)(i:∀w,(eqGuard c t x y u v).run P w=.ok () w)(j:∀w,(binOp c t u v).run P w=.ok z w):RS P ⟨d,.binOp c t x y t2,ty,pos,af,gd⟩ st (.v z):=λp n e a w h=>by
 have f:=h.ev x;have g:=h.ev y;rw[l]at f;rw[m]at g;refine⟨z,.v,λo _=>?_⟩;simp only[execOp,f.bE,g.bE,aqs,i,j,aqt,aqu]
def RS.lss(c:st.ev x=.v (.int k a))(e:st.ev y=.v (.int k b)):RS P ⟨d,.binOp .lss t x y t2,ty,pos,af,gd⟩ st (.v (.bool (decide (a<b)))):=
 RS.bin c e (eu _ _ _ _ _ _ _ _) λw=>by simp[binOp_lss]
def RS.leq(c:st.ev x=.v (.int k a))(e:st.ev y=.v (.int k b)):RS P ⟨d,.binOp .leq t x y t2,ty,pos,af,gd⟩ st (.v (.bool (decide (a<=b)))):=
 RS.bin c e (eu _ _ _ _ _ _ _ _) λw=>by simp[binOp_leq]
def RS.gtr(c:st.ev x=.v (.int k a))(e:st.ev y=.v (.int k b)):RS P ⟨d,.binOp .gtr t x y t2,ty,pos,af,gd⟩ st (.v (.bool (decide (b<a)))):=
 RS.bin c e (eu _ _ _ _ _ _ _ _) λw=>by simp[binOp_gtr]
def RS.geq(c:st.ev x=.v (.int k a))(e:st.ev y=.v (.int k b)):RS P ⟨d,.binOp .geq t x y t2,ty,pos,af,gd⟩ st (.v (.bool (decide (b<=a)))):=
 RS.bin c e (eu _ _ _ _ _ _ _ _) λw=>by simp[binOp_geq]
def RS.eql(c:st.ev x=.v (.int k a))(e:st.ev y=.v (.int k b)):RS P ⟨d,.binOp .eql t x y t2,ty,pos,af,gd⟩ st (.v (.bool (decide (a=b)))):=
 RS.bin c e (eu _ _ _ _ _ _ _ _) λw=>by simp only[binOp_eql,aqu,RD]
def RS.neq(c:st.ev x=.v (.int k a))(e:st.ev y=.v (.int k b)):RS P ⟨d,.binOp .neq t x y t2,ty,pos,af,gd⟩ st (.v (.bool (decide (¬a=b)))):=
 RS.bin c e (eu _ _ _ _ _ _ _ _) λw=>by simp only[binOp_neq,aqu,RE]
def RS.add(c:st.ev x=.v (.int k a))(e:st.ev y=.v (.int k b)):RS P ⟨d,.binOp .add t x y t2,ty,pos,af,gd⟩ st (.v (.int k (k.wrap (a+b)))):=
 RS.bin c e (eu _ _ _ _ _ _ _ _) λw=>by simp[binOp_add,Op.intArith]
def RS.sub(c:st.ev x=.v (.int k a))(e:st.ev y=.v (.int k b)):RS P ⟨d,.binOp .sub t x y t2,ty,pos,af,gd⟩ st (.v (.int k (k.wrap (a - b)))):=
 RS.bin c e (eu _ _ _ _ _ _ _ _) λw=>by simp[binOp_sub,Op.intArith]
def RS.mul(c:st.ev x=.v (.int k a))(e:st.ev y=.v (.int k b)):RS P ⟨d,.binOp .mul t x y t2,ty,pos,af,gd⟩ st (.v (.int k (k.wrap (a*b)))):=
 RS.bin c e (eu _ _ _ _ _ _ _ _) λw=>by simp[binOp_mul,Op.intArith]
def RS.rem(e:st.ev x=.v (.int k a))(f:st.ev y=.v (.int k b))(c:¬b=0):RS P ⟨d,.binOp .rem t x y t2,ty,pos,af,gd⟩ st (.v (.int k (a.tmod b))):=
 RS.bin e f (eu _ _ _ _ _ _ _ _) λw=>by simp[binOp_rem,Op.intDiv,c]
def RS.quo(e:st.ev x=.v (.int k a))(f:st.ev y=.v (.int k b))(c:¬b=0):RS P ⟨d,.binOp .quo t x y t2,ty,pos,af,gd⟩ st (.v (.int k (k.wrap (a.tdiv b)))):=
 RS.bin e f (eu _ _ _ _ _ _ _ _) λw=>by simp[binOp_quo,Op.intDiv,c]
def RS.not{b:Bool}(g:st.ev x=.v (.bool b)):RS P ⟨d,.unOp .not t x,ty,pos,af,gd⟩ st (.v (.bool (!b))):=λl i e a w h=>by
 have c:=h.ev x;rw[g]at c;refine⟨_,.v,λj _=>?_⟩;have f:=c.bE;simp only[execOp,f,unary_not,aqs,aqu,aqt]
def RS.an1{b c:Bool}(e:P.underlying t=some .bool)(f:st.ev x=.v (.bool b))(g:st.ev y=.v (.bool c)):RS P ⟨d,.binOp .eql t x y t2,ty,pos,af,gd⟩ st (.v (.bool (b==c))):=
 RS.bin f g (λw=>by simp[eqGuard]) λw=>run_eql_bool w t b c e
def RS.min2{p:Array TypeId}{m n:Int}(l:st.ev x=.v (.int k m))(o:st.ev y=.v (.int k n)):RS P ⟨d,.call ⟨.builtin .min, #[x,y],p⟩,ty,pos,af,gd⟩ st (.v (.int k (if n<m then n else m))):=λs q e a w h=>by
 have c:=h.ev x;have f:=h.ev y;rw[l]at c;rw[o]at f;refine⟨_,.v,λr _=>?_⟩;have g:=c.bE;have i:=f.bE;have j:(#[x,y]:Array Operand).map a.eval= #[.int k m,.int k n]:=by simp only[asC,aqz,aro,g,i]
 simp only[execOp,resolve,j,aqs,aqu,aqt,invoke,builtin,Builtin.min_,asU,asV,Builtin.min2]
end
structure En where
 d:Option Nat
 c:AV
 os:Hp
 us:List Nat
 fr:Nat->Bool
 al:Nat->Ob->Prop
def eK(k:Nat)(h:Hp):Bool:=h.any λp=>p.1==k
def CQ(a:eK d L=false)(h':Hp):aY (L++h') d=aY h' d:=by
 rw[dZ,aqc (by unfold eK at a;rw[a];simp)]
def F3(a:eK d L=true)(h':Hp):aY (L++h') d=aY L d:=by
 rw[dZ,aqd (by unfold eK at a;rw[a])]
def Ob.fX(p:Nat->Bool):Ob->Bool
 |.box _ cs=>AV.lT p cs
 |.arr .. =>true
 |.mp .. =>true
 |.nr _ cs=>AV.lT p cs
def qA(p:Nat->Bool)(h:Hp):Bool:=h.all λq=> !p q.1 && (match q.2 with|some ob=>ob.fX p|none=>true)
def RF(p:Nat->Bool)(h:Hp):Bool:=h.all λq=>(match q.2 with|some ob=>ob.fX p|none=>true)
def Bo(p:Nat->Bool)(t:List (Nat×AV)):Bool:=t.all λq=>q.2.fX p
def CR{p:Nat->Bool}:∀{t:List (Nat×AV)},Bo p t=true->∀i,(bz t i).fX p=true
 |[],_,i=>rfl
 |(j,c)::t,h,i=>by
  simp only[Bo,arn,aqe]at h;simp only[bz];split
  ·exact h.1
  ·exact CR (by simpa[Bo]using h.2) i
def Ku{p:Nat->Bool}:∀{h:Hp},RF p h=true->∀k ob,aY h k=some ob->ob.fX p=true
 |[],_,k,ob,h=>by simp[aY]at h
 |(j,o)::t,h,k,ob,a=>by
  simp only[RF,arn,aqe]at h;by_cases b:k=j
  ·subst b
   rw[bc]at a;subst a;exact h.1
  ·rw[a_ b]at a
   exact Ku (by simpa[RF]using h.2) k ob a
def jq:Option Nat->AV->List (Nat×AV)->List (Nat×AV)
 |some d,c,t=>(d,c)::t
 |none,_,t=>t
def Bp(t:List (Nat×AV)):List En->List (Nat×AV)
 |[]=>t
 |u::pl=>Bp (jq u.d u.c t) pl
def y7(h:Hp):List En->Hp
 |[]=>h
 |u::pl=>y7 (u.os++h) pl
def aeW(acc:List Nat)(o:Oper):Nat:=o.after.toList.foldl (λm e=>if Region.binds .any e then m|||(2^e.on)|||acc.getD e.on 0 else m) 0
def Y7:List Nat->List Oper->List Nat
 |acc,[]=>acc
 |acc,o::l=>Y7 (acc++[aeW acc o]) l
def dT(l:List Oper)(j i:Nat):Bool:=((Y7 [] l).getD j 0).testBit i
def oP(l:List Oper)(S:Nat->Bool):Prop:=∀(j:Nat) o,l[j]? =some o->S j=true->∀e∈o.after,Region.binds .any e=true->S e.on=true
def Y8(h:(aeW W F).testBit d=true):∃e∈F.after,Region.binds .any e=true/\(e.on=d\/(W.getD e.on 0).testBit d=true):=by
 have j:∀(c:List Edge) (m:Nat),(c.foldl (λm e=>if Region.binds .any e then m|||(2^e.on)|||W.getD e.on 0 else m) m).testBit d=true->m.testBit d=true\/∃e∈c,Region.binds .any e=true/\(e.on=d\/(W.getD e.on 0).testBit d=true):=by
  intro c
  induction c with
  |nil=>intro m h;exact .inl h
  |cons e c i=>
   intro m h;rw[List.foldl_cons]at h;rcases i _ h with a|⟨g,f,b⟩
   ·split at a
    ·rename_i b
     simp only[Nat.testBit_or,ara]at a;rcases a with(a|a)|a
     ·exact .inl a
     ·rw[Nat.testBit_two_pow]at a
      exact .inr ⟨e,by simp,b,.inl (by simpa using a)⟩
     ·exact .inr ⟨e,by simp,b,.inr a⟩
    ·exact .inl a
   ·exact .inr ⟨g,by simp[f],b⟩
 rcases j _ _ h with a|⟨e,f,b⟩
 ·simp at a
 ·exact⟨e,by simpa using f,b⟩
def eV{S:Nat->Bool}(m:oP Z S):∀(j i:Nat),dT Z j i=true->S j=true->S i=true:=by
 have u:∀(l2 c:List Oper) (a:List Nat),Z=c++l2->a.length=c.length->(∀j i,(a.getD j 0).testBit i=true->S j=true->S i=true)->∀j i,((Y7 a l2).getD j 0).testBit i=true->S j=true->S i=true:=by
  intro l2
  induction l2 with
  |nil=>intro c a _ _ h;exact h
  |cons o l2 t=>
   intro c a k l h;refine t (c++[o]) _ (by simp[k]) (by simp[l]) λj i b g=>?_;by_cases r:j<a.length
   ·simp only[List.getD,aq2 r]at b
    exact h j i b g
   ·by_cases q:j=a.length
    ·subst q
     simp[List.getD]at b;obtain⟨e,p,n,d⟩:=Y8 b;have s:Z[a.length]? =some o:=by rw[k,l];simp
     have f:=m _ o s g e p n;rcases d with rfl|d
     ·exact f
     ·exact h _ i d f
    ·have:(a++[aeW a o]).getD j 0=0:=by
      simp[List.getD,aq1 (show(a++[aeW a o]).length<=j by simp;omega)]
     rw[this]at b;simp at b
 exactλj i=>u Z [] [] rfl rfl (λj i h=>by simp at h) j i
def Y9(l:List Oper)(j x:Nat):Bool:=(List.range l.length).all λi=>match l[i]? with
 |some o=>o.dst !=some x||Nat.beq i j||dT l i j
 |none=>true
structure Kn(l:List Oper)(mw:St)(done:List En)(o:Oper)(u:En)(st:St):Prop where
 n:st.n=mw.n
 t0:∀x,(l.all λo=>o.dst !=some x)=true->bz st.t x=bz mw.t x
 t1:∀x,Y9 l done.length x=true->bz st.t x=bz mw.t x
 ts:∀e∈o.after,Region.binds .any e=true->∀v d,done[e.on]? =some v->v.d=some d->bz st.t d=v.c
 h:∀k,u.us.contains k=true->aY st.h k=aY (y7 mw.h done) k\/∃ob,aY st.h k=some ob/\u.al k ob
 ft:∀x,(bz st.t x).fX u.fr=true
 fh:∀k ob,aY st.h k=some ob->ob.fX u.fr=true
 fk:∀k,u.fr k=true->aY st.h k=none
def DS(P:Program)(l:List Oper)(mw:St)(done:List En)(o:Oper)(u:En):Prop:=
 ∀st,Kn l mw done o u st->GS P l.toArray o st (λs=>s=⟨st.n,jq u.d u.c st.t,u.os++st.h⟩)
def ah7(v u:En):Prop:=
 v.os.all (λp=> !eK p.1 u.os && !u.us.contains p.1)=true/\∀k,eK k u.os=true->v.us.contains k=true->∃ob,aY u.os k=some ob/\v.al k ob
def RG(l:List Oper)(i j:Nat)(v u:En):Prop:=ah7 v u\/dT l j i=true
def aeX(l:List Oper)(i j:Nat)(v u:En):Prop:=
 (v.c.fX u.fr=true/\qA u.fr v.os=true)/\((u.c.fX v.fr=true/\qA v.fr u.os=true)\/dT l j i=true)
def aeY(l:List Oper)(u:En)(j:Nat):Nat->List En->Prop
 |_,[]=>True
 |i,v::done=>RG l i j v u/\aeX l i j v u/\aeY l u j (i+1) done
def Kv{l:List Oper}{u:En}{j:Nat}:∀{a:Nat} {done:List En},aeY l u j a done->∀(i:Nat) v,done[i]? =some v->RG l (a+i) j v u/\aeX l (a+i) j v u
 |a,[],_,i,v,h=>by simp at h
 |a,x::done,b,i,v,h=>by
  cases i with
  |zero=>simp at h;subst h;exact⟨b.1,b.2.1⟩
  |succ i=>
   have:=Kv b.2.2 i v (by simpa using h);rw[show a+(i+1)=a+1+i by omega];exact this
def CS:List Oper->Bool
 |[]=>true
 |o::l=>(match o.dst with|some d=>l.all λp=>p.dst !=some d|none=>true) && CS l
def gD:∀{l:List Oper},CS l=true->∀(i j:Nat) o p d,l[i]? =some o->l[j]? =some p->o.dst=some d->p.dst=some d->i=j
 |[],_,i,j,o,p,d,h,_,_,_=>by simp at h
 |x::l,c,i,j,o,p,d,a,b,e,f=>by
  simp only[CS,aqe]at c;have m:∀(k:Nat) y,l[k]? =some y->x.dst=some d->y.dst≠some d:=λk y n q r=>by
   have g:=c.1;simp only[q]at g;have:=aqD.1 g y (aqw n);simp[r]at this
  cases i with
  |zero=>
   simp at a;subst a;cases j with
   |zero=>rfl
   |succ j=>exact absurd f (m j p (by simpa using b) e)
  |succ i=>
   cases j with
   |zero=>simp at b;subst b;exact absurd e (m i o (by simpa using a) f)
   |succ j=>rw[gD c.2 i j o p d (by simpa using a) (by simpa using b) e f]
structure CU(P:Program)(l:List Oper)(mw:St)(pl:List En):Prop where
 len:pl.length=l.length
 step:∀(j:Nat) o u,l[j]? =some o->pl[j]? =some u->o.dst=u.d/\DS P l mw (pl.take j) o u
 fit:∀(i j:Nat) v u,i<j->pl[i]? =some v->pl[j]? =some u->RG l i j v u/\aeX l i j v u
 WB:∀(j:Nat) u,pl[j]? =some u->Bo u.fr mw.t=true/\qA u.fr mw.h=true
 inj:CS l=true
 back:∀(j:Nat) o,l[j]? =some o->∀e∈o.after,Region.binds .any e=true->e.on<j
structure Inv(mw:St)(pl:List En)(S:Nat->Bool)(st:St):Prop where
 n:st.n=mw.n
 t0:∀x,(∀i u,pl[i]? =some u->S i=true->u.d≠some x)->bz st.t x=bz mw.t x
 ts:∀(i:Nat) u d,pl[i]? =some u->S i=true->u.d=some d->bz st.t d=u.c
 h0:∀k,(∀(i:Nat) u,pl[i]? =some u->S i=true->eK k u.os=false)->aY st.h k=aY mw.h k
 hs:∀k (i:Nat) u,pl[i]? =some u->S i=true->eK k u.os=true->(∀(i':Nat) u',i<i'->pl[i']? =some u'->S i'=true->eK k u'.os=false)->aY st.h k=aY u.os k
def oQ{p:Nat->Bool}:∀{h:Hp} {k:Nat},qA p h=true->p k=true->eK k h=false
 |[],k,_,_=>rfl
 |(j,o)::h,k,a,b=>by
  simp only[qA,arn,aqe]at a;simp only[eK,ar5,ash];refine⟨?_,oQ (h:=h) (by simpa[qA]using a.2) b⟩;have:p j=false:=by simpa using a.1.1
  simp;rintro rfl;rw[b]at this;cases this
def CW{p:Nat->Bool}(a:qA p L=true){ob:Ob}(b:aY L d=some ob):ob.fX p=true:=by
 refine Ku (p:=p) (h:=L) ?_ d ob b;simp only[qA,aqD,aqe]at a;simp only[RF,aqD];exactλq c=>(a q c).2
def nh:∀{h:Hp} {k:Nat},eK k h=false->aY h k=none
 |[],_,_=>rfl
 |(j,o)::h,k,a=>by
  simp only[eK,ar5,ash]at a;have:¬k=j:=λb=>by have:=a.1;simp[b]at this
  simp only[aY,this,aq_];exact nh a.2
def H4(p:Nat->Prop):∀N,(∃i,i<N/\p i)->∃i,i<N/\p i/\∀a,i<a->a<N->¬p a
 |0,⟨i,h,_⟩=>by omega
 |N+1,⟨i,h,e⟩=>by
  by_cases b:p N
  ·exact⟨N,by omega,b,λa f d=>by omega⟩
  ·obtain⟨i,f,d,g⟩:=H4 p N ⟨i,by
    rcases asQ i N with c|c
    ·exact c
    ·have:i=N:=by omega
     subst this;exact absurd e b,e⟩
   refine⟨i,by omega,d,λa j l=>?_⟩;by_cases k:a=N
   ·subst k;exact b
   ·exact g a j (by omega)
def sP:∀(a:List En) (h:Hp) (k:Nat),(∀u∈a,eK k u.os=false)->aY (y7 h a) k=aY h k
 |[],h,k,_=>rfl
 |u::a,h,k,b=>by rw[y7,sP a _ k (λv c=>b v (by simp[c])),CQ (b u (by simp))]
def y8:∀(a:List En) (h:Hp) (k i:Nat) (u:En),a[i]? =some u->eK k u.os=true->(∀(c:Nat) d,i<c->a[c]? =some d->eK k d.os=false)->aY (y7 h a) k=aY u.os k
 |[],h,k,i,u,b,_,_=>by simp at b
 |v::a,h,k,0,u,b,f,e=>by
  simp at b;subst b;rw[y7,sP a _ k (λw m=>by
   obtain⟨j,l,rfl⟩:=aqY m;exact e (j+1) _ (by omega) (by simp[aqm l])),F3 f]
 |v::a,h,k,i+1,u,b,f,e=>by
  rw[y7];exact y8 a _ k i u (by simpa using b) f λc d n g=>e (c+1) d (by omega) (by simpa using g)
def iQ:bz (jq C B K) d=if C=some d then B else bz K d:=by
 cases C with
 |none=>simp[jq]
 |some C=>
  simp only[jq,bz];by_cases h:d=C
  ·subst h;simp
  ·have:¬C=d:=λe=>h e.symm
   simp[h,this]
def y9:∀(a:List En) (t:List (Nat×AV)) (x:Nat),(∀u∈a,u.d≠some x)->bz (Bp t a) x=bz t x
 |[],t,x,_=>rfl
 |u::a,t,x,b=>by rw[Bp,y9 a _ x (λv c=>b v (by simp[c])),iQ,aqc (b u (by simp))]
def F4:∀(a:List En) (t:List (Nat×AV)) (x i:Nat) (u:En),a[i]? =some u->u.d=some x->(∀(c:Nat) d,i<c->a[c]? =some d->d.d≠some x)->bz (Bp t a) x=u.c
 |[],t,x,i,u,b,_,_=>by simp at b
 |v::a,t,x,0,u,b,f,e=>by
  simp at b;subst b;rw[Bp,y9 a _ x (λw k=>by
   obtain⟨j,h,rfl⟩:=aqY k;exact e (j+1) _ (by omega) (by simp[aqm h])),iQ,aqd f]
 |v::a,t,x,i+1,u,b,f,e=>by
  rw[Bp];exact F4 a _ x i u (by simpa using b) f λc d l g=>e (c+1) d (by omega) (by simpa using g)
section
section
variable{P:Program}{l:List Oper}{mw:St}{pl:List En}{S:Nat->Bool}{st:St}
def lW(n:CU P l mw pl)(q:Nat->En->Prop)(h:∃i u,pl[i]? =some u/\q i u):∃i u,pl[i]? =some u/\q i u/\∀a b,i<a->pl[a]? =some b->¬q a b:=by
 obtain⟨i,u,e,c⟩:=h;obtain⟨i,m,⟨u,k,c⟩,f⟩:=H4 (λi=>∃u,pl[i]? =some u/\q i u) pl.length ⟨i,(aqh.1 e).1,u,e,c⟩;exact⟨i,u,k,c,λa b g d j=>f a g (aqh.1 d).1 ⟨b,d,j⟩⟩
def Inv.kn(m:CU P l mw pl)(n:Inv mw pl S st){u:En}(W:l[d]? =some F)(y:pl[d]? =some u)(Q:oP l S)(D:S d=false)(X:∀e∈F.after,Region.binds .any e=true->S e.on=true):
 Kn l mw (pl.take d) F u st:=by
 have a7:d<pl.length:=(aqh.1 y).1;have a0:(pl.take d).length=d:=by simp;omega
 have a1:oP l (λi=>S i||i==d):=λi C B c e H A=>by
  by_cases w:i=d
  ·subst w
   obtain rfl:=aql (W.symm.trans B);simp[X e H A]
  ·have:S i=true:=by simpa[w]using c
   simp[Q i C B this e H A]
 have a2:∀i,dT l d i=true->i≠d->S i=true:=λi A w=>by
  have:=eV a1 d i A (by simp);simpa[w]using this
 have L:∀i,S i=true->dT l i d=false:=λi c=>by
  cases h:dT l i d with
  |false=>rfl
  |true=>rw[eV Q i d h c]at D;cases D
 have M:∀(i:Nat) v,pl[i]? =some v->S i=true->v.c.fX u.fr=true/\qA u.fr v.os=true:=λi v b c=>by
  rcases arV i d with h|h|h
  ·exact(m.fit i d v u h b y).2.1
  ·subst h;rw[D]at c;cases c
  ·rcases(m.fit d i u v h y b).2.2 with f|f
   ·exact f
   ·rw[L i c]at f;cases f
 have R:∀(i:Nat) v,pl[i]? =some v->∃C,l[i]? =some C/\C.dst=v.d:=λi v b=>by
  have J:i<l.length:=by rw[<-m.len];exact(aqh.1 b).1
  exact⟨l[i],aqm J,(m.step i _ v (aqm J) b).1⟩
 have a3:∀k,u.fr k=true->aY st.h k=none:=λk r=>by
  rw[n.h0 k λi v b c=>oQ (M i v b c).2 r];exact nh (oQ (m.WB d u y).2 r)
 refine⟨n.n,λx K=>?_,λx K=>?_,λe H A v a b s=>?_,λk r=>?_,λx=>?_,λk ob r=>?_,a3⟩
 ·refine n.t0 x λi v b _ s=>?_
  obtain⟨C,B,N⟩:=R i v b;have:=aqD.1 K C (aqw B);rw[N,s]at this;simp at this
 ·rw[a0]at K
  refine n.t0 x λi v b c s=>?_;obtain⟨C,B,N⟩:=R i v b;have J:i<l.length:=(aqh.1 B).1;have:=aqD.1 K i (by simpa using J);simp only[B,N,s,L i c,Bool.or_false,ara]at this;rcases this with h|h
  ·simp at h
  ·have:i=d:=by simpa using h
   subst this;rw[D]at c;cases c
 ·have I:=m.back d F W e H A
  rw[aqT,aqd I]at b;exact n.ts e.on v a b (X e H A) s
 ·
  have Y:∀(i:Nat) v,pl[i]? =some v->eK k v.os=true->(i<d->S i=true)/\(S i=true->i<d\/∃ob,aY v.os k=some ob/\u.al k ob):=λi v b j=>by
   obtain⟨p,a4,O⟩:=arW.1 j;have O:p.1=k:=by simpa using O
   refine⟨λI=>?_,λc=>?_⟩
   ·rcases(m.fit i d v u I b y).1 with f|f
    ·have:=aqD.1 f.1 p a4
     simp only[aqe,O,r]at this;simp at this
    ·exact a2 i f (by omega)
   ·rcases arV i d with h|h|h
    ·exact .inl h
    ·subst h;rw[D]at c;cases c
    ·rcases(m.fit d i u v h y b).1 with f|f
     ·exact .inr (f.2 k j r)
     ·rw[L i c]at f;cases f
  by_cases U:∃i v,pl[i]? =some v/\(S i=true/\d<i/\eK k v.os=true)
  ·obtain⟨i,v,b,⟨c,a6,j⟩,E⟩:=lW m (λi v=>S i=true/\d<i/\eK k v.os=true) U
   rcases(Y i v b j).2 c with h|⟨ob,f,q⟩
   ·omega
   ·exact .inr ⟨ob,(n.hs k i v b c j λz o G h4 h5=>by
     cases g:eK k o.os with
     |false=>rfl
     |true=>exact absurd ⟨h5,by omega,g⟩ (E z o G h4)).trans f,q⟩
  refine .inl ?_;have Z:∀(i:Nat) v,pl[i]? =some v->eK k v.os=true->S i=true->i<d:=λi v b j c=>by
   rcases arV i d with h|h|h
   ·exact h
   ·subst h;rw[D]at c;cases c
   ·exact absurd ⟨i,v,b,c,h,j⟩ U
  by_cases t:∃i v,pl[i]? =some v/\(i<d/\eK k v.os=true)
  ·obtain⟨i,v,b,⟨w,j⟩,E⟩:=lW m (λi v=>i<d/\eK k v.os=true) t
   rw[n.hs k i v b ((Y i v b j).1 w) j λz o f q G=>?_]
   ·refine(y8 _ _ k i v (by rw[aqT,aqd w];exact b) j λz o f q=>?_).symm
    rw[aqT]at q;split at q
    ·rename_i I
     cases g:eK k o.os with
     |false=>rfl
     |true=>exact absurd ⟨I,g⟩ (E z o f q)
    ·cases q
   ·cases g:eK k o.os with
    |false=>rfl
    |true=>exact absurd ⟨Z z o q g G,g⟩ (E z o f q)
  ·rw[n.h0 k λi v b c=>?_,sP _ _ k λv b=>?_]
   ·obtain⟨i,V,rfl⟩:=aqY b
    have w:i<d:=by rw[a0]at V;exact V
    have a5:pl[i]? =some ((pl.take d)[i]):=by
     rw[List.getElem_take];exact aqm (by omega)
    cases g:eK k ((pl.take d)[i]).os with
    |false=>rfl
    |true=>exact absurd ⟨i,_,a5,w,g⟩ t
   ·cases g:eK k v.os with
    |false=>rfl
    |true=>exact absurd ⟨i,v,b,Z i v b g c,g⟩ t
 ·by_cases t:∃(i:Nat) (v:En),pl[i]? =some v/\S i=true/\v.d=some x
  ·obtain⟨i,v,b,c,s⟩:=t
   rw[n.ts i v x b c s];exact(M i v b c).1
  ·rw[n.t0 x λi v b c s=>t ⟨i,v,b,c,s⟩]
   exact CR (m.WB d u y).1 x
 ·by_cases t:∃i v,pl[i]? =some v/\(S i=true/\eK k v.os=true)
  ·obtain⟨i,v,b,⟨c,j⟩,E⟩:=lW m (λi v=>S i=true/\eK k v.os=true) t
   rw[n.hs k i v b c j λz o f q G=>by
    cases g:eK k o.os with
    |false=>rfl
    |true=>exact absurd ⟨G,g⟩ (E z o f q)]at r
   exact CW (M i v b c).2 r
  ·rw[n.h0 k λi v b c=>by
    cases g:eK k v.os with
    |false=>rfl
    |true=>exact absurd ⟨i,v,b,c,g⟩ t]at r
   exact CW (m.WB d u y).2 r
def Inv.step(n:CU P l mw pl)(g:Inv mw pl S st){j:Nat}{o:Oper}{u:En}(W:l[j]? =some o)(f:pl[j]? =some u)(L:oP l S)(D:S j=false):
 Inv mw pl (λi=>S i||i==j) ⟨st.n,jq u.d u.c st.t,u.os++st.h⟩:=by
 have M:∀i,S i=true->dT l i j=false:=λi b=>by
  cases h:dT l i j with
  |false=>rfl
  |true=>rw[eV L i j h b]at D;cases D
 have y:∀i,S i=true->(S i||i==j)=true:=λi h=>by simp[h]
 have A:∀(i:Nat) v,pl[i]? =some v->∃r,l[i]? =some r/\r.dst=v.d:=λi v a=>by
  have C:i<l.length:=by rw[<-n.len];exact(aqh.1 a).1
  exact⟨l[i],aqm C,(n.step i _ v (aqm C) a).1⟩
 refine⟨g.n,λx I=>?_,λi v d a b w=>?_,λk E=>?_,λk i v a b m F=>?_⟩
 ·simp only[iQ]
  rw[aqc (I j u f (by simp))];exact g.t0 x λi v a b=>I i v a (y i b)
 ·simp only[iQ]
  by_cases e:i=j
  ·subst e
   obtain rfl:=aql (f.symm.trans a);rw[aqd w]
  ·have O:u.d≠some d:=λR=>by
    obtain⟨r,c,s⟩:=A i v a;obtain⟨U,t,K⟩:=A j u f;exact e (gD n.inj i j r U d c t (s.trans w) (K.trans R))
   rw[aqc O];exact g.ts i v d a (by simpa[e]using b) w
 ·show aY (u.os++st.h) k=_
  rw[CQ (E j u f (by simp))];exact g.h0 k λi v a b=>E i v a (y i b)
 ·show aY (u.os++st.h) k=_
  by_cases e:i=j
  ·subst e
   obtain rfl:=aql (f.symm.trans a);exact F3 m _
  ·have H:S i=true:=by simpa[e]using b
   have N:eK k u.os=false:=by
    cases B:eK k u.os with
    |false=>rfl
    |true=>
     obtain⟨p,X,G⟩:=arW.1 m;have G:p.1=k:=by simpa using G
     obtain⟨q,Q,z⟩:=arW.1 B;have z:q.1=k:=by simpa using z
     rcases arV i j with h|h|h
     ·have:=F j u h f (by simp)
      rw[B]at this;cases this
     ·exact absurd h e
     ·rcases(n.fit j i u v h f a).1 with c|c
      ·have:=aqD.1 c.1 q Q
       simp only[aqe,z,m]at this;simp at this
      ·rw[M i H]at c;cases c
   rw[CQ N];exact g.hs k i v a H m λJ V c s t=>F J V c s (y J t)
def Inv.fin(p:CU P l mw pl)(f:Inv mw pl S st)(t:∀j,j<l.length->S j=true):(∀x,bz (Bp mw.t pl) x=bz st.t x)/\∀k,aY (y7 mw.h pl) k=aY st.h k:=by
 have r:∀(i:Nat) v,pl[i]? =some v->S i=true:=λi v a=>t i (by rw[<-p.len];exact(aqh.1 a).1);refine⟨λx=>?_,λk=>?_⟩
 ·by_cases d:∃(i:Nat) (v:En),pl[i]? =some v/\v.d=some x
  ·obtain⟨i,v,a,b,o⟩:=lW p (λi v=>v.d=some x) d
   rw[F4 pl _ x i v a b o,f.ts i v x a (r i v a) b]
  ·rw[y9 pl _ x λv a b=>by
    obtain⟨i,n,rfl⟩:=aqY a;exact d ⟨i,_,aqm n,b⟩,f.t0 x λi v a _ b=>d ⟨i,v,a,b⟩]
 ·by_cases d:∃(i:Nat) (v:En),pl[i]? =some v/\eK k v.os=true
  ·obtain⟨i,v,a,b,o⟩:=lW p (λi v=>eK k v.os=true) d
   have q:∀(e:Nat) c,i<e->pl[e]? =some c->eK k c.os=false:=λe c g h=>by
    cases m:eK k c.os with
    |false=>rfl
    |true=>exact absurd m (o e c g h)
   rw[y8 pl _ k i v a b q,f.hs k i v a (r i v a) b λe c g h _=>q e c g h]
  ·have s:∀(i:Nat) v,pl[i]? =some v->eK k v.os=false:=λi v a=>by
    cases m:eK k v.os with
    |false=>rfl
    |true=>exact absurd ⟨i,v,a,m⟩ d
   rw[sP pl _ k λv a=>by
    obtain⟨i,n,rfl⟩:=aqY a;exact s i _ (aqm n),f.h0 k λi v a _=>s i v a]
def Ph{K:St->Prop}(n:l[d]? =some F)(h:GS P l.toArray F st K){next:Act->World->Prop}
 (k:Ga I c u st D g) (m:∀e,K e->∀i b f,Ga I c i e b f->next b f):wpOp P l.toArray Q d next D g:=by
 have:=h I c u D g next Q k m
 unfold wpOp;have j:l.toArray[d]? =some F:=by simpa using n
 rw[j];simp only;split
 ·rename_i a;rw[aqd a]at this;exact .inl this
 ·rename_i a;rw[aqc a]at this;exact this
def CU.any(s:CU P l mw pl){w0:Bs}{Rd0:Nat->Nat->Value->Prop}{Q:Exit->Act->World->Prop}(V:∀e a w,Ga w0 Rd0 e ⟨mw.n,Bp mw.t pl,y7 mw.h pl⟩ a w->Q .normal a w):
 ∀(k:Nat) (c:Array Bool) (st:St) (e:Env) (a:Act) (w:World),c.size=l.length->oP l (λi=>c.getD i false)->(∀m,m=(c.toList.filter (·==false)).length->m=k)->Inv mw pl (λi=>c.getD i false) st->Ga w0 Rd0 e st a w->
 wpAny P .any l.toArray Q k c a w:=by
 intro k
 induction k with
 |zero=>
  intro c st e a w F x z u B;have M:∀j,j<l.length->c.getD j false=true:=λj g=>by
   have R:(c.toList.filter (·==false)).length=0:=z _ rfl;have f:c.toList.filter (·==false)=[]:=arh R;have C:j<c.size:=by omega
   have:c[j]∈c.toList:=by simp
   have d:=au4.1 f _ this;have:c[j]=true:=by simpa using d
   simp[C,this]
  have K:=u.fin s M;refine⟨?_,?_⟩
  ·rw[arX]
   intro j g;obtain⟨f,o,v,_⟩:=asX.1 g;have E:j<l.length:=by
    have:=(aqU.1 v).1;simp at this;exact this
   have d:=M j E;rw[atF f]at d;cases d
  ·obtain⟨A,hg⟩:=(bX.same (P:=P) (n:=mw.n) K.1 K.2) w0 Rd0 e a w (by have:=B;rw[<-u.n];exact this)
   exact V A a w hg
 |succ k ih=>
  intro c st e a w F x z u B;have a9:∃j,j<l.length/\c.getD j false=false:=by
   have f:(c.toList.filter (·==false)).length=k+1:=z _ rfl;have d:c.toList.filter (·==false)≠[]:=λh=>by rw[h]at f;simp at f
   obtain⟨b,p⟩:=ath _ d;obtain⟨W,X⟩:=ar_.1 p;obtain⟨j,g,a3⟩:=aqY W;refine⟨j,by rw[<-F];simp at g;exact g,?_⟩;have C:j<c.size:=by simp at g;exact g
   have:c[j]=b:=by simpa using a3
   have Y:b=false:=by simpa using X
   simp[C,this,Y]
  refine⟨λa8=>?_,λj g=>?_⟩
  ·
   exfalso;obtain⟨j,a1,a2⟩:=a9;have:∀j,j<l.length->c.getD j false=false->False:=by
    intro j
    induction j using Nat.strongRecOn with
    |_ j ae=>
     intro f d;have v:l[j]? =some l[j]:=aqm f;by_cases t:∀e∈(l[j]).after,Region.binds .any e=true->c.getD e.on false=true
     ·have:j∈Region.ready .any l.toArray c:=asX.2 ⟨getD_in (by omega) d,l[j],by simp,t⟩
      rw[a8]at this;cases this
     ·simp only[au5]at t
      obtain⟨e,Z,p,a7⟩:=t;have y:=s.back j _ v e Z p;exact ae e.on y (by omega) (by simpa using a7)
   exact this j a1 a2
  ·obtain⟨f,o,v,t⟩:=asX.1 g
   have r:l[j]? =some o:=by simpa using v
   have E:j<l.length:=(aqh.1 r).1;have a4:j<pl.length:=by rw[s.len];exact E
   have G:pl[j]? =some pl[j]:=aqm a4;have D:c.getD j false=false:=atF f;have a5:=u.kn s r G x D t;refine Ph r ((s.step j o _ r G).2 st a5) B λaf ac A O w' a0=>?_;subst ac;have I:(λi=>(c.setIfInBounds j true).getD i false)=λi=>c.getD i false||i==j:=by
    funext i;by_cases q:i=j
    ·subst q
     simp[ary,show i<c.size by omega]
    ·have d:¬j=i:=λh=>q h.symm
     simp[ary,aua,d,q]
   refine ih _ _ A O w' (by simpa using F) ?_ ?_ ?_ a0
   ·rw[I]
    intro i oi N aa H J p;by_cases q:i=j
    ·subst q
     obtain rfl:=aql (r.symm.trans N);simp[t H J p]
    ·have ab:c.getD i false=true:=by simpa[q]using aa
     have:=x i oi N ab H J p;simp[this]
   ·intro m a6
    have d:(c.toList.filter (·==false)).length=k+1:=z _ rfl;have U:∀(L:List Bool) (j:Nat),L[j]? =some false->((L.set j true).filter (·==false)).length+1=(L.filter (·==false)).length:=by
     intro L
     induction L with
     |nil=>intro j h;simp at h
     |cons b L ad=>
      intro j h;cases j with
      |zero=>simp at h;subst h;simp
      |succ j=>
       have:=ad j (by simpa using h);cases b<;>simp_all<;>omega
    have h4:=U c.toList j (by
     have y:j<c.size:=by omega
     have:c[j]=false:=by simpa[y]using D
     simp[y,this])
    rw[as4]at a6;omega
   ·rw[I]
    exact u.step s r G x D
def AC.an2{id:Nat}{t:Exit->St->Prop}(B:P.follows .mixedOrders=true)(E:CU P l mw pl)(h:t .normal ⟨mw.n,Bp mw.t pl,y7 mw.h pl⟩):AC G P (.region id l.toArray true) mw t:=by
 intro r n s e a w Q F v D;refine wpIn_region_any B (lA (λx c g q=>?_) _ _ _ _ (vQ (r:=r) (m:=n.df.length) (l0:=CJ l) (a0:=a)
  (Q:=λx c g=>x=.normal/\c.defers.length<=n.df.length/\∃f,Ga n s f ⟨mw.n,Bp mw.t pl,y7 mw.h pl⟩ c g) (λx c g q=>⟨q.1,q.2.1⟩)
  (λi o y d z=>F1 z (l:=l) (aqw (by simpa using y))) _ _ a _ (by rw[v.d];exact aqf _) (Kp.refl _ _)
  (E.any (w0:=n) (Rd0:=s) (λf c g p=>⟨rfl,by rw[p.d];exact aqf _,f,p⟩) _ _ mw e a _ (by simp) ?_ ?_ ?_ (v.later ((Ext.refl w).drewN 1)))))
 ·obtain⟨⟨rfl,_,f,p⟩,A⟩:=q
  exact D .normal _ h n s Bk.refl f c g p (by simpa[wrL]using A)
 ·intro j o y b
  have b:(Array.replicate l.toArray.size false).getD j false=true:=b;rw[ati]at b;cases b
 ·intro m C
  rw[C];simp
 ·exact⟨rfl,λx _=>rfl,λi u d _ b=>(by
   have b:(Array.replicate l.toArray.size false).getD i false=true:=b;rw[ati]at b;cases b),λk _=>rfl,λk i u _ b=>(by
   have b:(Array.replicate l.toArray.size false).getD i false=true:=b;rw[ati]at b;cases b)⟩
